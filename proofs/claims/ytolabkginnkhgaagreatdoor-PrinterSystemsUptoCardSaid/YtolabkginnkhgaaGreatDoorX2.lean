/- Proved here: lemmas that the claim's text uses. Conditions: those that each lemma states. -/
import Derived.OrdersHeld
import Derived.Deep.LoopGhost
import Derived.Shelf.Strings.Builder1
import Derived.Shelf.Strings.Builder2
import Derived.Shelf.Small.Utf8
import Derived.Shelf.Strings.BuilderF
import Derived.Shelf.Strings.BuilderK
import Derived.Shelf.Utf8.AppendRune
import Derived.Shelf.Utf8.RuneCount
import Derived.Shelf.Strings.Builder2Cap
import Derived.Shelf.Strings.Search1
import Derived.Shelf.Strings.Search2
import Derived.Shelf.Strings.Search3
import Derived.Shelf.Strings.Count
import Derived.Shelf.LaysM
import Derived.Shelf.Strings.Shaped
import Derived.Shelf.Strings.Prefix
import Derived.Shelf.Strings.Split
import Derived.Shelf.Unicode.Decode
import Derived.Shelf.Strings.RuneCount
import Derived.Shelf.Bits.Mul64
import Derived.Shelf.Strings.Repeat
import Derived.Shelf.Unicode.DecodeSlow
import Derived.Shelf.Unicode.DecodeAny
import Derived.Test.YtolabkginnkhgaaGreatDoorProg
import Derived.IntWalk
import Derived.Lib.MapLaws
import Derived.Lib.TrimUEq
import Derived.Lib.QuoteLoop
import Derived.Lib.QuoteBits
import Derived.Test.YtolabkginnkhgaaGreatDoorX1
set_option maxRecDepth 100000
set_option linter.unusedVariables false
set_option linter.unusedSimpArgs false
open Go.IntKind renaming wrap→Aw,i32→Gf
open List renaming length→Ax,drop→Ba,length_drop→Bb,length_cons→Be,drop_eq_nil_of_le→Bi,length_append→Bo,getElem_mem→Bp,take_of_length_le→Bq,length_nil→Bw,append_nil→Bx,all_cons→By,drop_eq_getElem_cons→Bz,flatMap_cons→Ca,take_succ_eq_append_getElem→Cc,getElem?_eq_getElem→Cd,all_eq_true→Ce,all_append→Cf,map_cons→Ci,map→Cj,length_take→Ck,cons_append→Cn,nil_append→Dk,length_pos_iff→Dl,drop_drop→Dm,eq_nil_of_length_eq_zero→Fc,append_assoc→Fe,length_take_le→Fk,length_map→Fl,getElem?_drop→Fm,flatMap_append→Fo,take_append_drop→Fz,mem_cons→Ga,map_nil→Gb,getD_cons_zero→Gc,dropWhile_cons→Ge,nil_prefix→Hf,map_drop→Hg,getD_cons_succ→Hh,any_cons→Hi,take_zero→Jh,take_succ_cons→Ji,take_sublist→Jj,take_append_getElem→Jk,takeWhile_cons→Jl,reverse_reverse→Jm,reverse_append→Jn,mem_of_mem_drop→Jo,map_reverse→Jp,getElem?_eq_none→Jq,getElem?_cons_succ→Jr,drop_succ_cons→Js,dropWhile_sublist→Jt,cons_beq_cons→Ju
open Int renaming toNat→Ay,tmod→Cb,tdiv→Cl,toNat_natCast→Co,tmod_eq_emod_of_nonneg→Ff,emod_nonneg→Fg,emod_lt_of_pos→Fh,tdiv_eq_ediv_of_nonneg→Gg,pow_succ→Hj,pow_pos→Jx
open Go.Lib renaming decodeL→Az,decodeL_width→Do,decodeL_le→Fs,run_unsafeString_none→Jv,decodeGo→Jw
open Go.Proofs.Tryz renaming prog→Bf,f234→Bj,f163→Br,f155→Bu,f212→Ch,zeroValue9→Ct,zeroValue5→Cu,zeroValue3→Cv,underlying9→Cw,underlying5→Cx,underlying3→Cy,sizeOf9→Cz,sizeOf5→Da,sizeOf3→Db,isAgg9→Dc,isAgg5→Dd,isAgg3→De,f52→Df,f237→Dg,f225→Dh,f120→Di,zeroValue4→Ds,zeroValue0→Du,underlying4→Dv,underlying0→Dw,sizeOf4→Dx,sizeOf0→Dy,isAgg4→Dz,isAgg0→Ea,f245→Eb,f243→Ec,f242→Ed,f240→Ee,f233→Ef,f232→Eg,f226→Eh,f223→Ei,f214→Ej,f202→Ek,f201→El,f199→Em,f198→En,f196→Eo,f193→Ep,f192→Er,f190→Es,f174→Et,f173→Eu,f171→Ev,f164→Ew,f156→Ey,f125→Ez,f122→Fa,zeroValue203→Ft,underlying203→Fu,sizeOf203→Fv,isAgg203→Fw,zeroValue22→Gl,zeroValue107→Gm,zeroValue105→Gn,underlying22→Gp,underlying107→Gq,underlying105→Gr,sizeOf22→Gt,sizeOf107→Gu,sizeOf105→Gv,isAgg22→Gw,isAgg107→Gx,isAgg105→Gy,zeroValue319→Ho,zeroValue318→Hp,zeroValue281→Hq,zeroValue265→Hr,zeroValue264→Hs,zeroValue21→Ht,zeroValue20→Hu,zeroValue172→Hv,underlying319→Hw,underlying318→Hx,underlying316→Hy,underlying281→Hz,underlying265→Ia,underlying264→Ib,underlying21→Ic,underlying20→Ie,underlying172→If,sizeOf319→Ig,sizeOf318→Ih,sizeOf316→Ii,sizeOf281→Ij,sizeOf265→Ik,sizeOf264→Il,sizeOf21→Im,sizeOf20→Io,sizeOf172→Ip,isAgg319→Iq,isAgg318→Ir,isAgg316→It,isAgg281→Iu,isAgg265→Iv,isAgg264→Iw,isAgg21→Ix,isAgg20→Iy,isAgg172→Iz
open Nat renaming le_refl→Bg,zero_le→Bh,lt_of_lt_of_le→Fy,not_lt_zero→Hc,add_assoc→He,mul_le_mul_right→Jc,lt_or_ge→Jd,and_two_pow_sub_one_eq_mod→Je,add_zero→Jf,add_sub_cancel→Jg
open Go renaming run_underlying→Bl,FuncId→Cr,Program→Dj,wpAnyH→Dn,TypeId→Dr,liesAt→Fi,loadBytes→Gj
open List.cons renaming injEq→Bm
open Bool renaming and_eq_true→Bn,cond_decide→Cs,false_eq_true→Fq,true_and→Hl,and_true→Jz
open Go.World renaming cell?_of_block→Cg,cell?→Fj,shape?→Gk
open Eq renaming trans→Cm
open Go.Shelf renaming Ren→Cp
open UInt8 renaming toNat→Cq,ofNat→Dq
open Go.Utf8 renaming decode→Dp
open Option.some renaming inj→Fb
open Go.Proofs.Builder renaming Extra→Fp
open Go.Result renaming andThen→Fx
open BitVec renaming ofInt→Gi,toNat_and→Kb
open Go.Region renaming ready→Gz,wanted→Ja
open Prod renaming ext→Ha
open Go.Oper renaming upon_value→Hb
open Go.Builtin renaming unsafeSliceData_→Hk,unsafeString_→Jy
open BEq renaming comm→Hm
open Array renaming getElem?_eq_some_iff→Hn,getElem?_modify→Kc
open Option renaming map_eq_some_iff→Jb
open Go.Proofs.Body renaming n169_ntmps→Ka
open Go.Proofs.Lays renaming n260→Kd,n197→Ke,n169→Kf,n165→Kg,n138→Kh,n105→Ki,n101→Kj
open Go.Extern.AbiNoEscape renaming same→Kk
section
open Go.Lib
namespace Go.Aev
def A1w:Code->Array Oper
 | .region _ ops _=>ops
 |_=> #[]
def opN(c:Code)(j:Nat):Oper:=((A1w c).toList[j]?).getD ⟨none,.move (.const undef),0, "", #[],none⟩
def B3E(c:Code):Nat->Nat->List Oper
 |_,0=>[]
 |j,m+1=>opN c j::B3E c (j+1) m
section
variable {P:Dj}{Q:Exit->Act->World->Prop}{a:Act}{w w':World}{c:Code}{n:Nat}{fr:List (Nat×Value)}{o:Oper}{K:Act->World->Prop}
theorem E3(id m:Nat)(h:c=.region id (A1w c) false)(h2:(A1w c).toList=B3E c 0 m)(hw:wpList P (A1w c) Q (B3E c 0 m) a w):c.wp P Q a w:=by
 rw[h];refine wp_region_list ?_;rw[h2];exact hw
theorem Q8(h:c=.skip)(hq:Q .normal a w):c.wp P Q a w:=by rw[h];exact wp_skip hq
theorem A5H(id:Nat)(h:c=.exit id)(hq:Q (.exit id) a w):c.wp P Q a w:=by rw[h];exact wp_exit hq
theorem A4s(h:c=.ret)(hq:Q .ret a w):c.wp P Q a w:=by rw[h];exact wp_ret hq
theorem B5b{S:World->Prop}(hm:P.follows .mixedOrders=true)(id m:Nat)(h:c=.region id (A1w c) true)(hs:(A1w c).size=m)
  (hw:Dn P .any (A1w c) (L7 Q) S m (Array.replicate m false) a {w with drawn:=w.drawn+1}):c.wp P Q a w:=by
 rw[h];refine Code.wp_mono (Q:=L7 Q) (λe a w h=>by cases e<;>first|exact h|exact h.elim) ?_;subst hs;exact wp_region_held hm hw
theorem C9V{ops:Array Oper}{S:World->Prop}{listed:Array Bool}{fuel i d:Nat}{v:Value}(tm:Tm a n fr)(hi:ops[i]?=some o)(hs:Region.noSelect ops=true)(hf:Region.free .any ops listed i=true)
  (hr:(Gz .any ops listed).contains i=true)(hg:o.guard=none)(aO:o.dst=some d)(hd:Nat.blt d n=true)(hS:S w)(af:∀w,S w->(execOp a.eval o).run P w=.ok (.value v) w)
  (hk:∀a',Tm a' n ((d,v)::fr)->Dn P .any ops (L7 Q) S fuel (listed.setIfInBounds i true) a' w):Dn P .any ops (L7 Q) S (fuel+1) listed a w:=by
 refine wpAnyH_take hi hs hf hr (λ_ _ _ h=>h.elim) (.inl ⟨by simp[Ja,hg],af⟩) hS ?_;rw[aO];exact hk _ (tm.put hd)
theorem B2w{ops:Array Oper}{S:World->Prop}{listed:Array Bool}{fuel i:Nat}(hr:Gz .any ops listed=[i])(hi:ops[i]?=some o)(hg:o.guard=none)
  (h:∀K:Act->World->Prop,(∀a' w',S w'->Dn P .any ops (L7 Q) S fuel (listed.setIfInBounds i true) a' w'->K a' w')->o.wp P a w K (L7 Q)):Dn P .any ops (L7 Q) S (fuel+1) listed a w:=by
 refine wpAnyH_all hr (by simp) λj hj=>?_;rcases List.mem_singleton.1 hj with rfl
 unfold Go.wpOp;simp only[hi];rw[Au (by simp[Ja,hg])];exact .inl (h _ λa' w' h1 h2=>⟨h1,h2⟩)
theorem B2T{ops:Array Oper}{S:World->Prop}{listed:Array Bool}(hr:Gz .any ops listed=[])(h:Q .normal a w)(fuel:Nat):Dn P .any ops (L7 Q) S fuel listed a w:=wpAnyH_done (Q:=L7 Q) hr h fuel
end
def Bk(w:World)(b:Nat)(us:Ai):Prop:=
 ∃c e fz,w.heap[b]?=some (.cells c e fz)/\us.length<=c.size/\fz.2=0/\∀(j:Nat) u,us[j]?=some u->c[j]?=some u
section
variable {w w':World}{b:Nat}{us:Ai}{S:Nat->Prop}{m m':Nat->Nat}
theorem Bk.cell(h:Bk w b us){j:Nat}{u:Value}(hj:us[j]?=some u):w.cell? ⟨b,j,none⟩=some u:=by
 obtain⟨c,e,fz,h1,h2,h3,h4⟩:=h;simp[Fj,h1,h4 j u hj]
theorem Bk.lt(h:Bk w b us):b<w.heap.size:=by
 obtain⟨c,e,fz,h1,_⟩:=h;exact(Hn.1 h1).1
theorem Bk.frame(h:Bk w b us)(hb:w'.heap[b]?=w.heap[b]?):Bk w' b us:=by
 obtain⟨c,e,fz,h1,h2⟩:=h;exact⟨c,e,fz,hb.trans h1,h2⟩
theorem KM.bk(k:KM w m w' m' S)(h:Bk w b us)(hS:¬S b):Bk w' b us:=h.frame (k.heap b h.lt hS).1
theorem A6T{zc:Ai}{t:Dr}:Bk (w.alloc (.cells zc.toArray t)) w.heap.size zc:=
 ⟨zc.toArray,t,(0,0),by show(w.heap.push _)[w.heap.size]?=_;simp,by simp,rfl,λj u hj=>by simpa using hj⟩
theorem Bk.store(P:Dj)(h:Bk w b us){off:Nat}{vs:Ai}(aZ:off+vs.length<=us.length)(aW:∀v∈vs,v.oneCell'=true)(hm:m b=0)(hz:∀b,w.heap.size<=b->m b=0):
  (storeCells ⟨b,off,none⟩ vs).run P w=.ok () (I5 w b off vs)/\Bk (I5 w b off vs) b (Y8 us off vs)/\KM w m (I5 w b off vs) m (λk=>k=b):=by
 obtain⟨c,e,fz,h1,h2,h3,h4⟩:=h;obtain⟨s1,⟨c',s2,s3,s4,s5⟩,s6,s7,s8,s9,ju⟩:=A5i P b e fz vs off w c h1 (by omega) (λj h5 h6=>by omega) aW;obtain⟨o1,o2⟩:=B13 us off vs aZ;refine⟨s1 _ 0 (by simp) (Bh _),⟨c',e,fz,s2,by rw[o1,s3];exact h2,h3,λj u hj=>?_⟩,⟨s8,s9,ju,by rw[s6];exact Bg _,λk _ hk=>⟨s7 k hk,rfl⟩,⟨A67 h1 s2 s7,λk o ho=>?_,λ_=>Bg _⟩,λk hk=>hz k (by rw[s6]at hk;exact hk)⟩⟩
 ·rw[o2]at hj;by_cases cE:off<=j/\j<off+vs.length
  ·rw[Au cE]at hj;have:=s5 (j - off) u hj;rw[show off+(j - off)=j by omega]at this;exact this
  ·rw[At cE]at hj;rw[s4 j (by omega)];exact h4 j u hj
 ·have hk:k≠b:=λe=>by rw[e,hm]at ho;omega
  exact Cg (a:=⟨k,o,none⟩) (s7 k hk)
theorem ArrN.store(P:Dj){sz n:Nat}{v:Value}{xs vs:Ai}(h:ArrN w sz v n xs){cap off:Nat}(hv:v=.slice (some ⟨b,0,none⟩) n cap)(hb:H5 v=some b)(aZ:off+vs.length<=xs.length)(aW:∀v∈vs,v.oneCell'=true)(hm:m b=0)(hz:∀b,w.heap.size<=b->m b=0):
  (storeCells ⟨b,off,none⟩ vs).run P w=.ok () (I5 w b off vs)/\ArrN (I5 w b off vs) sz v n (Y8 xs off vs)/\KM w m (I5 w b off vs) m (λk=>k=b):=by
 obtain⟨hl,a,eZ,da,qf,hc⟩:=h;rw[hv]at da;cases da;have h0:cap≠0:=λh0=>by rw[hv,h0]at hb;simp[H5]at hb
 obtain⟨b',c,e,fz,ha,h1,h2,h3,h4⟩:=hc.resolve_left h0;cases ha;have dO:n*sz<=cap*sz:=Jc _ qf;have xD:Bk w b xs:=⟨c,e,fz,h1,by omega,h3,h4⟩;obtain⟨s1,⟨c',s2,s3,s4,s5⟩,s6,s7,s8,s9,ju⟩:=A5i P b e fz vs off w c h1 (by omega) (λj h5 h6=>by omega) aW;obtain⟨q1,q2,q3⟩:=xD.store P aZ aW hm hz;obtain⟨c2,e2,rC,r1,r2,r3,r4⟩:=q2;obtain⟨o1,o2⟩:=B13 xs off vs aZ;rw[s2]at r1;cases r1;exact⟨q1,⟨by rw[o1];exact hl,_,cap,hv,qf,.inr ⟨b,c',e,fz,rfl,s2,by rw[s3];exact h2,h3,r4⟩⟩,q3⟩
theorem A7U{w:World}{m:Nat->Nat}(hz:∀b,w.heap.size<=b->m b=0):KM w m {w with drawn:=w.drawn+1} m (λ_=>False):=
 ⟨rfl,rfl,rfl,Bg _,λ_ _ _=>⟨rfl,rfl⟩,⟨A6X rfl,λ_ _ _=>rfl,λ_=>Bg _⟩,hz⟩
def H2(ρ:Nat->Nat)(n r:Nat):Nat->Nat:=λb=>if b<n then ρ b else r
structure Sys(w0:World)(m0:Nat->Nat)(M:Nat->Prop)(w:World)(m:Nat->Nat)(ρ:Nat->Nat):Prop where
 km:KM w0 m0 w m M
 zr:∀b,ρ b≠0->m b=0
 base:∀b,b<w0.heap.size->ρ b≠0->M b
variable {w0:World}{m0:Nat->Nat}{M:Nat->Prop}{ρ:Nat->Nat}
theorem Sys.z(h:Sys w0 m0 M w m ρ):∀b,w.heap.size<=b->m b=0:=h.km.zero
theorem Sys.step(h:Sys w0 m0 M w m ρ)(k:KM w m w' m' S)(hS:∀b,b<w.heap.size->S b->ρ b≠0)(xE:∀b,b<w.heap.size->S b->m' b=0)(r:Nat)(hr:r≠0->∀b,w.heap.size<=b->m' b=0):Sys w0 m0 M w' m' (H2 ρ w.heap.size r):=by
 classical
 refine⟨h.km.trans (k.mono (T:=λb=>S b) λ_ _ h=>h) λb hb hs=>?_,λb hb=>?_,λb hb hr=>?_⟩
 ·exact h.base b hb (hS b (Fy hb h.km.size) hs)
 ·unfold H2 at hb;by_cases ap:b<w.heap.size
  ·rw[Au ap]at hb;by_cases hs:S b
   ·exact xE b ap hs
   ·rw[(k.heap b ap hs).2];exact h.zr b hb
  ·rw[At ap]at hb;exact hr hb b (by omega)
 ·unfold H2 at hr;rw[Au (Fy hb h.km.size)]at hr;exact h.base b hb hr
theorem Sys.stepM(h:Sys w0 m0 M w m ρ)(k:KM w m w' m S)(hS:∀b,b<w.heap.size->S b->ρ b≠0)(r:Nat):Sys w0 m0 M w' m (H2 ρ w.heap.size r):=
 h.step k hS (λb hb hs=>h.zr b (hS b hb hs)) r (λ_ b hb=>h.z b hb)
theorem Sys.stay(h:Sys w0 m0 M w m ρ)(k:KM w m w' m S)(hS:∀b,b<w.heap.size->S b->ρ b≠0):Sys w0 m0 M w' m ρ:=by
 refine⟨h.km.trans k λb hb hs=>h.base b hb (hS b (Fy hb h.km.size) hs),h.zr,h.base⟩
theorem Sys.close(h:Sys w0 m0 M w m ρ)(k:KM w m w m' S)(hS:∀b,b<w.heap.size->S b->ρ b≠0){ρ':Nat->Nat}(h1:∀b,ρ' b≠0->ρ b≠0/\¬S b):Sys w0 m0 M w m' ρ':=by
 refine⟨h.km.trans k λb hb hs=>h.base b hb (hS b (Fy hb h.km.size) hs),λb hb=>?_,λb hb hr=>h.base b hb (h1 b hr).1⟩;by_cases ap:b<w.heap.size
 ·rw[(k.heap b ap (h1 b hb).2).2];exact h.zr b (h1 b hb).1
 ·exact k.zero b (by omega)
theorem J2{n r b:Nat}(h:b<n):H2 ρ n r b=ρ b:=Au h
theorem A0H{n r b:Nat}(h:n<=b):H2 ρ n r b=r:=At (by omega)
end
end Go.Aev
end
namespace Go.Aev
variable {Ty:Type}{den:Ty->Type}
def LsC(U:UO Ty den)(w:World)(m:Nat->Nat):List (Leaf Ty den)->Ai->Prop
 |[],[]=>True
 |l::ls,v::vs=>CRep U w m l v/\LsC U w m ls vs
 |_,_=>False
def clL:Leaf Ty den->Bool
 | .sl _ _ (some _)=>false
 | .ptr _ _=>false
 |_=>true
section
variable {P:Dj}{U:UO Ty den}{I:Inv}{w w':World}{m m':Nat->Nat}
theorem LsC.mono(hU:U.Ok)(hx:Ext w m w' m'):∀{ls:List (Leaf Ty den)}{vs:Ai},LsC U w m ls vs->LsC U w' m' ls vs
 |[],[],_=>trivial
 |_::_,_::_,h=>⟨h.1.mono hU hx,LsC.mono hU hx h.2⟩
 |[],_::_,h=>h.elim
 |_::_,[],h=>h.elim
theorem LsC.len:∀{ls:List (Leaf Ty den)}{vs:Ai},LsC U w m ls vs->ls.length=vs.length
 |[],[],_=>rfl
 |_::_,_::_,h=>by simp[LsC.len h.2]
 |[],_::_,h=>h.elim
 |_::_,[],h=>h.elim
theorem LsC.get:∀{ls:List (Leaf Ty den)}{vs:Ai},LsC U w m ls vs->∀(j:Nat) lf,ls[j]?=some lf->∃v,vs[j]?=some v/\CRep U w m lf v
 |[],[],_,j,lf,h=>by simp at h
 |_::_,_::_,h,0,lf,hj=>by cases hj;exact⟨_,rfl,h.1⟩
 |_::_,_::_,h,j+1,lf,hj=>by
  obtain⟨v,h1,h2⟩:=LsC.get h.2 j lf (by simpa using hj);exact⟨v,by simpa using h1,h2⟩
 |[],_::_,h,_,_,_=>h.elim
 |_::_,[],h,_,_,_=>h.elim
theorem LsC.of_rep{g:Gh}:∀{ls:List (Leaf Ty den)}{vs:Ai},LsRep U w g ls vs->LsC U w g.wm ls vs
 |[],[],_=>trivial
 |_::_,_::_,h=>⟨h.1.1,LsC.of_rep h.2⟩
 |[],_::_,h=>h.elim
 |_::_,[],h=>h.elim
theorem D51{lf:Leaf Ty den}{v:Value}{g:Gh}(h:clL lf=true):Own w g U lf v:=by
 cases lf with
 |sl t l o=>
  cases o with
  |none=>exact⟨λt l d e=>(by cases e),λ_ _ e=>(by cases e)⟩
  |some e=>cases h
 |ptr d o=>cases h
 |_=>exact⟨λt l d e=>(by cases e),λ_ _ e=>(by cases e)⟩
theorem B2y{lf:Leaf Ty den}{d:Nat}(h:clL lf=true):lf.has d=false:=by
 cases lf with
 |sl t l o=>
  cases o with
  |none=>rfl
  |some e=>cases h
 |ptr d o=>cases h
 |_=>rfl
theorem LsC.rep{g:Gh}(hg:g.wm=m):∀{ls:List (Leaf Ty den)}{vs:Ai},LsC U w m ls vs->ls.all clL=true->LsRep U w g ls vs
 |[],[],_,_=>trivial
 |l::ls,_::_,h,hc=>by
  rw[By,Bn]at hc;exact⟨⟨by rw[hg];exact h.1,D51 hc.1⟩,LsC.rep hg h.2 hc.2⟩
 |[],_::_,h,_=>h.elim
 |_::_,[],h,_=>h.elim
theorem B2u:∀{ls:List (Leaf Ty den)},ls.all clL=true->O0 ls=false
 |[],_=>rfl
 |l::ls,h=>by
  rw[By,Bn]at h;have ih:=B2u h.2;have h1:=h.1;cases l with
  |sl t x o=>
   cases o with
   |none=>exact ih
   |some e=>cases h1
  |ptr d o=>cases h1
  |_=>exact ih
def EC(U:UO Ty den)(w:World)(m:Nat->Nat)(e:Ent Ty den)(v:Value):Prop:=
 match e with
 | .one l=>CRep U w m l v
 | .tup ls=>∃vs:Ai,v=.tuple vs.toArray/\LsC U w m ls vs
 |_=>True
theorem A3E{f:Cr}{S:List (Leaf Ty den)->Option (Ent Ty den)}(snd:Sound P U I f S){ls:List (Leaf Ty den)}{r:Ent Ty den}{vs:Ai}(hS:S ls=some r)(hI:I w m)(hz:∀b,w.heap.size<=b->m b=0)(bc:LsC U w m ls vs)(hc:ls.all clL=true):
  Calls P f vs.toArray w λe w'=>∃v m',e=.returned v/\KM w m w' m' (λ_=>False)/\EC U w' m' r v:=by
 refine(snd.ok ls r hS w ⟨m,λ_=>.int .i64 0,λ_=>0,λ_=>0⟩ vs hI hz (bc.rep rfl hc) (λe=>by rw[B2u hc]at e;cases e) (λlf dc d hd=>by
  rw[B2y ((Ce.1 hc) lf dc)]at hd;cases hd)).mono λe w' ⟨v,g',he,p⟩=>⟨v,g'.wm,he,⟨p.os,p.tape,p.output,p.size,λb hb _=>p.frame b hb (λe=>by rw[B2u hc]at e;cases e.1),p.ext,p.zero⟩,?_⟩
 have:=p.rep;cases r with
 |one l=>exact this.1
 |tup ls=>obtain⟨vs,h1,h2⟩:=this;exact⟨vs,h1,LsC.of_rep h2⟩
 |_=>trivial
end
end Go.Aev
namespace Go.Proofs
open Go.Shelf
def Tryz.lays169_ren:Cp:=⟨λ|169=>29|n=>n,λ|70=>105|9=>9|0=>0|72=>107|37=>22|127=>172|3=>3|5=>5|n=>n,λ|n=>n⟩
theorem Tryz.lays169:Kf Bf Tryz.lays169_ren:={
 mixed:=by kernel_rfl
 f169:=Tryz.func29.trans (congrArg some (by kernel_rfl))
 t0:=Dw
 a0:=Ea
 z0:=Dy
 v0:=Du
 t3:=Cy
 a3:=De
 z3:=Db
 v3:=Cv
 t9:=Cw
 a9:=Dc
 z9:=Cz
 v9:=Ct
 t37:=Gp
 a37:=Gw
 z37:=Gt
 v37:=Gl
 t70:=Gr
 a70:=Gy
 z70:=Gv
 v70:=Gn
 t72:=Gq
 a72:=Gx
 z72:=Gu
 v72:=Gm
 t127:=If
 a127:=Iz
 z127:=Ip
 v127:=Hv}
theorem Tryz.Builder_Extra_169:Fp Bf Tryz.lays169_ren:={
 sizeBuilder:=by kernel_rfl
 liesBuilder:=by kernel_rfl
 t5:=Cx
 a5:=Dd
 z5:=Da
 v5:=Cu
 infoByte:=by kernel_rfl
 cellsByte:=by kernel_rfl
 sizeByte:=by kernel_rfl
 neB5:=by decide}
def Tryz.lays165_ren:Cp:=⟨λ|165=>107|240=>138|241=>168|276=>188|277=>203|n=>n,λ|70=>105|3=>3|0=>0|4=>4|9=>9|20=>20|72=>107|37=>22|164=>281|5=>5|n=>n,λ|n=>n⟩
theorem Tryz.lays165:Kg Bf Tryz.lays165_ren:={
 mixed:=by kernel_rfl
 f165:=Tryz.func107.trans (congrArg some (by kernel_rfl))
 f240:=Tryz.func138.trans (congrArg some (by kernel_rfl))
 f241:=Tryz.func168.trans (congrArg some (by kernel_rfl))
 f276:=Tryz.func188.trans (congrArg some (by kernel_rfl))
 f277:=Tryz.func203.trans (congrArg some (by kernel_rfl))
 t0:=Dw
 a0:=Ea
 z0:=Dy
 v0:=Du
 t3:=Cy
 a3:=De
 z3:=Db
 v3:=Cv
 t4:=Dv
 a4:=Dz
 z4:=Dx
 v4:=Ds
 t9:=Cw
 a9:=Dc
 z9:=Cz
 v9:=Ct
 t20:=Ie
 a20:=Iy
 z20:=Io
 v20:=Hu
 t37:=Gp
 a37:=Gw
 z37:=Gt
 v37:=Gl
 t70:=Gr
 a70:=Gy
 z70:=Gv
 v70:=Gn
 t72:=Gq
 a72:=Gx
 z72:=Gu
 v72:=Gm
 t164:=Hz
 a164:=Iu
 z164:=Ij
 v164:=Hq}
theorem Tryz.Builder_Extra_165:Fp Bf Tryz.lays165_ren:={
 sizeBuilder:=by kernel_rfl
 liesBuilder:=by kernel_rfl
 t5:=Cx
 a5:=Dd
 z5:=Da
 v5:=Cu
 infoByte:=by kernel_rfl
 cellsByte:=by kernel_rfl
 sizeByte:=by kernel_rfl
 neB5:=by decide}
def Tryz.lays219_ren:Cp:=⟨λ|219=>169|217=>204|225=>205|224=>206|267=>207|266=>228|314=>229|n=>n,λ|9=>9|3=>3|4=>4|5=>5|46=>203|146=>265|51=>264|n=>n,λ|1=>0|n=>n⟩
def Tryz.lays138_ren:Cp:=⟨λ|138=>48|195=>109|218=>110|143=>111|219=>169|217=>204|225=>205|224=>206|267=>207|266=>228|314=>229|n=>n,λ|9=>9|3=>3|4=>4|5=>5|0=>0|46=>203|146=>265|51=>264|n=>n,λ|1=>0|n=>n⟩
theorem Tryz.lays138:Kh Bf Tryz.lays138_ren:={
 mixed:=by kernel_rfl
 f138:=Tryz.func48.trans (congrArg some (by kernel_rfl))
 f143:=Tryz.func111.trans (congrArg some (by kernel_rfl))
 f195:=Tryz.func109.trans (congrArg some (by kernel_rfl))
 f217:=Tryz.func204.trans (congrArg some (by kernel_rfl))
 f218:=Tryz.func110.trans (congrArg some (by kernel_rfl))
 f219:=Tryz.func169.trans (congrArg some (by kernel_rfl))
 f224:=Tryz.func206.trans (congrArg some (by kernel_rfl))
 f225:=Tryz.func205.trans (congrArg some (by kernel_rfl))
 f266:=Tryz.func228.trans (congrArg some (by kernel_rfl))
 f267:=Tryz.func207.trans (congrArg some (by kernel_rfl))
 f314:=Tryz.func229.trans (congrArg some (by kernel_rfl))
 t0:=Dw
 a0:=Ea
 z0:=Dy
 v0:=Du
 t3:=Cy
 a3:=De
 z3:=Db
 v3:=Cv
 t4:=Dv
 a4:=Dz
 z4:=Dx
 v4:=Ds
 t5:=Cx
 a5:=Dd
 z5:=Da
 v5:=Cu
 t9:=Cw
 a9:=Dc
 z9:=Cz
 v9:=Ct
 t46:=Fu
 a46:=Fw
 z46:=Fv
 v46:=Ft
 t51:=Ib
 a51:=Iw
 z51:=Il
 v51:=Hs
 t146:=Ia
 a146:=Iv
 z146:=Ik
 v146:=Hr
 g1:=by kernel_rfl}
open Go.RowKit Go.Lib in
theorem Tryz.strings_Count_one(s:ByteArray)(c:UInt8)(w:World):
 Calls Bf 48 #[.string s,.string ⟨#[c]⟩] w λe w'=>e=.returned (.int .i64 (Lib.countByte s.data.toList c))/\w'=w:=Any.strings_Count_one Tryz.lays138 s c w
def Tryz.lays206_ren:Cp:=⟨λ|206=>167|n=>n,λ|9=>9|4=>4|3=>3|n=>n,λ|n=>n⟩
def Tryz.lays101_ren:Cp:=⟨λ|101=>65|208=>140|206=>167|n=>n,λ|9=>9|4=>4|3=>3|n=>n,λ|n=>n⟩
theorem Tryz.lays101:Kj Bf Tryz.lays101_ren:={
 mixed:=by kernel_rfl
 f101:=Tryz.func65.trans (congrArg some (by kernel_rfl))
 f206:=Tryz.func167.trans (congrArg some (by kernel_rfl))
 f208:=Tryz.func140.trans (congrArg some (by kernel_rfl))
 t3:=Cy
 a3:=De
 z3:=Db
 v3:=Cv
 t4:=Dv
 a4:=Dz
 z4:=Dx
 v4:=Ds
 t9:=Cw
 a9:=Dc
 z9:=Cz
 v9:=Ct}
open Go.RowKit Go.Lib in
theorem Tryz.strings_TrimPrefix(s p:ByteArray)(w:World):
 Calls Bf 65 #[.string s,.string p] w λe w'=>e=.returned (.string ⟨(Lib.trimPrefix s.data.toList p.data.toList).toArray⟩)/\w'=w:=Any.strings_TrimPrefix Tryz.lays101 s p w
def Tryz.lays197_ren:Cp:=⟨λ|197=>217|260=>236|n=>n,λ|9=>9|21=>21|3=>3|4=>4|5=>5|105=>217|119=>316|0=>0|46=>203|139=>319|138=>318|n=>n,λ|3=>1|4=>2|n=>n⟩
theorem Tryz.lays197:Ke Bf Tryz.lays197_ren:={
 mixed:=by kernel_rfl
 f197:=Tryz.func217.trans (congrArg some (by kernel_rfl))
 f260:=Tryz.func236.trans (congrArg some (by kernel_rfl))
 t0:=Dw
 a0:=Ea
 z0:=Dy
 v0:=Du
 t3:=Cy
 a3:=De
 z3:=Db
 v3:=Cv
 t4:=Dv
 a4:=Dz
 z4:=Dx
 v4:=Ds
 t5:=Cx
 a5:=Dd
 z5:=Da
 v5:=Cu
 t9:=Cw
 a9:=Dc
 z9:=Cz
 v9:=Ct
 t21:=Ic
 a21:=Ix
 z21:=Im
 v21:=Ht
 t46:=Fu
 a46:=Fw
 z46:=Fv
 v46:=Ft
 t105:=Tryz.underlying217
 a105:=Tryz.isAgg217
 z105:=Tryz.sizeOf217
 v105:=Tryz.zeroValue217
 t119:=Hy
 a119:=It
 z119:=Ii
 t138:=Hx
 a138:=Ir
 z138:=Ih
 v138:=Hp
 t139:=Hw
 a139:=Iq
 z139:=Ig
 v139:=Ho
 g3:=by kernel_rfl
 g4:=by kernel_rfl}
def Tryz.lays105_ren:Cp:=⟨λ|105=>47|212=>105|99=>106|165=>107|166=>62|170=>108|169=>29|263=>165|264=>166|206=>167|240=>138|241=>168|276=>188|277=>203|n=>n,λ|9=>9|3=>3|4=>4|20=>20|0=>0|46=>203|109=>204|5=>5|72=>107|76=>163|51=>264|146=>265|53=>267|148=>268|70=>105|37=>22|75=>162|127=>172|164=>281|80=>112|n=>n,λ|n=>n⟩
theorem Tryz.lays105:Ki Bf Tryz.lays105_ren:={
 mixed:=by kernel_rfl
 f99:=Tryz.func106.trans (congrArg some (by kernel_rfl))
 f105:=Tryz.func47.trans (congrArg some (by kernel_rfl))
 f165:=Tryz.func107.trans (congrArg some (by kernel_rfl))
 f166:=Tryz.func62.trans (congrArg some (by kernel_rfl))
 f169:=Tryz.func29.trans (congrArg some (by kernel_rfl))
 f170:=Tryz.func108.trans (congrArg some (by kernel_rfl))
 f206:=Tryz.func167.trans (congrArg some (by kernel_rfl))
 f212:=Tryz.func105.trans (congrArg some (by kernel_rfl))
 f240:=Tryz.func138.trans (congrArg some (by kernel_rfl))
 f241:=Tryz.func168.trans (congrArg some (by kernel_rfl))
 f263:=Tryz.func165.trans (congrArg some (by kernel_rfl))
 f264:=Tryz.func166.trans (congrArg some (by kernel_rfl))
 f276:=Tryz.func188.trans (congrArg some (by kernel_rfl))
 f277:=Tryz.func203.trans (congrArg some (by kernel_rfl))
 t0:=Dw
 a0:=Ea
 z0:=Dy
 v0:=Du
 t3:=Cy
 a3:=De
 z3:=Db
 v3:=Cv
 t4:=Dv
 a4:=Dz
 z4:=Dx
 v4:=Ds
 t5:=Cx
 a5:=Dd
 z5:=Da
 v5:=Cu
 t9:=Cw
 a9:=Dc
 z9:=Cz
 v9:=Ct
 t20:=Ie
 a20:=Iy
 z20:=Io
 v20:=Hu
 t37:=Gp
 a37:=Gw
 z37:=Gt
 v37:=Gl
 t46:=Fu
 a46:=Fw
 z46:=Fv
 v46:=Ft
 t51:=Ib
 a51:=Iw
 z51:=Il
 v51:=Hs
 t53:=Tryz.underlying267
 a53:=Tryz.isAgg267
 z53:=Tryz.sizeOf267
 v53:=Tryz.zeroValue267
 t70:=Gr
 a70:=Gy
 z70:=Gv
 v70:=Gn
 t72:=Gq
 a72:=Gx
 z72:=Gu
 v72:=Gm
 t75:=Tryz.underlying162
 a75:=Tryz.isAgg162
 z75:=Tryz.sizeOf162
 v75:=Tryz.zeroValue162
 t76:=Tryz.underlying163
 a76:=Tryz.isAgg163
 z76:=Tryz.sizeOf163
 v76:=Tryz.zeroValue163
 t109:=Tryz.underlying204
 a109:=Tryz.isAgg204
 z109:=Tryz.sizeOf204
 v109:=Tryz.zeroValue204
 t127:=If
 a127:=Iz
 z127:=Ip
 v127:=Hv
 t146:=Ia
 a146:=Iv
 z146:=Ik
 v146:=Hr
 t148:=Tryz.underlying268
 a148:=Tryz.isAgg268
 z148:=Tryz.sizeOf268
 v148:=Tryz.zeroValue268
 t164:=Hz
 a164:=Iu
 z164:=Ij
 v164:=Hq}
theorem Tryz.Builder_Extra_105:Fp Bf Tryz.lays105_ren:={
 sizeBuilder:=by kernel_rfl
 liesBuilder:=by kernel_rfl
 t5:=Cx
 a5:=Dd
 z5:=Da
 v5:=Cu
 infoByte:=by kernel_rfl
 cellsByte:=by kernel_rfl
 sizeByte:=by kernel_rfl
 neB5:=by decide}
open Go.RowKit Go.Lib in
theorem Tryz.strings_Repeat(s:ByteArray)(c:Nat)(w:World)(hc:c<=9223372036854775807)(aj:s.size*c<=140737488355328):
 Calls Bf 47 #[.string s,.int .i64 c] w λe w'=>e=.returned (.string ⟨(Lib.repeatL s.data.toList c).toArray⟩)/\Below w.heap.size w w':=Any.strings_Repeat Tryz.lays105 Tryz.Builder_Extra_105 s c w hc aj
def Tryz.lays260_ren:Cp:=⟨λ|260=>236|n=>n,λ|9=>9|21=>21|3=>3|4=>4|5=>5|119=>316|0=>0|46=>203|139=>319|138=>318|n=>n,λ|3=>1|4=>2|n=>n⟩
theorem Tryz.lays260:Kd Bf Tryz.lays260_ren:={
 mixed:=by kernel_rfl
 f260:=Tryz.func236.trans (congrArg some (by kernel_rfl))
 t0:=Dw
 a0:=Ea
 z0:=Dy
 v0:=Du
 t3:=Cy
 a3:=De
 z3:=Db
 v3:=Cv
 t4:=Dv
 a4:=Dz
 z4:=Dx
 v4:=Ds
 t5:=Cx
 a5:=Dd
 z5:=Da
 v5:=Cu
 t9:=Cw
 a9:=Dc
 z9:=Cz
 v9:=Ct
 t21:=Ic
 a21:=Ix
 z21:=Im
 v21:=Ht
 t46:=Fu
 a46:=Fw
 z46:=Fv
 v46:=Ft
 t119:=Hy
 a119:=It
 z119:=Ii
 t138:=Hx
 a138:=Ir
 z138:=Ih
 v138:=Hp
 t139:=Hw
 a139:=Iq
 z139:=Ig
 v139:=Ho
 g3:=by kernel_rfl
 g4:=by kernel_rfl}
open Go.RowKit Go.Lib in
theorem Tryz.utf8_DecodeRuneInString(s:ByteArray)(w:World)(hT:Lib.Utf8Tabs 1 2 w):
 Calls Bf 217 #[.string s] w λe w'=>e=.returned (.tuple #[.int .i32 (Jw s).1,.int .i64 (Jw s).2])/\Below w.heap.size w w':=Any.utf8_DecodeRuneInString Tryz.lays197 s w hT
end Go.Proofs
namespace Go.Proofs
open Go.Shelf Go.RowKit
variable {P:Dj}{ρ:Ren}
set_option maxHeartbeats 2000000 in
set_option maxRecDepth 100000 in
theorem B5q(L:Lays.n169 P ρ)(X:Fp P ρ)(w w2:World)(b cap:Nat)(q:Option Addr)(n:Nat)(s:ByteArray)(c1:w.drew.cell? ⟨b,1,none⟩=some (.slice q n cap))
  (rD:(Hk #[(ρ.t 37)] (ρ.t 127) #[.slice q n cap]).run P w.drew=.ok (.pointer q) w.drew)
  (xF:(Jy #[(ρ.t 127),(ρ.t 3)] (ρ.t 9) #[.pointer q,.int .i64 n]).run P w.drew=.ok (.string s) w2):
  Calls P (ρ.f 169) #[.pointer (some ⟨b,0,none⟩)] w λe w'=>e=.returned (.string s)/\w'=w2:=by
 have mixed:=L.mixed;have t72:=L.t72;have a72:=L.a72;have z72:=L.z72;have v72:=L.v72;have vS:=Bl L.t72;have t70:=L.t70;have a70:=L.a70;have z70:=L.z70;have v70:=L.v70;have vT:=Bl L.t70;have t37:=L.t37;have a37:=L.a37;have z37:=L.z37;have v37:=L.v37;have xG:=Bl L.t37;have t127:=L.t127;have a127:=L.a127;have z127:=L.z127;have v127:=L.v127;have tz:=Bl L.t127;have t3:=L.t3;have a3:=L.a3;have z3:=L.z3;have v3:=L.v3;have u3:=Bl L.t3;have t9:=L.t9;have a9:=L.a9;have z9:=L.z9;have v9:=L.v9;have u9:=Bl L.t9;have t5:=X.t5;have a5:=X.a5;have z5:=X.z5;have v5:=X.v5;have u5:=Bl X.t5
 go_enter L.f169,Ka ρ
 go_wp2
 go_region_o
 all_goals(go_wp2;go_ret;exact⟨rfl,rfl⟩)
set_option maxHeartbeats 2000000 in
set_option maxRecDepth 100000 in
theorem D32(L:Lays.n169 P ρ)(X:Fp P ρ)(w:World)(b:Nat)(q:Addr)(sh:Dr×Nat)(ap:b<w.heap.size)(c0:w.cell? ⟨b,1,none⟩=some (.slice (some q) 0 0))(gK:w.shape? q.block=some sh):
  Calls P (ρ.f 169) #[.pointer (some ⟨b,0,none⟩)] w λe w'=>e=.returned (.string .empty)/\w'=(w.drew.alloc (.view q (ρ.t 5))):=by
 have xF:=Any.unsafeString_none L X;have c1:w.drew.cell? ⟨b,1,none⟩=some (.slice (some q) 0 0):=c0;have rD:(Hk #[(ρ.t 37)] (ρ.t 127) #[.slice (some q) 0 0]).run P w.drew=.ok (.pointer (some ⟨w.drew.heap.size,0,none⟩)) (w.drew.alloc (.view q (ρ.t 5))):=
  Lib.run_unsafeSliceData_zero w.drew _ _ (ρ.t 5) L.t127 q 0 sh gK
 have c2:(w.drew.alloc (.view q (ρ.t 5))).cell? ⟨b,1,none⟩=some (.slice (some q) 0 0):=
  (Cg (a:=⟨b,1,none⟩) (Lib.alloc_old w.drew _ b ap)).trans c0
 have c3:(w.alloc (.view q (ρ.t 5))).drew.cell? ⟨b,1,none⟩=some (.slice (some q) 0 0):=c2;have mixed:=L.mixed;have t72:=L.t72;have a72:=L.a72;have z72:=L.z72;have v72:=L.v72;have vS:=Bl L.t72;have t70:=L.t70;have a70:=L.a70;have z70:=L.z70;have v70:=L.v70;have vT:=Bl L.t70;have t37:=L.t37;have a37:=L.a37;have z37:=L.z37;have v37:=L.v37;have xG:=Bl L.t37;have t127:=L.t127;have a127:=L.a127;have z127:=L.z127;have v127:=L.v127;have tz:=Bl L.t127;have t3:=L.t3;have a3:=L.a3;have z3:=L.z3;have v3:=L.v3;have u3:=Bl L.t3;have t9:=L.t9;have a9:=L.a9;have z9:=L.z9;have v9:=L.v9;have u9:=Bl L.t9;have t5:=X.t5;have a5:=X.a5;have z5:=X.z5;have v5:=X.v5;have u5:=Bl X.t5
 go_enter L.f169,Ka ρ
 go_wp2
 go_region_o
 all_goals(go_wp2;go_ret;exact⟨rfl,rfl⟩)
set_option maxHeartbeats 2000000 in
set_option maxRecDepth 100000 in
theorem C9j(L:Lays.n240 P ρ)(X:Builder.X72 P ρ)(b:Nat)(w:World)(h0:w.cell? ⟨b,0,none⟩=some (.pointer none))(T:Dr)(n:Nat)(gK:w.shape? b=some (T,n))(hn:0<n)
  (ke:Fi P P.depth T (n / P.cellsOf T) 0 (ρ.t 72) 1=true)(lX:w.frozen? ⟨b,0,none⟩=false):
  Calls P (ρ.f 240) #[.pointer (some ⟨b,0,none⟩)] w λe w'=>e=.returned (.tuple #[])/\w'=w.setCell ⟨b,0,none⟩ (.pointer (some ⟨b,0,none⟩)):=by
 obtain⟨j,hj,kY⟩:=Jb.1 X.sizeBuilder;have mixed:=L.mixed;have t72:=L.t72;have a72:=L.a72;have z72:=L.z72;have v72:=L.v72;have vS:=Bl L.t72;have t70:=L.t70;have a70:=L.a70;have z70:=L.z70;have v70:=L.v70;have vT:=Bl L.t70;have t9:=L.t9;have a9:=L.a9;have z9:=L.z9;have v9:=L.v9;have u9:=Bl L.t9;have t4:=L.t4;have a4:=L.a4;have z4:=L.z4;have v4:=L.v4;have u4:=Bl L.t4;have t164:=L.t164;have a164:=L.a164;have z164:=L.z164;have v164:=L.v164;have xH:=Bl L.t164
 go_enter L.f240,Body.n240_ntmps ρ
 go_wp2
 rw[Lib.run_to_unsafe w ⟨b,0,none⟩ L.t70 L.t164 hj (by rw[kY];decide) gK hn];simp only[Fx];rw[Hb]
 go_wp2
 rw[run_callFunc_extern L.f276 (by kernel_rfl) (by kernel_rfl) (by kernel_rfl) (e:=Kk) (by kernel_rfl)];rw[Lib.run_noEscape];simp only[Fx];rw[Hb]
 go_wp2
 rw[Lib.run_from_unsafe w ⟨b,0,none⟩ L.t164 L.t70 hj gK ke];simp only[Fx];rw[Hb]
 go_wp2
 go_end0
 exact⟨rfl,rfl⟩
end Go.Proofs
namespace Go.Aev
open Go.Proofs
structure BB(w:World)(g:Gh)(b:Nat)(u0 u1:Value)(l:Aa):Prop where
 G:g.G 900000=.slice (some ⟨b,0,none⟩) 0 2
 Gs:g.Gs 900000=1
 c0:w.cell? ⟨b,0,none⟩=some u0
 c1:w.cell? ⟨b,1,none⟩=some u1
 s0:A9Y U6 w b/\(u0=.pointer none\/u0=.pointer (some ⟨b,0,none⟩))
 r1:LRep U6 w g (.sl .u8 l (some 92000001)) u1
 t0:Tip w g.wm (g.G 900000) (g.Gs 900000)
 t1:Tip w g.wm (g.G 92000001) (g.Gs 92000001)
 dis:∀k,spare (g.G 92000001)=some k->k≠b
theorem nm2{l:Aa}{d:Nat}:M4 (Ty:=Ty6) (den:=A4) (G4 0 [[.ptr 900000 C4,.sl .u8 l (some 92000001)]]) d↔d=900000\/d=92000001:=by
 constructor
 ·rintro⟨lf,h1,h2⟩;simp only[G4,Bx,Ga,List.not_mem_nil,or_false]at h1;rcases h1 with rfl|rfl|rfl
  ·exact .inl ((F6 _ _).1 h2).symm
  ·exact .inl ((F6 _ _).1 h2).symm
  ·exact .inr ((F6 _ _).1 h2).symm
 ·rintro(rfl|rfl)
  ·exact⟨.ptr 900000 0,by simp[G4,C0],rfl⟩
  ·exact⟨.sl .u8 l (some 92000001),by simp[G4,C0],rfl⟩
theorem C3d{P:Dj}{I:Inv}{f:Cr}{l:Aa}{rs:Ae}(ck:rs.all clL=true)
  (h:∀(w:World)(g:Gh)(b:Nat)(u0 u1:Value),(∀k,w.heap.size<=k->g.wm k=0)->BB w g b u0 u1 l->Calls P f #[.pointer (some ⟨b,0,none⟩)] w λe w'=>
   ∃rv la,e=.returned (V4 rv)/\LsC U6 w' g.wm rs rv/\BB w' g b la u1 l/\KM w g.wm w' g.wm (λk=>k=b\/spare (g.G 92000001)=some k)):
  Z1 P U6 I f [.ptr 900000 0] [[.ptr 900000 C4,.sl .u8 l (some 92000001)]] rs [[.ptr 900000 C4,.sl .u8 l (some 92000001)]]:=by
 intro w g vs bP hI hz bc hx my cP tA dx
 match vs,bP,bc,my,hx with
 |[v0],[(b,us)],⟨u7,_⟩,my,hx=>?_
 obtain⟨⟨hG,xI,bV,cW,aJ⟩,_⟩:=my
 match us,xI,hG,hx,aJ with
 |[u0,u1],_,hG,hx,aJ=>?_
 obtain⟨hp,q0,q1,_⟩:=hx;obtain⟨b1,n1,e1,e2⟩:=u7.2.2 900000 0 rfl;obtain⟨b2,n2,e3,e4⟩:=q0.2.2 900000 C4 rfl;have lE:g.G 900000=.slice (some ⟨b,0,none⟩) 0 2:=hG;rw[lE]at e1 e3;cases e1;cases e3;have hv:v0=.pointer (some ⟨b,0,none⟩):=e2.at (by decide);subst hv;have tB:A9Y U6 w b/\(u0=.pointer none\/u0=.pointer (some ⟨b,0,none⟩)):=by
  rcases e4 with⟨_,h⟩|⟨_,h1,h2⟩|⟨h,_⟩
  ·exact absurd h (by decide)
  ·exact⟨h1,h2⟩
  ·exact absurd h (by decide)
 have fo:spare (g.G 900000)=some b:=by rw[lE];rfl
 have bb:BB w g b u0 u1 l:=⟨lE,cW,(aJ 0 u0 rfl).1,(aJ 1 u1 rfl).1,tB,q1,cP 900000 (nm2.2 (.inl rfl)),cP 92000001 (nm2.2 (.inr rfl)),λk hk e=>by
  subst e;exact tA 900000 92000001 k (nm2.2 (.inl rfl)) (nm2.2 (.inr rfl)) (by decide) fo hk⟩
 refine(h w g b u0 u1 hz bb).mono ?_;rintro e w' ⟨rv,la,he,kR,kf,km⟩;have aW:∀{u:Value},u=la\/u=u1->u.oneCell'=true/\u.cells= #[u]:=λ{u} hu=>by
  rcases hu with rfl|rfl
  ·rcases kf.s0.2 with h|h<;>(rw[h];exact⟨rfl,rfl⟩)
  ·obtain⟨a,cap,h⟩:=kf.r1.1.sl_inv;rw[h];exact⟨rfl,rfl⟩
 have hM:∀k,(∃d,M4 (Ty:=Ty6) (den:=A4) (G4 0 [[.ptr 900000 C4,.sl .u8 l (some 92000001)]]) d/\spare (g.G d)=some k)↔(k=b\/spare (g.G 92000001)=some k):=λk=>by
  constructor
  ·rintro⟨d,h1,h2⟩;rcases nm2.1 h1 with rfl|rfl
   ·rw[fo]at h2;cases h2;exact .inl rfl
   ·exact .inr h2
  ·rintro(rfl|h)
   ·exact⟨900000,nm2.2 (.inl rfl),fo⟩
   ·exact⟨92000001,nm2.2 (.inr rfl),h⟩
 have fB:∀d,(Ent.tup (rs++G4 0 [[.ptr 900000 C4,.sl .u8 l (some 92000001)]]):E6).has d=true->d=900000\/d=92000001:=λd hd=>by
  simp only[Ent.has,List.any_eq_true,List.mem_append]at hd;obtain⟨lf,h1|h1,h2⟩:=hd
  ·rw[B2y ((Ce.1 ck) lf h1)]at h2;cases h2
  ·exact nm2.1 ⟨lf,h1,h2⟩
 have nz:∀{l1:Ae}{us:Ai}{bs:Ae}{vs:Ai},LsRep U6 w' g l1 us->LsRep U6 w' g bs vs->LsRep U6 w' g (l1++bs) (us++vs):=λ{l1 us}=>by
  induction l1 generalizing us with
  |nil=>intro bs vs h1 h2;cases us with
   |nil=>exact h2
   |cons _ _=>cases h1
  |cons x l1 ih=>intro bs vs h1 h2;cases us with
   |nil=>cases h1
   |cons u us=>exact⟨h1.1,ih h1.2 h2⟩
 refine⟨g,rv,[(b,[la,u1])],he,kR.len,{os:=km.os,tape:=km.tape,output:=km.output,size:=km.size,frame:=λk hk hn=>km.heap k hk (λh=>hn ((hM k).2 h)),ext:=km.ext,zero:=km.zero,rep:=?_,nit:=rfl,tip:=λd hd=>?_,disj:=λd e k hd he av h1 h2=>?_,mine:=λd k hd hk=>.inr ?_},⟨⟨lE,rfl,Nat.zero_lt_succ _,cW,λj u hj=>?_⟩,trivial⟩,rfl⟩
 ·refine⟨_,rfl,?_⟩;rw[A0f];exact nz (kR.rep rfl ck) ⟨⟨.pt _ _ _,λ_ _ _ e=>(by cases e),λd o e=>by cases e;exact⟨b,2,lE,.inl ⟨rfl,by decide⟩⟩⟩,⟨(by rcases kf.s0.2 with h|h<;>(rw[h];exact .pt _ _ _)),λ_ _ _ e=>(by cases e),λd o e=>by cases e;exact⟨b,2,lE,.inr (.inl ⟨rfl,kf.s0⟩)⟩⟩,kf.r1,trivial⟩
 ·rcases fB d hd with rfl|rfl
  ·exact kf.t0
  ·exact kf.t1
 ·rcases fB d hd with rfl|rfl<;>rcases fB e he with rfl|rfl
  ·exact av rfl
  ·rw[fo]at h1;cases h1;exact kf.dis _ h2 rfl
  ·rw[fo]at h2;cases h2;exact kf.dis _ h1 rfl
  ·exact av rfl
 ·rcases fB d hd with rfl|rfl
  ·exact⟨900000,nm2.2 (.inl rfl),hk⟩
  ·exact⟨92000001,nm2.2 (.inr rfl),hk⟩
 ·match j,hj with
  |0,hj=>cases hj;exact⟨kf.c0,aW (.inl rfl)⟩
  |1,hj=>cases hj;exact⟨kf.c1,aW (.inr rfl)⟩
theorem D6t:(λ(k:Nat)=>Fi Bf Tryz.prog.depth 109 (k+1) 0 107 1)=(λ_=>true):=by kernel_rfl
theorem C8L:Tryz.prog.cellsOf 109=2:=by kernel_rfl
theorem C02:Tryz.prog.cellsOf 5=1:=by kernel_rfl
theorem D8L{n:Nat}(h:2<=n):Fi Bf Tryz.prog.depth 109 (n / Tryz.prog.cellsOf 109) 0 107 1=true:=by
 rw[C8L];obtain⟨k,hk⟩:∃k,n / 2=k+1:=⟨n / 2 - 1,by omega⟩;rw[hk];exact congrFun D6t k
theorem BB.blk{w:World}{g:Gh}{b:Nat}{u0 u1:Value}{l:Aa}(h:BB w g b u0 u1 l):∃c fz,w.heap[b]?=some (.cells c 109 fz)/\2<=c.size/\fz.2=0/\g.wm b=0:=by
 obtain⟨c,fz,h1⟩:=h.s0.1;obtain⟨a0,len,cap,hv,aZ,hc⟩:=h.t0;rw[h.G]at hv;cases hv;obtain⟨b',off,c',e',hH,ha,hb,h2,h3,h4⟩:=hc.resolve_left (by decide);cases ha;rw[h1]at hb;cases hb;rw[h.Gs]at h2 h3;have hm:g.wm b=0:=by rw[h3]
 exact⟨c,fz,h1,by omega,by omega,hm⟩
theorem A4P{w w':World}{m:Nat->Nat}{v:Value}{sz:Nat}(h:Tip w m v sz)(hb:∀k c e fz,spare v=some k->w.heap[k]?=some (.cells c e fz)->∃c',w'.heap[k]?=some (.cells c' e fz)/\c'.size=c.size):Tip w' m v sz:=by
 obtain⟨a0,len,cap,rfl,aZ,hc⟩:=h;by_cases h0:cap=0
 ·exact⟨_,_,_,rfl,aZ,.inl h0⟩
 obtain⟨b,off,c,e,fz,ha,h1,h2,h3,h4⟩:=hc.resolve_left h0;subst ha;obtain⟨c',h5,h6⟩:=hb b c e fz (by simp[spare,h0]) h1;exact⟨_,_,_,rfl,aZ,.inr ⟨b,off,c',e,fz,rfl,h5,by rw[h6];exact h2,h3,h4⟩⟩
theorem C9S{w:World}{g:Gh}{b:Nat}{u0 u1:Value}{l:Aa}(hz:∀k,w.heap.size<=k->g.wm k=0)(h:BB w g b u0 u1 l):Calls Bf 138 #[.pointer (some ⟨b,0,none⟩)] w λe w'=>
   ∃rv la,e=.returned (V4 rv)/\LsC U6 w' g.wm [] rv/\BB w' g b la u1 l/\KM w g.wm w' g.wm (λk=>k=b\/spare (g.G 92000001)=some k):=by
 obtain⟨c,fz,hb,eT,lX,hm⟩:=h.blk;rcases h.s0.2 with rfl|rfl
 ·refine(C9j (ρ:=Tryz.lays165_ren) {Tryz.lays165 with} Tryz.Builder_Extra_165.toX72 b w h.c0 109 c.size (by simp[Gk,hb]) (by omega) (D8L eT) (by
   simp only[World.frozen?,hb];simp;omega)).mono ?_
  rintro e w' ⟨rfl,rfl⟩;have bE:=A9y w b 0 (.pointer (some ⟨b,0,none⟩)) c 109 fz hb;have ci:∀k,k≠b->(w.setCell ⟨b,0,none⟩ (.pointer (some ⟨b,0,none⟩))).heap[k]?=w.heap[k]? :=λk hk=>A7C w b 0 k _ hk;generalize hw:w.setCell ⟨b,0,none⟩ (.pointer (some ⟨b,0,none⟩))=w' at*;have ao:w'.heap.size=w.heap.size:=by rw[<-hw];simp[World.setCell]
  have hx:Ext w g.wm w' g.wm:=⟨A67 hb bE ci,λk o ho=>Cg (a:=⟨k,o,none⟩) (ci k (λe=>by rw[e,hm]at ho;omega)),λ_=>Bg _⟩;have hJ:=h.c1;refine⟨[],_,rfl,trivial,{G:=h.G,Gs:=h.Gs,c0:=?_,c1:=?_,s0:=⟨⟨_,_,bE⟩,.inr rfl⟩,r1:=h.r1.same u6_ok hx rfl rfl,t0:=?_,t1:=?_,dis:=h.dis},
   ⟨by rw[<-hw];rfl,by rw[<-hw];rfl,by rw[<-hw];rfl,by rw[ao];exact Bg _,λk hk hn=>⟨ci k (λe=>hn (.inl e)),rfl⟩,hx,λk hk=>hz k (by rw[ao]at hk;exact hk)⟩⟩
  ·simp[Fj,bE,show 0<c.size by omega]
  ·simp only[Fj,hb]at hJ;simp[Fj,bE];simpa using hJ
  ·refine A4P h.t0 λk c1 e1 fL hk h1=>?_;rw[h.G]at hk;cases hk;rw[hb]at h1;cases h1;exact⟨_,bE,by simp⟩
  ·refine A4P h.t1 λk c1 e1 fL hk h1=>?_;exact⟨c1,by rw[ci k (h.dis k hk)];exact h1,rfl⟩
 ·refine(Any.Builder_copyCheck_used (ρ:=Tryz.lays165_ren) {Tryz.lays165 with} Tryz.Builder_Extra_165.toX72 b w h.c0).mono ?_;rintro e w' ⟨rfl,rfl⟩;exact⟨[],_,rfl,trivial,h,⟨rfl,rfl,rfl,Bg _,λ_ _ _=>⟨rfl,rfl⟩,Ext.refl _ _,hz⟩⟩
theorem C8A:∀args w,(callFunc 138 args).run Bf w=.ok (.enter 138 args) w:=enters_of Tryz.func138 (by kernel_rfl) rfl
theorem D8C:∀args w,(callFunc 29 args).run Bf w=.ok (.enter 29 args) w:=enters_of Tryz.func29 (by kernel_rfl) rfl
theorem C0p(l:Aa)(rs:Ae)(n:Nat):csR [[.ptr 900000 C4,.sl .u8 (some n)]] (some (rs,[[.ptr 900000 C4,.sl .u8 l (some n)]]))=[[.ptr 900000 C4,.sl .u8 l (some n)]]:=by
 simp only[csR,A7D,A8k,W9,gC,List.getD_eq_getElem?_getD];simp[B10]
theorem D0g{I:Inv}:D4 Bf U6 I 138 (sGB B1I):=by
 refine⟨C8A,λls cs rs aR h=>?_⟩;unfold sGB B1I at h;split at h
 ·rename_i d0 o0 p0 q0 l n;obtain⟨h1,h2⟩:=E8 h;obtain⟨h3,h4⟩:=A3r h2;simp only[Bn,F0]at h1;obtain⟨⟨⟨rfl,rfl⟩,rfl,rfl⟩,rfl⟩:=h1;rw[show A5V l=some ([],[[.ptr 900000 C4,.sl .u8 l (some 92000001)]])from rfl,C0p]at h4;cases h4;exact C3d (rs:=[]) rfl λw g b u0 u1 hz bb=>C9S hz bb
 ·cases h
theorem C3e{P:Dj}{w:World}:∀(l:Aa)(a:Addr)(kM:ByteArray),(∀(j:Nat)(x:Int),l[j]?=some x->w.cell? (a.add j)=some (.int .u8 x))->
  (Gj a kM l.length).run P w=.ok ⟨kM.data++(toB l).toArray⟩ w
 |[],a,kM,_=>by simp[Gj,toB]
 |x::l,a,kM,h=>by
  have h0:w.cell? a=some (.int .u8 x):=by
   have:=h 0 x rfl;simpa [Addr.add]using this
  have ih:=C3e (P:=P) l (a.add 1) (kM.push (x.toNat).toUInt8) (λj y hy=>by
   have:=h (j+1) y (by simpa using hy);have e:(a.add 1).add j=a.add (j+1):=by
    unfold Addr.add;by_cases hj:j=0
    ·subst hj;simp
    ·simp[hj];omega
   rw[e];exact this)
  simp only[Be,Gj,Sem.run_bind,run_load,h0,Fx];rw[ih]
  congr 1
  apply ByteArray.ext;simp[ByteArray.push,toB]
theorem C7t{count off n:Nat}(h:off+n<=count):Fi Bf Tryz.prog.depth 5 count off 5 n=true:=by
 have hd:Tryz.prog.depth=(2*(Tryz.prog.types.size+Made.depth)+1)+1:=rfl;rw[hd];simp only[Fi,Bool.or_eq_true]
 left
 rw[hd];simp[rowAt,C02,h,sameLayout,Nat.mod_one]
theorem D7C{w:World}{b off:Nat}{l:Aa}{c:Array Value}{fz:Nat×Nat}(hp:Tryz.prog.underlying 172=some (.pointer 5))(hb:w.heap[b]?=some (.cells c 5 fz))(hn:off+l.length<=c.size)(hl:l≠[])(rV:l.length<=140737488355328)
  (hc:∀(j:Nat)(x:Int),l[j]?=some x->w.cell? ⟨b,off+j,none⟩=some (.int .u8 x)):
  (Jy #[172,3] 9 #[.pointer (some ⟨b,off,none⟩),.int .i64 (l.length:Int)]).run Bf w=.ok (.string ⟨(toB l).toArray⟩) (w.freeze ⟨b,off,none⟩ l.length):=by
 have h0:l.length≠0:=by simpa using hl
 have nL:=C3e (P:=Bf) (w:=w) l ⟨b,off,none⟩ .empty (λj x hj=>by rw[Addr.add_lit];exact hc j x hj);have ke:=C7t (count:=c.size) (off:=off) (n:=l.length) hn;have mL:¬(9223372036854775807:Int)<(l.length:Int):=by omega
 have tC:IntKind.i64.max=9223372036854775807:=rfl;have tD:¬(l.length:Int)<0:=by omega
 have gK:w.shape? b=some (5,c.size):=by simp[Gk,hb]
 show(Bind.bind (asInt (.int .i64 (l.length:Int))) _).run Bf w=_;simp[asInt,asIntOf,tC,mL,tD,h0,variablesAt,gK,elemOf,Bl hp,C02,ke,nL]
theorem D0p{w:World}{b off n:Nat}{c:Array Value}{e:Dr}{fz:Nat×Nat}(hn:n≠0)(hb:w.heap[b]?=some (.cells c e fz)):
  (w.freeze ⟨b,off,none⟩ n).heap[b]?=some (.cells c e (if fz.1==fz.2 then(off,off+n)else(min fz.1 off,max fz.2 (off+n))))/\(∀k,k≠b->(w.freeze ⟨b,off,none⟩ n).heap[k]?=w.heap[k]?)/\(w.freeze ⟨b,off,none⟩ n).heap.size=w.heap.size/\
  (w.freeze ⟨b,off,none⟩ n).os=w.os/\(w.freeze ⟨b,off,none⟩ n).tape=w.tape/\(w.freeze ⟨b,off,none⟩ n).output=w.output:=by
 unfold World.freeze;rw[At hn];refine⟨?_,λk hk=>?_,by simp,rfl,rfl,rfl⟩
 ·simp only[Kc,hb,if_true,Option.map_some]
 ·simp only[Kc];rw[At (λe=>hk e.symm)]
theorem D8S{w:World}{g:Gh}{b:Nat}{u0 u1:Value}{l:Aa}(rV:l.length<=140737488355328)(hz:∀k,w.heap.size<=k->g.wm k=0)(h:BB w g b u0 u1 l):Calls Bf 29 #[.pointer (some ⟨b,0,none⟩)] w λe w'=>
   ∃rv la,e=.returned (V4 rv)/\LsC U6 w' g.wm [.str (toB l)] rv/\BB w' g b la u1 l/\KM w g.wm w' g.wm (λk=>k=b\/spare (g.G 92000001)=some k):=by
 obtain⟨c,fz,hb,eT,lX,hm⟩:=h.blk;obtain⟨tE,xJ,dz⟩:=h.r1.2.1 .u8 l 92000001 rfl;obtain⟨a0,len,cap,hv,aZ,hc⟩:=h.t1;rw[<-tE]at hv;obtain⟨a1,qg,fi⟩:=h.r1.1.sl_inv;rw[hv]at fi;cases fi;have hJ:w.cell? ⟨b,1,none⟩=some (.slice a0 l.length cap):=by rw[<-hv];exact h.c1
 have stay:∀{w':World},w'.heap=w.heap->w'.os=w.os->w'.tape=w.tape->w'.output=w.output->BB w' g b u0 u1 l/\KM w g.wm w' g.wm (λk=>k=b\/spare (g.G 92000001)=some k):=λ{w'} hh h1 h2 h3=>by
  have hx:Ext w g.wm w' g.wm:=⟨A6X hh,λk o _=>Cg (a:=⟨k,o,none⟩) (by rw[hh]),λ_=>Bg _⟩;refine⟨{G:=h.G,Gs:=h.Gs,c0:=?_,c1:=?_,s0:=⟨⟨c,fz,by rw[hh];exact hb⟩,h.s0.2⟩,r1:=h.r1.same u6_ok hx rfl rfl,t0:=A4P h.t0 λk c1 e1 fL hk h1=>⟨c1,by rw[hh];exact h1,rfl⟩,t1:=A4P h.t1 λk c1 e1 fL hk h1=>⟨c1,by rw[hh];exact h1,rfl⟩,dis:=h.dis},⟨h1,h2,h3,by rw[hh];exact Bg _,λk _ _=>⟨by rw[hh],rfl⟩,hx,λk hk=>hz k (by rw[hh]at hk;exact hk)⟩⟩
  ·rw[<-h.c0];exact Cg (a:=⟨b,0,none⟩) (by rw[hh])
  ·rw[<-h.c1];exact Cg (a:=⟨b,1,none⟩) (by rw[hh])
 have xK:∀{l:Aa},l=[]->LsC U6 w g.wm [.str (toB l)] [.string .empty]:=λ{l} hl=>by subst hl;exact⟨.str [],trivial⟩
 by_cases h0:cap=0
 ·
  have cH:l=[]:=Fc (by omega);cases a0 with
  |none=>
   have hr:=B5q (ρ:=Tryz.lays169_ren) Tryz.lays169 Tryz.Builder_Extra_169 w w.drew b cap none l.length .empty hJ (Lib.run_unsafeSliceData_nil _ _ _ _ _) (by subst cH;exact Jv w.drew _ _ _ none);refine hr.mono ?_;rintro e w' ⟨rfl,rfl⟩;obtain⟨q1,q2⟩:=stay (w':=w.drew) rfl rfl rfl rfl;exact⟨[.string .empty],u0,rfl,by subst cH;exact⟨.str [],trivial⟩,q1,q2⟩
  |some q=>
   obtain⟨c2,rC,hq⟩:=dz 5 q l.length cap rfl hv;have tF:w.cell? ⟨b,1,none⟩=some (.slice (some q) 0 0):=by rw[hJ,cH,h0];rfl
   have ap:=(Hn.1 hb).1;refine(D32 (ρ:=Tryz.lays169_ren) Tryz.lays169 Tryz.Builder_Extra_169 w b q (5,c2.size) ap tF (by simp[Gk,hq])).mono ?_;rintro e w' ⟨rfl,rfl⟩;have hw:(w.drew.alloc (.view q 5)).heap=w.heap.push (.view q 5):=rfl;have dq:∀k,k<w.heap.size->(w.drew.alloc (.view q 5)).heap[k]?=w.heap[k]? :=λk hk=>by rw[hw,Array.getElem?_push,At (by omega)]
   have hx:Ext w g.wm (w.drew.alloc (.view q 5)) g.wm:=⟨A0Y hw,λk o ho=>Cg (a:=⟨k,o,none⟩) (dq k (by
    rcases Jd k w.heap.size with h2|h2
    ·exact h2
    ·rw[hz k h2]at ho;omega)),λ_=>Bg _⟩
   have ao:(w.drew.alloc (.view q 5)).heap.size=w.heap.size+1:=by rw[hw];simp
   show ∃rv la,_/\LsC U6 (w.drew.alloc (.view q 5)) g.wm _ rv/\BB (w.drew.alloc (.view q 5)) g b la u1 l/\KM w g.wm (w.drew.alloc (.view q 5)) g.wm _;have gb:∀(k:Nat)(c1:Array Value)(e1:Dr)(fL:Nat×Nat),w.heap[k]?=some (.cells c1 e1 fL)->(w.drew.alloc (.view q 5)).heap[k]?=some (.cells c1 e1 fL):=λk c1 e1 fL h1=>by
    rw[dq k (Hn.1 h1).1];exact h1
   refine⟨[.string .empty],u0,rfl,by subst cH;exact⟨.str [],trivial⟩,{G:=h.G,Gs:=h.Gs,c0:=?_,c1:=?_,s0:=⟨⟨c,fz,gb _ _ _ _ hb⟩,h.s0.2⟩,r1:=h.r1.same u6_ok hx rfl rfl,t0:=A4P h.t0 λk c1 e1 fL hk h1=>⟨c1,gb _ _ _ _ h1,rfl⟩,t1:=A4P h.t1 λk c1 e1 fL hk h1=>⟨c1,gb _ _ _ _ h1,rfl⟩,dis:=h.dis},
    ⟨rfl,rfl,rfl,by rw[ao];omega,λk hk _=>⟨dq k hk,rfl⟩,hx,λk hk=>hz k (by rw[ao]at hk;omega)⟩⟩
   ·rw[<-h.c0];exact Cg (a:=⟨b,0,none⟩) (dq b ap)
   ·rw[<-h.c1];exact Cg (a:=⟨b,1,none⟩) (dq b ap)
 ·obtain⟨b2,off,c2,e2,rC,ha,dt,k2,k3,k4⟩:=hc.resolve_left h0;subst ha;obtain⟨c3,ru,hq⟩:=dz 5 _ l.length cap rfl hv;have vU:w.heap[b2]?=some (.cells c3 5 ru):=hq;rw[dt]at vU;cases vU;have cW:g.Gs 92000001=1:=xJ.symm;rw[cW]at k2 k3;have fo:spare (g.G 92000001)=some b2:=by rw[<-tE,hv];simp[spare,h0]
  have av:b2≠b:=h.dis b2 fo;have rD:(Hk #[22] 172 #[.slice (some ⟨b2,off,none⟩) l.length cap]).run Bf w.drew=.ok (.pointer (some ⟨b2,off,none⟩)) w.drew:=Lib.run_unsafeSliceData_row _ _ _ _ _ _ h0;by_cases cH:l=[]
  ·refine(B5q (ρ:=Tryz.lays169_ren) Tryz.lays169 Tryz.Builder_Extra_169 w w.drew b cap (some ⟨b2,off,none⟩) l.length .empty hJ rD (by rw[cH];exact Jv w.drew _ _ _ _)).mono ?_;rintro e w' ⟨rfl,rfl⟩;obtain⟨q1,q2⟩:=stay (w':=w.drew) rfl rfl rfl rfl;exact⟨[.string .empty],u0,rfl,by rw[cH];exact⟨.str [],trivial⟩,q1,q2⟩
  have rq:l.length≠0:=by simpa using cH
  have aN:∀(j:Nat)(x:Int),l[j]?=some x->w.drew.cell? ⟨b2,off+j,none⟩=some (.int .u8 x):=λj x hj=>by
   rcases h.r1.1.sl_cells u6_ok with⟨a7,_⟩|⟨b3,xL,xM,cs,rn,_,aX,ct,kR⟩
   ·exact absurd a7 cH
   ·rw[hv]at rn;cases rn;have cS:(flat U6 .u8 l)[j]?=some (.int .u8 x):=by
     have:flat U6 .u8 l=l.map λn=>.int .u8 n:=B0s l;rw[this,List.getElem?_map,hj];rfl
    have h5:=ct j _ cS;have h6:=kR j _ cS;have h7:cs j=.int .u8 x:=by
     generalize cs j=z at h6;cases h6;rfl
    rw[show w.drew.cell? ⟨b2,off+j,none⟩=w.cell? ⟨b2,off+j,none⟩from rfl,h5,h7]
  refine(B5q (ρ:=Tryz.lays169_ren) Tryz.lays169 Tryz.Builder_Extra_169 w (w.drew.freeze ⟨b2,off,none⟩ l.length) b cap (some ⟨b2,off,none⟩) l.length ⟨(toB l).toArray⟩ hJ rD (D7C (by kernel_rfl) dt (by omega) cH rV aN)).mono ?_;rintro e w' ⟨rfl,rfl⟩;obtain⟨f1,f2,f3,f4,f5,f6⟩:=D0p (w:=w.drew) (off:=off) rq dt;generalize hw:w.drew.freeze ⟨b2,off,none⟩ l.length=w' at*;have cz:∀(k:Nat)(c1:Array Value)(e1:Dr)(fL:Nat×Nat),w.heap[k]?=some (.cells c1 e1 fL)->∃hH,w'.heap[k]?=some (.cells c1 e1 hH):=λk c1 e1 fL h1=>by
   by_cases hk:k=b2
   ·subst hk;rw[dt]at h1;cases h1;exact⟨_,f1⟩
   ·exact⟨fL,by rw[f2 k hk];exact h1⟩
  have aJ:∀k o,w'.cell? ⟨k,o,none⟩=w.cell? ⟨k,o,none⟩:=λk o=>by
   by_cases hk:k=b2
   ·subst hk;simp[Fj,f1,dt]
   ·exact Cg (a:=⟨k,o,none⟩) (f2 k hk)
  have hx:Ext w g.wm w' g.wm:=⟨λk c1 e1 fL h1=>by obtain⟨hH,h2⟩:=cz k c1 e1 fL h1;exact⟨c1,hH,h2⟩,λk o _=>aJ k o,λ_=>Bg _⟩;have vV:w'.heap[b]?=w.heap[b]? :=f2 b (Ne.symm av);refine⟨[.string ⟨(toB l).toArray⟩],u0,rfl,⟨.str _,trivial⟩,{G:=h.G,Gs:=h.Gs,c0:=by rw[aJ];exact h.c0,c1:=by rw[aJ];exact h.c1,s0:=⟨⟨c,fz,by rw[vV];exact hb⟩,h.s0.2⟩,r1:=h.r1.same u6_ok hx rfl rfl,t0:=A4P h.t0 λk c1 e1 fL hk h1=>?_,t1:=?_,dis:=h.dis},
   ⟨f4,f5,f6,by rw[f3];exact Bg _,λk _ hn=>⟨f2 k (λe=>hn (.inr (by rw[e];exact fo))),rfl⟩,hx,λk hk=>hz k (by rw[f3]at hk;exact hk)⟩⟩
  ·rw[h.G]at hk;cases hk;exact⟨c1,by rw[vV];exact h1,rfl⟩
  ·rw[<-tE,hv,cW];refine⟨_,_,_,rfl,aZ,.inr ⟨b2,off,c2,5,_,rfl,f1,k2,k3,?_⟩⟩;rw[Nat.mul_one]at k3;split
   ·rename_i e9;simp only;omega
   ·rename_i e9;have xN:rC.1≠rC.2:=by simpa using e9
    simp only;omega
theorem B6o{I:Inv}:D4 Bf U6 I 29 (sGB S29):=by
 refine⟨D8C,λls cs rs aR h=>?_⟩;unfold sGB S29 at h;split at h
 ·rename_i d0 o0 p0 q0 l n;obtain⟨h1,h2⟩:=E8 h;obtain⟨h3,h4⟩:=A3r h2;simp only[Bn,F0]at h1;obtain⟨⟨⟨rfl,rfl⟩,rfl,rfl⟩,rfl⟩:=h1;unfold F29 at h3 h4;cases hd:decide (l.length<=140737488355328)with
  |false=>rw[hd]at h3;cases h3
  |true=>
   rw[hd]at h4;simp only[Ap]at h4;rw[C0p]at h4;cases h4;exact C3d (rs:=[.str (toB l)]) rfl λw g b u0 u1 hz bb=>D8S (Av hd) hz bb
 ·cases h
end Go.Aev
namespace Go.Aev.Bv
open Go.Proofs
def noC:Cr->Ak:=λ_=>none
def noT:T6:=λ_ _=>none
def lkE:List (Nat×Aj)->Nat->Aj
 |[],_=>[]
 |(g,l)::r,n=>bif Nat.beq n g then l else lkE r n
def mk6(T:T6)(cons:Cr->Ak)(drop:Nat->Aj)(nt:Nat):Env Ty6 A4:={U:=U6,tb:=tb6,T:=T,cons:=cons,drop:=drop,nt:=nt,zr:=zr6}
def S41:Ae->Option (Bool×E6)
 |[.int .i32 a0]=>some (true,.one (.bool (K4 a0)))
 |_=>none
def S28:Ae->Option (Bool×E6)
 |[.sl .i32 a0 none]=>some (D3 a0,.one (.int .i64 (G6 a0)))
 |_=>none
def S27:Ae->Option (Bool×E6)
 |[.sl .i32 a0 none]=>some (D3 a0,.one (.bool (B4 a0)))
 |_=>none
def S56:Ae->Option (Bool×E6)
 |[.int .i32 a0]=>some (true,.one (.bool (K4 a0)))
 |_=>none
def S42:Ae->Option (Bool×E6)
 |[.sl .i32 a0 none]=>some (D3 a0,.one (.int .i64 (G6 a0)))
 |_=>none
def S30:Ae->Option (Bool×E6)
 |[.sl .i32 a0 none]=>some (D3 a0,.one (.bool (B4 a0)))
 |_=>none
def S29:Ae->Option (Bool×E6)
 |[.sl .rs a0 none]=>some (L3 a0,.one (.int .i64 (U3 a0)))
 |_=>none
def S16:Ae->Option (Bool×E6)
 |[.sl .rs a0 none]=>some (L3 a0,.one (.sl .rs (J7 a0) none))
 |_=>none
def S60:Ae->Option (Bool×E6)
 |[.int .i32 a0]=>some (true,.one (.int .i64 (N9 a0)))
 |_=>none
def S49:Ae->Option (Bool×E6)
 |[.int .i32 a0,.int .i32 a1]=>some (true,.tup [.int .i32 ((M2 a0 a1).1),.bool ((M2 a0 a1).2)])
 |_=>none
def S32:Ae->Option (Bool×E6)
 |[.int .i32 a0]=>some (true,.one (.bool (L8 a0)))
 |_=>none
def S53:Ae->Option (Bool×E6)
 |[.int .i32 a0]=>some (true,.one (.bool (L8 a0)))
 |_=>none
def S44:Ae->Option (Bool×E6)
 |[.int .i32 a0]=>some (true,.one (.bool (D5 a0)))
 |_=>none
def S61:Ae->Option (Bool×E6)
 |[.int .i32 a0]=>some (true,.one (.bool (D5 a0)))
 |_=>none
def S62:Ae->Option (Bool×E6)
 |[.int .i32 a0,.str a1]=>some (A2 (Ax a1) 1,.one (.bool (inF a0 a1)))
 |_=>none
def S45:Ae->Option (Bool×E6)
 |[.sl .u8 a0 (some 0),.int .i32 a1]=>some (A2 (Ax a0+4) 1&&D5 a1,.one (.sl .u8 (K6 a0 (u8F a1)) (some 0)))
 |_=>none
def S59:Ae->Option (Bool×E6)
 |[.sl .u8 a0 (some 0),.int .i32 a1]=>some (A2 (Ax a0+4) 1&&D5 a1&&decide (128<=a1),.one (.sl .u8 (K6 a0 (u8F a1)) (some 0)))
 |_=>none
def S33:Ae->Option (Bool×E6)
 |[.sl .i32 a0 none]=>some (D3 a0,.tup [.str ((J4 a0).1),.bool ((J4 a0).2)])
 |_=>none
def S35:Ae->Option (Bool×E6)
 |[.sl .i32 a0 none]=>some (D3 a0,.tup [.str ((J4 a0).1),.bool ((J4 a0).2)])
 |_=>none
def S50:Ae->Option (Bool×E6)
 |[.int .i32 a0]=>some (true,.one (.sl .u8 (O2 a0) (some 1)))
 |_=>none
def S46:Ae->Option (Bool×E6)
 |[.int .i32 a0]=>some (true,.one (.bool (A0a a0)))
 |_=>none
def S47:Ae->Option (Bool×E6)
 |[.int .i32 a0]=>some (true,.one (.int .i32 (O7 a0)))
 |_=>none
def S48:Ae->Option (Bool×E6)
 |[.sl .i32 a0 none,.int .i64 a1]=>some (D3 a0&&decide (0<=a1)&&decide (a1<=(Ax a0:Int)+12),.one (.int .i32 (J8 (Ba (Ay a1) a0))))
 |_=>none
def S34:Ae->Option (Bool×E6)
 |[.sl .i32 a0 none,.int .i64 a1]=>some (D3 a0&&decide (0<=a1)&&decide (a1<(Ax a0:Int)),.tup [.int .i32 ((J6 (Ba (Ay a1) a0)).1),.int .i64 ((J6 (Ba (Ay a1) a0)).2)])
 |_=>none
def S21:Ae->Option (Bool×E6)
 |[.sl .i32 a0 none]=>some (D3 a0,.tup [.str ((Y0 a0).1),.int .i64 ((Y0 a0).2)])
 |_=>none
def S23:Ae->Option (Bool×E6)
 |[.sl .i32 a0 none]=>some (smL a0,.tup [.str ((W7 a0).1),.int .i64 ((W7 a0).2)])
 |_=>none
def S37:Ae->Option (Bool×E6)
 |[.sl .i32 a0 none]=>some (smL a0,.one (.sl .rs (B3 a0) (some 1)))
 |_=>none
def S38:Ae->Option (Bool×E6)
 |[.sl .i32 a0 none]=>some (smL a0,.one (.bool (A8f 0 a0)))
 |_=>none
def S39:Ae->Option (Bool×E6)
 |[.sl .i32 a0 none]=>some (smL a0,.one (.sl .rs (B3 a0) (some 1)))
 |_=>none
def S40:Ae->Option (Bool×E6)
 |[.sl .i32 a0 none]=>some (smL a0,.one (.sl .i32 (E7 a0) (some 1)))
 |_=>none
def S51:Ae->Option (Bool×E6)
 |[.sl .i32 a0 none]=>some (D3 a0,.one (.bool (J9 a0)))
 |_=>none
def S52:Ae->Option (Bool×E6)
 |[.sl .i32 a0 none,.int .i64 a1]=>some (D3 a0&&decide (0<=a1)&&decide (a1<(Ax a0:Int)),.one (.bool (N3 (Ba (Ay a1) a0))))
 |_=>none
def S54:Ae->Option (Bool×E6)
 |[.sl .i32 a0 none,.int .i64 a1]=>some (D3 a0&&decide (0<=a1)&&decide (a1<(Ax a0:Int)),.one (.bool (L4 (Ba (Ay a1) a0))))
 |_=>none
def S55:Ae->Option (Bool×E6)
 |[.sl .i32 a0 none]=>some (smL a0,.one (.sl .i64 (R5 a0) (some 1)))
 |_=>none
def B4k:Ae->Option (Bool×E6)
 |[.str a0]=>some (true,.tup [.int .i32 ((dgF a0).1),.int .i64 ((dgF a0).2)])
 |_=>none
def B0H:Ae->Option (Bool×E6)
 |[.str a0]=>some (smS a0,.tup [.sl .i32 ((C5 a0).1) (some 1),.int .i64 (((C5 a0).2:Nat):Int)])
 |_=>none
def B6W:Ae->Option (Bool×E6)
 |[.sl .u8 a0 none,.sl .u8 a1 none]=>some (A2 (Ax a0) 1&&A2 (Ax a1) 1,.one (.bool (eqI a0 a1)))
 |_=>none
def B4r:Ae->Option (Bool×E6)
 |[.sl .u8 a0 none]=>some (isB a0&&decide (1<=Ax a0)&&decide (Ax a0<=4),.one (.int .i32 (I6 a0)))
 |_=>none
def B6A:Ae->Option (Bool×E6)
 |[.sl .u8 a0 none]=>some (isB a0&&decide (1<=Ax a0)&&A2 (Ax a0) 1,.tup [.int .i32 ((P4 a0).1),.int .i64 ((P4 a0).2)])
 |_=>none
def S223:Ae->Option (Bool×E6)
 |[.sl .u8 a0 none]=>some (isB a0&&smL a0,.tup [.sl .i32 ((C5 (toB a0)).1) (some 1),.int .i64 (((C5 (toB a0)).2:Nat):Int)])
 |_=>none
def B4J:Ae->Option (Bool×E6)
 |[.int .i32 a0]=>some (true,.tup [.int .i32 ((E0 a0).1),.int .i32 ((E0 a0).2.1),.bool ((E0 a0).2.2)])
 |_=>none
def B30:Ae->Option (Bool×E6)
 |[.int .i32 a0]=>some (true,.tup [.int .i32 ((E0 a0).1),.int .i32 ((E0 a0).2.1),.bool ((E0 a0).2.2)])
 |_=>none
def B3i:Ae->Option (Bool×E6)
 |[.sl .i32 a0 (some 0),.int .i32 a1]=>some (A2 (Ax a0+6) 4&&decide (0<=a1)&&decide (a1<=65535),.one (.sl .i32 (K6 a0 (H6 a1)) (some 0)))
 |_=>none
def B3O:Ae->Option (Bool×E6)
 |[.sl .i32 a0 (some 0),.int .i32 a1]=>some (A2 (Ax a0+12) 4&&D5 a1,.one (.sl .i32 (K6 a0 (wrF a1)) (some 0)))
 |_=>none
def B41:Ae->Option (Bool×E6)
 |[.int .i32 a0]=>some (decide (0<=a0)&&decide (a0<=65535),.one (.str (B2 (H6 a0))))
 |_=>none
def B6U:Ae->Option (Bool×E6)
 |[.int .i32 a0]=>some (D5 a0,.one (.str (B2 (wrF a0))))
 |_=>none
def S207:Ae->Option (Bool×E6)
 |[.str a0]=>some (smS a0,.tup [.str ((qtF a0).1),.int .i64 ((qtF a0).2)])
 |_=>none
def S208:Ae->Option (Bool×E6)
 |[.str a0]=>some (smS a0,.tup [.str ((qtF a0).1),.int .i64 ((qtF a0).2)])
 |_=>none
def B5Z:Ae->Option (Bool×E6)
 |[.sl .rs a0 none]=>some (L3 a0&&decide (1<=Ax a0),.one (.bool (S5 a0)))
 |_=>none
def B58:Ae->Option (Bool×E6)
 |[.sl .rs a0 none]=>some (L3 a0&&decide (1<=Ax a0),.one (.bool (S5 a0)))
 |_=>none
def B4W:Ae->Option (Bool×E6)
 |[.sl .i32 a0 none]=>some (smL a0,.one (.sl .i32 (maskF a0) (some 1)))
 |_=>none
def S209:Ae->Option (Bool×E6)
 |[.str a0]=>some (smS a0,.tup [.str ((btF a0).1),.bool ((btF a0).2)])
 |_=>none
def S210:Ae->Option (Bool×E6)
 |[.str a0]=>some (smS a0,.tup [.str ((btF a0).1),.bool ((btF a0).2)])
 |_=>none
def E60:Env Ty6 A4:=mk6 noT noC (lkE [(0,[2]),(4,[6]),(5,[8,9,23]),(6,[7,10,11,12,13,14,15,16,17,18,19,20,21,22]),(7,[0,3,4,5,23,24]),(8,[0,3,4,5,7])]) 25
def B0a(x0:Int)(x3:Ab)(x4:Ab)(x5:Int):S6:=⟨[(0,.one (.int .i32 x0)),(3,.one (.str x3)),(4,.one (.str x4)),(5,.one (.int .i64 x5))],[]⟩
theorem D74(n:Nat)(a0:Int):A3 E60 n Eb [.int .i32 a0]=
  D1 (lbC E60 (A1 Eb [1,1,1,0,1,0,0]) 10004 n) n (B0a a0 [48,49,50,51,52,53,54,55,56,57,97,98,99,100,101,102] [48,49,50,51,52,53,54,55,56,57,65,66,67,68,69,70] 0) (A5 0 (C1 (B1 E60 n (A1 Eb [1,1,1,1])) (A9 E60 Tryz.f245.results.toList))):=by
 kernel_rfl
theorem D26(n:Nat)(x0:Int)(x3:Ab)(x4:Ab)(x5:Int)(K:Ex->S6->Ad):lbC E60 (A1 Eb [1,1,1,0,1,0,0]) 10004 n (B0a x0 x3 x4 x5) K=
  bif decide (x5<16)then(match idx x3 x5 with|none=>none|some y1=>(bif((Aw .i32 (Cq y1:Int))==x0)==false then(match idx x4 x5 with|none=>none|some y2=>(bif(Aw .i32 (Cq y2:Int))==x0 then(K .ret ⟨[(2,.one (.int .i64 x5))],[]⟩)else(K .normal (B0a x0 x3 x4 (Aw .i64 (x5+1))))))else(K .ret ⟨[(2,.one (.int .i64 x5))],[]⟩)))else(K (.exit 0) ⟨[(0,.one (.int .i32 x0)),(3,.one (.str x3)),(4,.one (.str x4)),(5,.one (.int .i64 x5)),(7,.one (.bool (decide (x5<16))))],[]⟩):=by
 kernel_rfl
theorem D5Z(n:Nat)(x0:Int)(x3:Ab)(x4:Ab)(x5:Int)(x7:Bool):(A5 0 (C1 (B1 E60 n (A1 Eb [1,1,1,1])) (A9 E60 Tryz.f245.results.toList))) (.exit 0) ⟨[(0,.one (.int .i32 x0)),(3,.one (.str x3)),(4,.one (.str x4)),(5,.one (.int .i64 x5)),(7,.one (.bool x7))],[]⟩=
  some (.one (.int .i64 (-1))):=by
 kernel_rfl
def E49:Env Ty6 A4:=mk6 noT noC (lkE [(0,[4,5]),(1,[6,7,8,9,10,11,12,13,14,15,16,17,18]),(2,[0,1,19]),(3,[0,1,19,20,21,22,23,24,25,26])]) 27
theorem B4x(n:Nat)(a0:Int)(a1:Int):A3 E49 n Tryz.f244 [.int .i32 a0,.int .i32 a1]=
  bif(decide (a0<55296))==false then(bif(decide (a0>56319))==false then(bif(decide (a1<56320))==false then(bif decide (a1>57343)then(some (.tup [.int .i32 0,.bool false]))else(some (.tup [.int .i32 (Aw .i32 ((Aw .i32 (65536+(Aw .i32 ((Aw .i32 (a0 - 55296))*1024))))+(Aw .i32 (a1 - 56320)))),.bool true])))else(some (.tup [.int .i32 0,.bool false])))else(some (.tup [.int .i32 0,.bool false])))else(some (.tup [.int .i32 0,.bool false])):=by
 kernel_rfl
def E32:Env Ty6 A4:=mk6 noT noC (lkE [(0,[2]),(1,[3]),(2,[0,4,5,6,7,8,9,10,11,12,13,14]),(3,[0,4,15,16,17,18,19,20,21,22,23,24])]) 25
theorem B6E(n:Nat)(a0:Int):A3 E32 n Tryz.f191 [.int .i32 a0]=
  bif decide (a0<32)then(bif(a0==9)==false then(bif(a0==10)==false then(some (.one (.bool (a0==13))))else(some (.one (.bool true))))else(some (.one (.bool true))))else(bif(decide (a0<=65535))==true then(bif(decide (a0<55296))==false then(some (.one (.bool (decide (a0>=57344)))))else(some (.one (.bool true))))else(some (.one (.bool false)))):=by
 kernel_rfl
def T53:T6:=λf ls=>match f with
 |174=>S62 ls
 |175=>S61 ls
 |_=>none
def E53:Env Ty6 A4:=mk6 T53 noC (lkE [(0,[2]),(1,[3]),(2,[0,4,5,6]),(3,[0,4,7,8,9,10,11,12])]) 13
theorem B35(n:Nat)(a0:Int):A3 E53 n Tryz.f121 [.int .i32 a0]=
  bif decide (a0<32)then(bif A2 (Ax [9,10,13]) 1 then(some (.one (.bool (inF a0 [9,10,13]))))else none)else(bif(decide (a0<65536))==true then(some (.one (.bool (D5 a0))))else(some (.one (.bool false)))):=by
 kernel_rfl
def E61:Env Ty6 A4:=mk6 noT noC (lkE [(0,[2]),(1,[3,4,5,6,7]),(2,[0,8]),(3,[0,8,9,10,11,12,13,14])]) 15
theorem D2I(n:Nat)(a0:Int):A3 E61 n Tryz.f175 [.int .i32 a0]=
  bif(decide (a0>=55296))==true then(bif decide (a0<=57343)then(some (.one (.bool false)))else(bif(decide (a0>=0))==true then(some (.one (.bool (decide (a0<=1114111)))))else(some (.one (.bool false)))))else(bif(decide (a0>=0))==true then(some (.one (.bool (decide (a0<=1114111)))))else(some (.one (.bool false)))):=by
 kernel_rfl
def E62:Env Ty6 A4:=mk6 noT noC (lkE [(0,[4]),(2,[6,7,8]),(3,[10,11,17]),(4,[9,12,13,14,15,16]),(5,[0,1,5,17]),(6,[0,1,5,9])]) 18
def A9t(x0:Int)(x1:Ab)(x5:Int):S6:=⟨[(0,.one (.int .i32 x0)),(1,.one (.str x1)),(5,.one (.int .i64 x5))],[]⟩
theorem B39(n:Nat)(a0:Int)(a1:Ab):A3 E62 n Et [.int .i32 a0,.str a1]=
  D1 (lbC E62 (A1 Et [1,0,1,0,0]) 10002 n) n (A9t a0 a1 0) (A5 0 (C1 (B1 E62 n (A1 Et [1,1])) (A9 E62 Tryz.f174.results.toList))):=by
 kernel_rfl
theorem D3S(n:Nat)(x0:Int)(x1:Ab)(x5:Int)(K:Ex->S6->Ad):lbC E62 (A1 Et [1,0,1,0,0]) 10002 n (A9t x0 x1 x5) K=
  bif decide (x5<(Ax x1:Int))then(match idx x1 x5 with|none=>none|some y1=>(bif(Aw .i32 (Cq y1:Int))==x0 then(K .ret ⟨[(4,.one (.bool true))],[]⟩)else(K .normal (A9t x0 x1 (Aw .i64 (x5+1))))))else(K (.exit 0) ⟨[(0,.one (.int .i32 x0)),(1,.one (.str x1)),(5,.one (.int .i64 x5)),(9,.one (.bool (decide (x5<(Ax x1:Int)))))],[]⟩):=by
 kernel_rfl
theorem C8f(n:Nat)(x0:Int)(x1:Ab)(x5:Int)(x9:Bool):(A5 0 (C1 (B1 E62 n (A1 Et [1,1])) (A9 E62 Tryz.f174.results.toList))) (.exit 0) ⟨[(0,.one (.int .i32 x0)),(1,.one (.str x1)),(5,.one (.int .i64 x5)),(9,.one (.bool x9))],[]⟩=
  some (.one (.bool false)):=by
 kernel_rfl
def E44:Env Ty6 A4:=mk6 noT noC (lkE [(0,[2]),(1,[4,5,6,7,8,9]),(2,[0,3]),(3,[0,3,11,12,13,14,15,16]),(4,[10]),(5,[10])]) 17
theorem B4U(n:Nat)(a0:Int):A3 E44 n Tryz.f220 [.int .i32 a0]=
  bif(decide (0<=a0))==true then(bif decide (a0<55296)then(some (.one (.bool true)))else(bif(decide (57343<a0))==true then(bif decide (a0<=1114111)then(some (.one (.bool true)))else(some (.one (.bool false))))else(some (.one (.bool false)))))else(bif(decide (57343<a0))==true then(bif decide (a0<=1114111)then(some (.one (.bool true)))else(some (.one (.bool false))))else(some (.one (.bool false)))):=by
 kernel_rfl
def T45:T6:=λf ls=>match f with
 |238=>S59 ls
 |_=>none
def D2B:Cr->Ak:=λf=>match f with
 |238=>some 0
 |_=>none
def E45:Env Ty6 A4:=mk6 T45 D2B (lkE [(0,[4]),(1,[5,6]),(2,[0,1,7,8,9,10,11,12]),(3,[0,1,7,13,14,15])]) 16
theorem B4m(n:Nat)(a0:Aa)(a1:Int):A3 E45 n Tryz.f221 [.sl .u8 a0 (some 0),.int .i32 a1]=
  bif decide ((Aw .u32 a1)<=127)then(bif A2 (Ax a0+1) 1 then(some (.one (.sl .u8 (a0++[Aw .u8 a1]) (some 0))))else none)else(bif A2 (Ax a0+4) 1&&D5 a1&&decide (128<=a1)then(some (.one (.sl .u8 (K6 a0 (u8F a1)) (some 0))))else none):=by
 kernel_rfl
def E59:Env Ty6 A4:=mk6 noT noC (lkE [(0,[4]),(1,[6,7]),(2,[0,1,8,9,10,50]),(3,[12,13]),(4,[0,1,5,11,14,15,16,17,18,19,20,21,22,23,24]),(5,[11,26,27]),(6,[28,29,30,31,32,33]),(7,[0,1,5,25,34,35,36,37,38,39,40,41,42,43,44,45,46,47,48,49]),(8,[5,25,51,52,53,54,55,56]),(9,[0,1,50,57,58,59,60,61,62,63,64,65,66,67,68,69,70,71,72,73,74,75,76,77])]) 78
theorem D1K(n:Nat)(a0:Aa)(a1:Int):A3 E59 n Tryz.f238 [.sl .u8 a0 (some 0),.int .i32 a1]=
  bif decide ((Aw .u32 a1)<=2047)then(bif A2 (Ax a0+2) 1 then(some (.one (.sl .u8 (a0++[bits .or .u8 192 (Aw .u8 (a1 / 2^(Ay 6))),bits .or .u8 128 (bits .and .u8 (Aw .u8 a1) 63)]) (some 0))))else none)else(bif decide ((Aw .u32 a1)<55296)then(bif decide ((Aw .u32 a1)<55296)then(bif A2 (Ax a0+3) 1 then(some (.one (.sl .u8 (a0++[bits .or .u8 224 (Aw .u8 (a1 / 2^(Ay 12))),bits .or .u8 128 (bits .and .u8 (Aw .u8 (a1 / 2^(Ay 6))) 63),bits .or .u8 128 (bits .and .u8 (Aw .u8 a1) 63)]) (some 0))))else none)else(bif(decide ((Aw .u32 a1)>65535))==true then(bif decide ((Aw .u32 a1)<=1114111)then(bif A2 (Ax a0+4) 1 then(some (.one (.sl .u8 (a0++[bits .or .u8 240 (Aw .u8 (a1 / 2^(Ay 18))),bits .or .u8 128 (bits .and .u8 (Aw .u8 (a1 / 2^(Ay 12))) 63),bits .or .u8 128 (bits .and .u8 (Aw .u8 (a1 / 2^(Ay 6))) 63),bits .or .u8 128 (bits .and .u8 (Aw .u8 a1) 63)]) (some 0))))else none)else(bif A2 (Ax a0+3) 1 then(some (.one (.sl .u8 (a0++[239,191,189]) (some 0))))else none))else(bif A2 (Ax a0+3) 1 then(some (.one (.sl .u8 (a0++[239,191,189]) (some 0))))else none)))else(bif(decide (57343<(Aw .u32 a1)))==true then(bif decide ((Aw .u32 a1)<=65535)then(bif A2 (Ax a0+3) 1 then(some (.one (.sl .u8 (a0++[bits .or .u8 224 (Aw .u8 (a1 / 2^(Ay 12))),bits .or .u8 128 (bits .and .u8 (Aw .u8 (a1 / 2^(Ay 6))) 63),bits .or .u8 128 (bits .and .u8 (Aw .u8 a1) 63)]) (some 0))))else none)else(bif(decide ((Aw .u32 a1)>65535))==true then(bif decide ((Aw .u32 a1)<=1114111)then(bif A2 (Ax a0+4) 1 then(some (.one (.sl .u8 (a0++[bits .or .u8 240 (Aw .u8 (a1 / 2^(Ay 18))),bits .or .u8 128 (bits .and .u8 (Aw .u8 (a1 / 2^(Ay 12))) 63),bits .or .u8 128 (bits .and .u8 (Aw .u8 (a1 / 2^(Ay 6))) 63),bits .or .u8 128 (bits .and .u8 (Aw .u8 a1) 63)]) (some 0))))else none)else(bif A2 (Ax a0+3) 1 then(some (.one (.sl .u8 (a0++[239,191,189]) (some 0))))else none))else(bif A2 (Ax a0+3) 1 then(some (.one (.sl .u8 (a0++[239,191,189]) (some 0))))else none)))else(bif(decide ((Aw .u32 a1)>65535))==true then(bif decide ((Aw .u32 a1)<=1114111)then(bif A2 (Ax a0+4) 1 then(some (.one (.sl .u8 (a0++[bits .or .u8 240 (Aw .u8 (a1 / 2^(Ay 18))),bits .or .u8 128 (bits .and .u8 (Aw .u8 (a1 / 2^(Ay 12))) 63),bits .or .u8 128 (bits .and .u8 (Aw .u8 (a1 / 2^(Ay 6))) 63),bits .or .u8 128 (bits .and .u8 (Aw .u8 a1) 63)]) (some 0))))else none)else(bif A2 (Ax a0+3) 1 then(some (.one (.sl .u8 (a0++[239,191,189]) (some 0))))else none))else(bif A2 (Ax a0+3) 1 then(some (.one (.sl .u8 (a0++[239,191,189]) (some 0))))else none)))):=by
 kernel_rfl
end Go.Aev.Bv
namespace Go.Aev.Bv
section
variable {Ty:Type}{den:Ty->Type}{R:Type}
def A10(body:St Ty den->(Ex->St Ty den->Option R)->Option R)(m:Nat)(k:Ex->St Ty den->Option R):Ex->St Ty den->Option R
 | .normal,s=>D1 body m s k
 |e,s=>k e s
theorem B22(body:St Ty den->(Ex->St Ty den->Option R)->Option R)(m:Nat)(s:St Ty den)(k:Ex->St Ty den->Option R):
  D1 body (m+1) s k=body s (A10 body m k):=by
 simp only[D1]
 congr 1
 funext e s'
 cases e<;>rfl
end
theorem G9{n b:Nat}:A2 n b=true↔n*b<=140737488355328:=by simp[A2]
theorem T9{l:Aa}:D3 l=true↔l.length*4<=140737488355328:=G9
theorem A5q{l:Aa}(h:D3 l=true):l.length<=35184372088832:=by have:=T9.1 h;omega
theorem A6x{l:Am}(h:L3 l=true):l.length*24<=140737488355328:=by
 simp only[L3,Bn]at h;exact G9.1 h.1
theorem A0K{l:Am}(h:L3 l=true){x:Aa}(hx:x∈l):D3 x=true:=by
 simp only[L3,Bn,Ce]at h;exact h.2 x hx
theorem P3{n:Int}(h: -9223372036854775808<=n)(h2:n<=9223372036854775807):Aw .i64 n=n:=Go.IntWalk.i64_in n ⟨h,h2⟩
theorem I9{i:Nat}(h:i<9223372036854775807):Aw .i64 ((i:Int)+1)=((i+1:Nat):Int):=by
 rw[P3 (by omega) (by omega)];omega
theorem D1x{i:Nat}(h:i<9223372036854775807):Aw .i64 (((i+1:Nat):Int) - 1)=(i:Int):=by
 rw[P3 (by omega) (by omega)];omega
theorem E1{α:Type}(l:List α)(i:Nat):idx l (i:Int)=l[i]? :=by simp[idx]
theorem D9{α:Type}{l:List α}{i:Nat}(h:i<l.length):idx l (i:Int)=some l[i]:=by rw[E1,Cd h]
section
variable {Ty:Type}{den:Ty->Type}{R:Type}
theorem H9{σ:Type}{body:St Ty den->(Ex->St Ty den->Option R)->Option R}{k:Ex->St Ty den->Option R}(st:σ->St Ty den)(I:σ->Prop)(μ:σ->Nat)(F:σ->Option R)
  (h:∀x,I x->∀K:Ex->St Ty den->Option R,(∀i s,K (.exit i) s=k (.exit i) s)->(∀s,K .ret s=k .ret s)->(∀y,I y->μ y<μ x->K .normal (st y)=F y)->body (st x) K=F x):
  ∀m x,I x->μ x<m->D1 body m (st x) k=F x:=by
 intro m
 induction m with
 |zero=>intro x _ hm;omega
 |succ m ih=>
  intro x hx hm;rw[B22];exact h x hx _ (λ_ _=>rfl) (λ_=>rfl) (λy hy ap=>ih y hy (by omega))
end
theorem A6V{α:Type}{l:List α}{lo hi:Nat}(h:lo<=hi)(h2:hi<=l.length):sub l (lo:Int) (hi:Int)=some ((l.drop lo).take (hi - lo)):=by
 unfold sub;have h3:(decide (0<=(lo:Int))&&(decide ((lo:Int)<=(hi:Int))&&decide ((hi:Int)<=(l.length:Int))))=true:=by simp;omega
 rw[h3];rfl
theorem A80{α:Type}{l:List α}{lo:Nat}(h:lo<=l.length):sub l (lo:Int) (l.length:Int)=some (l.drop lo):=by
 rw[A6V h (Bg _),Bq (by simp)]
theorem bT(b:Bool):(b==true)=b:=by cases b<;>rfl
theorem bF(b:Bool):(b==false)= !b:=by cases b<;>rfl
end Go.Aev.Bv
namespace Go.Aev.Bv
open Go.Proofs
theorem w32{n:Int}(h: -2147483648<=n)(h2:n<=2147483647):Aw .i32 n=n:=Go.IntWalk.i32_in n ⟨h,h2⟩
theorem w8{n:Int}(h:0<=n)(h2:n<=255):Aw .u8 n=n:=Go.IntWalk.u8_in n ⟨h,h2⟩
theorem C4g{n:Int}(h:0<=n)(h2:n<=4294967295):Aw .u32 n=n:=Go.IntWalk.u32_in n ⟨h,h2⟩
theorem C5d{c:Int}:B3L c=true↔48<=c/\c<=57:=by simp[B3L]
theorem B4d(c:Int): -1<=N9 c/\N9 c<=15:=by
 unfold N9;split
 ·rename_i h;have:=C5d.1 h;omega
 ·split
  ·rename_i h;simp at h;omega
  ·split
   ·rename_i h;simp at h;omega
   ·omega
theorem D0U(a b:Int)(n:Nat):A3 E49 n Tryz.f244 [.int .i32 a,.int .i32 b]=some (.tup [.int .i32 (M2 a b).1,.bool (M2 a b).2]):=by
 rw[B4x];unfold M2;by_cases h1:a<55296
 ·simp[h1]
 ·by_cases h2:56320<=a
  ·have dw:56319<a:=by omega
   simp[h1,h2,dw]
  ·have dw:¬56319<a:=by omega
   by_cases h3:b<56320
   ·simp[h1,h2,h3,dw]
   ·by_cases h4:57344<=b
    ·have nk:57343<b:=by omega
     simp[h1,h2,h3,h4,dw,nk]
    ·have nk:¬57343<b:=by omega
     simp[h1,h2,h3,h4,dw,nk];rw[w32 (n:=a - 55296) (by omega) (by omega),w32 (n:=(a - 55296)*1024) (by omega) (by omega),w32 (n:=65536+_) (by omega) (by omega),w32 (n:=b - 56320) (by omega) (by omega),w32 (by omega) (by omega)]
theorem C9T(c:Int)(n:Nat):A3 E32 n Tryz.f191 [.int .i32 c]=some (.one (.bool (L8 c))):=by
 rw[B6E];unfold L8;by_cases h:c<32
 ·cases h1:c==9<;>cases h2:c==10<;>simp[h,h1,h2]
 ·by_cases h1:c<=65535
  ·by_cases h2:c<55296<;>simp[h,h1,h2]
  ·simp[h,h1]
theorem C51(c:Int)(n:Nat):A3 E44 n Tryz.f220 [.int .i32 c]=some (.one (.bool (D5 c))):=by
 rw[B4U];unfold D5;by_cases h1:0<=c
 ·by_cases h2:c<55296
  ·simp[h1,h2]
  ·by_cases h3:57343<c
   ·by_cases h4:c<=1114111<;>simp[h1,h2,h3,h4]
   ·simp[h1,h2,h3]
 ·have h3:¬57343<c:=by omega
  simp[h1,h3]
theorem D7w(c:Int)(n:Nat):A3 E61 n Tryz.f175 [.int .i32 c]=some (.one (.bool (D5 c))):=by
 rw[D2I];unfold D5;by_cases h1:55296<=c
 ·by_cases h2:c<=57343
  ·have h3:¬57343<c:=by omega
   have h4:¬c<55296:=by omega
   simp[h1,h2,h3,h4]
  ·have h3:57343<c:=by omega
   have h4:¬c<55296:=by omega
   have h5:0<=c:=by omega
   simp[h1,h2,h3,h4,h5]
 ·have h4:c<55296:=by omega
  have h3:¬57343<c:=by omega
  by_cases h5:0<=c
  ·have h6:c<=1114111:=by omega
   simp[h1,h4,h5,h6]
  ·simp[h1,h4,h5,h3]
theorem C57(c:Int)(n:Nat):A3 E53 n Tryz.f121 [.int .i32 c]=some (.one (.bool (L8 c))):=by
 rw[B35];unfold L8;by_cases h:c<32
 ·have e:inF c [9,10,13]=(c==9||(c==10||c==13)):=by
   simp only[inF,Hi,List.any_nil,Bool.or_false,show((9:UInt8).toNat:Int)=9 from rfl,show((10:UInt8).toNat:Int)=10 from rfl,show((13:UInt8).toNat:Int)=13 from rfl];rw[Hm (a:=9) (b:=c),Hm (a:=10) (b:=c),Hm (a:=13) (b:=c)]
  simp only[h,decide_true,Ap,if_true];rw[e];rfl
 ·by_cases h1:c<=65535
  ·have h2:c<65536:=by omega
   have e:D5 c=(decide (c<55296)||decide (57344<=c)):=by
    unfold D5;rw[Bool.eq_iff_iff];simp;omega
   simp[h,h1,h2,e]
  ·have h2:¬c<65536:=by omega
   simp[h,h1,h2]
theorem A3B(b:UInt8):0<=(b.toNat:Int)/\(b.toNat:Int)<=255:=by have:=b.toNat_lt;omega
theorem D0v(c:Int)(t:Ab)(hl:A2 t.length 1=true)(n:Nat)(hn:t.length<n):A3 E62 n Et [.int .i32 c,.str t]=some (.one (.bool (inF c t))):=by
 have aj:=G9.1 hl;rw[B39];refine(H9 (λi:Nat=>A9t c t i) (λi=>i<=t.length) (λi=>t.length - i) (λi=>(some (.one (.bool (inF c (t.drop i)))):Ad)) ?_ n 0 (Bh _) (by omega));intro i hi K a8 bH aU;rw[D3S];by_cases h:i<t.length
 ·rw[Ar (by omega:(i:Int)<(t.length:Int)),Ap,D9 h];dsimp only;have hb:=A3B t[i];rw[w32 (by omega) (by omega),Bz h];unfold inF;rw[Hi];cases hc:(t[i].toNat:Int)==c with
  |true=>rw[Ap,Bool.true_or];exact(bH _).trans rfl
  |false=>
   rw[Aq,I9 (by omega),aU (i+1) (by omega) (by omega)];simp[inF]
 ·rw[As (by omega:¬(i:Int)<(t.length:Int)),Aq,a8,C8f,Bi (by omega)];rfl
def T48:T6:=λf ls=>match f with
 |245=>S60 ls
 |_=>none
def E48:Env Ty6 A4:=mk6 T48 noC (lkE [(0,[4]),(1,[8,9,10,11,12,13,14,15,16,17,18,19,20,21,22,23,24,25,26]),(2,[0,1,27]),(3,[27]),(4,[28,29]),(5,[30,31,32]),(6,[34,35]),(7,[33,36,37,38,39,40]),(8,[41]),(9,[0,1,5,6,7,42]),(10,[7,42,43,44,45,46,47]),(11,[0,1,5,6,33,48])]) 49
def B1k(x0:Aa)(x1:Int)(x5:Int)(x6:Int):S6:=⟨[(0,.one (.sl .i32 x0 none)),(1,.one (.int .i64 x1)),(5,.one (.int .i32 x5)),(6,.one (.int .i64 x6))],[]⟩
theorem D7G(n:Nat)(a0:Aa)(a1:Int):A3 E48 n Ec [.sl .i32 a0 none,.int .i64 a1]=
  bif(decide ((Aw .i64 (a1+6))>(Ax a0:Int)))==false then(match idx a0 a1 with|none=>none|some y1=>(bif(y1 !=92)==false then(match idx a0 (Aw .i64 (a1+1))with|none=>none|some y2=>(bif y2 !=117 then(some (.one (.int .i32 (-1))))else(D1 (lbC E48 (A1 Ec [1,1,1,0,1,0,0]) 10005 n) n (B1k a0 a1 0 (Aw .i64 (a1+2))) (A5 0 (C1 (B1 E48 n (A1 Ec [1,1,1,1])) (A9 E48 Tryz.f243.results.toList))))))else(some (.one (.int .i32 (-1))))))else(some (.one (.int .i32 (-1)))):=by
 kernel_rfl
theorem D1L(n:Nat)(x0:Aa)(x1:Int)(x5:Int)(x6:Int)(K:Ex->S6->Ad):lbC E48 (A1 Ec [1,1,1,0,1,0,0]) 10005 n (B1k x0 x1 x5 x6) K=
  bif decide (x6<(Aw .i64 (x1+6)))then(match idx x0 x6 with|none=>none|some y3=>(bif decide ((N9 y3)<0)then(K .ret ⟨[(4,.one (.int .i32 (-1)))],[]⟩)else(K .normal (B1k x0 x1 (Aw .i32 ((Aw .i32 (x5*16))+(Aw .i32 (N9 y3)))) (Aw .i64 (x6+1))))))else(K (.exit 0) ⟨[(0,.one (.sl .i32 x0 none)),(1,.one (.int .i64 x1)),(5,.one (.int .i32 x5)),(6,.one (.int .i64 x6)),(33,.one (.bool (decide (x6<(Aw .i64 (x1+6))))))],[]⟩):=by
 kernel_rfl
theorem D46(n:Nat)(x0:Aa)(x1:Int)(x5:Int)(x6:Int)(xO:Bool):(A5 0 (C1 (B1 E48 n (A1 Ec [1,1,1,1])) (A9 E48 Tryz.f243.results.toList))) (.exit 0) ⟨[(0,.one (.sl .i32 x0 none)),(1,.one (.int .i64 x1)),(5,.one (.int .i32 x5)),(6,.one (.int .i64 x6)),(33,.one (.bool xO))],[]⟩=
  some (.one (.int .i32 x5)):=by
 kernel_rfl
def E47:Env Ty6 A4:=mk6 noT noC (lkE [(0,[2]),(4,[6,7,8]),(5,[10,11,17]),(6,[9,12,13,14,15,16]),(7,[0,3,4,5,17,18,19,20,21]),(8,[0,3,4,5,9])]) 22
def A9k(x0:Int)(x3:Ab)(x4:Ab)(x5:Int):S6:=⟨[(0,.one (.int .i32 x0)),(3,.one (.str x3)),(4,.one (.str x4)),(5,.one (.int .i64 x5))],[]⟩
theorem C9b(n:Nat)(a0:Int):A3 E47 n Ed [.int .i32 a0]=
  D1 (lbC E47 (A1 Ed [1,1,1,0,1,0,0]) 10004 n) n (A9k a0 [34,92,47,98,102,110,114,116] [34,92,47,8,12,10,13,9] 0) (A5 0 (C1 (B1 E47 n (A1 Ed [1,1,1,1])) (A9 E47 Tryz.f242.results.toList))):=by
 kernel_rfl
theorem D3M(n:Nat)(x0:Int)(x3:Ab)(x4:Ab)(x5:Int)(K:Ex->S6->Ad):lbC E47 (A1 Ed [1,1,1,0,1,0,0]) 10004 n (A9k x0 x3 x4 x5) K=
  bif decide (x5<(Ax x3:Int))then(match idx x3 x5 with|none=>none|some y1=>(bif(Aw .i32 (Cq y1:Int))==x0 then(match idx x4 x5 with|none=>none|some y2=>(K .ret ⟨[(2,.one (.int .i32 (Aw .i32 (Cq y2:Int))))],[]⟩))else(K .normal (A9k x0 x3 x4 (Aw .i64 (x5+1))))))else(K (.exit 0) ⟨[(0,.one (.int .i32 x0)),(3,.one (.str x3)),(4,.one (.str x4)),(5,.one (.int .i64 x5)),(9,.one (.bool (decide (x5<(Ax x3:Int)))))],[]⟩):=by
 kernel_rfl
theorem D6O(n:Nat)(x0:Int)(x3:Ab)(x4:Ab)(x5:Int)(x9:Bool):(A5 0 (C1 (B1 E47 n (A1 Ed [1,1,1,1])) (A9 E47 Tryz.f242.results.toList))) (.exit 0) ⟨[(0,.one (.int .i32 x0)),(3,.one (.str x3)),(4,.one (.str x4)),(5,.one (.int .i64 x5)),(9,.one (.bool x9))],[]⟩=
  some (.one (.int .i32 (-1))):=by
 kernel_rfl
def T46:T6:=λf ls=>match f with
 |121=>S53 ls
 |_=>none
def E46:Env Ty6 A4:=mk6 T46 noC (lkE [(0,[2]),(1,[0,3,4,5,6,7,8,9,10,11,12,13,14,15,16,17,18,19,20])]) 21
theorem D3G(n:Nat)(a0:Int):A3 E46 n Tryz.f241 [.int .i32 a0]=
  bif(L8 a0)==true then(bif(a0 !=34)==true then(bif(a0 !=92)==true then(bif(a0 !=10)==true then(some (.one (.bool (a0 !=13))))else(some (.one (.bool false))))else(some (.one (.bool false))))else(some (.one (.bool false))))else(some (.one (.bool false))):=by
 kernel_rfl
def T34:T6:=λf ls=>match f with
 |241=>S46 ls
 |242=>S47 ls
 |243=>S48 ls
 |244=>S49 ls
 |_=>none
def E34:Env Ty6 A4:=mk6 T34 noC (lkE [(0,[4,5]),(1,[12,13,14,15,16]),(2,[6]),(3,[0,1,17,18,19,20,21]),(4,[17,22,23,24,25,26,27,28,29,30,31,32]),(5,[0,1,33]),(6,[33,34,35,36,37,38,39]),(7,[40]),(8,[0,1,7,41,42]),(9,[7,41,43,44,45]),(10,[47,48,49,50,51,52,53,54,55,56]),(11,[0,1,8,46]),(12,[46,58,59,60,61,62,63]),(13,[0,1,57,64,65,66,67]),(14,[8,9,68,69,70,71,72,73]),(15,[11,74]),(16,[10,75]),(17,[10,75,76]),(18,[0,1,8,57,77])]) 78
theorem B31(n:Nat)(a0:Aa)(a1:Int):A3 E34 n Tryz.f235 [.sl .i32 a0 none,.int .i64 a1]=
  match idx a0 a1 with|none=>none|some y1=>(bif A0a y1 then(match idx a0 a1 with|none=>none|some y2=>(some (.tup [.int .i32 y2,.int .i64 1])))else(match idx a0 a1 with|none=>none|some y3=>(bif(y3 !=92)==false then(bif decide ((Aw .i64 (a1+1))>=(Ax a0:Int))then(some (.tup [.int .i32 0,.int .i64 0]))else(match idx a0 (Aw .i64 (a1+1))with|none=>none|some y4=>(bif decide ((O7 y4)>=0)then(some (.tup [.int .i32 (O7 y4),.int .i64 2]))else(bif D3 a0&&decide (0<=a1)&&decide (a1<=(Ax a0:Int)+12)then(bif(decide ((J8 (Ba (Ay a1) a0))<0))==false then(bif(decide ((J8 (Ba (Ay a1) a0))>=56320))==true then(bif decide ((J8 (Ba (Ay a1) a0))<=57343)then(some (.tup [.int .i32 0,.int .i64 0]))else(bif(decide ((J8 (Ba (Ay a1) a0))>=55296))==true then(bif decide ((J8 (Ba (Ay a1) a0))<=56319)then(bif D3 a0&&decide (0<=(Aw .i64 (a1+6)))&&decide ((Aw .i64 (a1+6))<=(Ax a0:Int)+12)then(bif !((M2 (J8 (Ba (Ay a1) a0)) (J8 (Ba (Ay (Aw .i64 (a1+6))) a0))).2)then(some (.tup [.int .i32 0,.int .i64 0]))else(some (.tup [.int .i32 ((M2 (J8 (Ba (Ay a1) a0)) (J8 (Ba (Ay (Aw .i64 (a1+6))) a0))).1),.int .i64 12])))else none)else(some (.tup [.int .i32 (J8 (Ba (Ay a1) a0)),.int .i64 6])))else(some (.tup [.int .i32 (J8 (Ba (Ay a1) a0)),.int .i64 6]))))else(bif(decide ((J8 (Ba (Ay a1) a0))>=55296))==true then(bif decide ((J8 (Ba (Ay a1) a0))<=56319)then(bif D3 a0&&decide (0<=(Aw .i64 (a1+6)))&&decide ((Aw .i64 (a1+6))<=(Ax a0:Int)+12)then(bif !((M2 (J8 (Ba (Ay a1) a0)) (J8 (Ba (Ay (Aw .i64 (a1+6))) a0))).2)then(some (.tup [.int .i32 0,.int .i64 0]))else(some (.tup [.int .i32 ((M2 (J8 (Ba (Ay a1) a0)) (J8 (Ba (Ay (Aw .i64 (a1+6))) a0))).1),.int .i64 12])))else none)else(some (.tup [.int .i32 (J8 (Ba (Ay a1) a0)),.int .i64 6])))else(some (.tup [.int .i32 (J8 (Ba (Ay a1) a0)),.int .i64 6]))))else(some (.tup [.int .i32 0,.int .i64 0])))else none))))else(some (.tup [.int .i32 0,.int .i64 0]))))):=by
 kernel_rfl
def T50:T6:=λf ls=>match f with
 |175=>S61 ls
 |_=>none
def E50:Env Ty6 A4:=mk6 T50 noC (lkE [(0,[2]),(1,[6,7]),(2,[0,8]),(3,[8,9,10,11,12]),(4,[13,14,15,16,17]),(5,[18,19,20,21,22]),(6,[24,25]),(7,[0,3,4,5,23,26,27,28]),(8,[23,30,31]),(9,[0,3,4,5,29,32,33,34,35,36,37]),(10,[29,39,40]),(11,[0,3,4,5,38,41,42,43,44,45,46,47]),(12,[0,3,4,5,38,48,49,50,51,52,53,54,55])]) 56
theorem D7F(n:Nat)(a0:Int):A3 E50 n Tryz.f172 [.int .i32 a0]=
  bif !(D5 a0)then(some (.one (.sl .u8 [] (some 1))))else(bif decide (a0<128)then(some (.one (.sl .u8 [Aw .u8 a0] (some 1))))else(bif decide (a0<2048)then(some (.one (.sl .u8 [Aw .u8 (Aw .i32 (192+(Aw .i32 (Cl a0 64)))),Aw .u8 (Aw .i32 (128+(Cb a0 64)))] (some 1))))else(bif decide (a0<65536)then(some (.one (.sl .u8 [Aw .u8 (Aw .i32 (224+(Aw .i32 (Cl a0 4096)))),Aw .u8 (Aw .i32 (128+(Cb (Aw .i32 (Cl a0 64)) 64))),Aw .u8 (Aw .i32 (128+(Cb a0 64)))] (some 1))))else(some (.one (.sl .u8 [Aw .u8 (Aw .i32 (240+(Aw .i32 (Cl a0 262144)))),Aw .u8 (Aw .i32 (128+(Cb (Aw .i32 (Cl a0 4096)) 64))),Aw .u8 (Aw .i32 (128+(Cb (Aw .i32 (Cl a0 64)) 64))),Aw .u8 (Aw .i32 (128+(Cb a0 64)))] (some 1))))))):=by
 kernel_rfl
def T33:T6:=λf ls=>match f with
 |220=>S44 ls
 |221=>S45 ls
 |_=>none
def C54:Cr->Ak:=λf=>match f with
 |221=>some 0
 |_=>none
def E33:Env Ty6 A4:=mk6 T33 C54 (lkE [(0,[2,3]),(2,[0]),(4,[10,11,12]),(5,[13,14]),(6,[4,6,7,8,9,15]),(7,[6,15,16,17,18]),(8,[19]),(9,[4,7,8,9,10,20,21])]) 22
def A91(x4:Aa)(x7:Aa)(x8:Int)(x9:Int):S6:=⟨[(4,.one (.sl .u8 x4 (some 104))),(7,.one (.sl .i32 x7 none)),(8,.one (.int .i64 x8)),(9,.one (.int .i64 x9))],[104]⟩
theorem C83(n:Nat)(a0:Aa):A3 E33 n Eo [.sl .i32 a0 none]=
  D1 (lbC E33 (A1 Eo [1,1,0,1,0,0]) 10003 n) n (A91 [] a0 (Ax a0:Int) 0) (A5 0 (C1 (B1 E33 n (A1 Eo [1,1,1])) (A9 E33 Tryz.f196.results.toList))):=by
 kernel_rfl
theorem D37(n:Nat)(x4:Aa)(x7:Aa)(x8:Int)(x9:Int)(K:Ex->S6->Ad):lbC E33 (A1 Eo [1,1,0,1,0,0]) 10003 n (A91 x4 x7 x8 x9) K=
  bif decide (x9<x8)then(match idx x7 x9 with|none=>none|some y1=>(bif !(D5 y1)then(K .ret ⟨[(2,.one (.str [])),(3,.one (.bool false))],[]⟩)else(bif A2 (Ax x4+4) 1&&D5 y1 then(K .normal (A91 (K6 x4 (u8F y1)) x7 x8 (Aw .i64 (x9+1))))else none)))else(K (.exit 0) ⟨[(4,.one (.sl .u8 x4 (some 104))),(7,.one (.sl .i32 x7 none)),(8,.one (.int .i64 x8)),(9,.one (.int .i64 x9)),(10,.one (.bool (decide (x9<x8))))],[104]⟩):=by
 kernel_rfl
theorem D0c(n:Nat)(x4:Aa)(x7:Aa)(x8:Int)(x9:Int)(aC:Bool):(A5 0 (C1 (B1 E33 n (A1 Eo [1,1,1])) (A9 E33 Tryz.f196.results.toList))) (.exit 0) ⟨[(4,.one (.sl .u8 x4 (some 104))),(7,.one (.sl .i32 x7 none)),(8,.one (.int .i64 x8)),(9,.one (.int .i64 x9)),(10,.one (.bool aC))],[104]⟩=
  some (.tup [.str (Cj (λ(n:Int)=>Dq n.toNat) x4),.bool true]):=by
 kernel_rfl
def T35:T6:=λf ls=>match f with
 |172=>S50 ls
 |_=>none
def E35:Env Ty6 A4:=mk6 T35 noC (lkE [(0,[2,3]),(3,[7,8,9]),(4,[11,12]),(5,[10,13,14,15,16,17]),(6,[18,19]),(7,[0,4,5,6,20]),(8,[6,20,21,22,23]),(9,[0,4,5,10,24,25])]) 26
def B1o(x0:Aa)(x4:Aa)(x5:Int):S6:=⟨[(0,.one (.sl .i32 x0 none)),(4,.one (.sl .u8 x4 (some 104))),(5,.one (.int .i64 x5))],[104]⟩
theorem B2O(n:Nat)(a0:Aa):A3 E35 n Ez [.sl .i32 a0 none]=
  D1 (lbC E35 (A1 Ez [1,1,0,1,0,0]) 10003 n) n (B1o a0 [] 0) (A5 0 (C1 (B1 E35 n (A1 Ez [1,1,1])) (A9 E35 Tryz.f125.results.toList))):=by
 kernel_rfl
theorem D8J(n:Nat)(x0:Aa)(x4:Aa)(x5:Int)(K:Ex->S6->Ad):lbC E35 (A1 Ez [1,1,0,1,0,0]) 10003 n (B1o x0 x4 x5) K=
  bif decide (x5<(Ax x0:Int))then(match idx x0 x5 with|none=>none|some y1=>(bif(Ax (O2 y1):Int)==0 then(K .ret ⟨[(2,.one (.str [])),(3,.one (.bool false))],[]⟩)else(bif A2 (Ax x4+Ax (O2 y1)) 1 then(K .normal (B1o x0 (x4++(O2 y1)) (Aw .i64 (x5+1))))else none)))else(K (.exit 0) ⟨[(0,.one (.sl .i32 x0 none)),(4,.one (.sl .u8 x4 (some 104))),(5,.one (.int .i64 x5)),(10,.one (.bool (decide (x5<(Ax x0:Int)))))],[104]⟩):=by
 kernel_rfl
theorem C8X(n:Nat)(x0:Aa)(x4:Aa)(x5:Int)(aC:Bool):(A5 0 (C1 (B1 E35 n (A1 Ez [1,1,1])) (A9 E35 Tryz.f125.results.toList))) (.exit 0) ⟨[(0,.one (.sl .i32 x0 none)),(4,.one (.sl .u8 x4 (some 104))),(5,.one (.int .i64 x5)),(10,.one (.bool aC))],[104]⟩=
  some (.tup [.str (Cj (λ(n:Int)=>Dq n.toNat) x4),.bool true]):=by
 kernel_rfl
def T21:T6:=λf ls=>match f with
 |125=>S35 ls
 |235=>S34 ls
 |_=>none
def E21:Env Ty6 A4:=mk6 T21 noC (lkE [(0,[2,3]),(3,[10,11,12]),(4,[13,14,15,16,17,18,19]),(5,[20]),(6,[0,4,5,6,7,21]),(7,[6,21,22,23,24,25]),(8,[7,26,27,28]),(9,[0,4,5,9,13,29,30,31,32,33]),(10,[8,34])]) 35
def B11(x0:Aa)(x4:Aa)(x5:Int):S6:=⟨[(0,.one (.sl .i32 x0 none)),(4,.one (.sl .i32 x4 (some 104))),(5,.one (.int .i64 x5))],[104]⟩
theorem C8o(n:Nat)(a0:Aa):A3 E21 n Ej [.sl .i32 a0 none]=
  D1 (lbC E21 (A1 Ej [1,1,1,0,0,0]) 10003 n) n (B11 a0 [] 0) (A5 0 (C1 (B1 E21 n (A1 Ej [1,1,1,1])) (A9 E21 Tryz.f214.results.toList))):=by
 kernel_rfl
theorem C5g(n:Nat)(x0:Aa)(x4:Aa)(x5:Int)(K:Ex->S6->Ad):lbC E21 (A1 Ej [1,1,1,0,0,0]) 10003 n (B11 x0 x4 x5) K=
  bif decide (x5<(Ax x0:Int))then(bif D3 x0&&decide (0<=x5)&&decide (x5<(Ax x0:Int))then(bif((J6 (Ba (Ay x5) x0)).2)==0 then(K .ret ⟨[(2,.one (.str [])),(3,.one (.int .i64 60))],[]⟩)else(bif A2 (Ax x4+1) 4 then(K .normal (B11 x0 (x4++[(J6 (Ba (Ay x5) x0)).1]) (Aw .i64 (x5+((J6 (Ba (Ay x5) x0)).2)))))else none))else none)else(K (.exit 0) ⟨[(0,.one (.sl .i32 x0 none)),(4,.one (.sl .i32 x4 (some 104))),(5,.one (.int .i64 x5)),(13,.one (.bool (decide (x5<(Ax x0:Int)))))],[104]⟩):=by
 kernel_rfl
theorem D4P(n:Nat)(x0:Aa)(x4:Aa)(x5:Int)(bv:Bool):(A5 0 (C1 (B1 E21 n (A1 Ej [1,1,1,1])) (A9 E21 Tryz.f214.results.toList))) (.exit 0) ⟨[(0,.one (.sl .i32 x0 none)),(4,.one (.sl .i32 x4 (some 104))),(5,.one (.int .i64 x5)),(13,.one (.bool bv))],[104]⟩=
  bif D3 x4 then(some (.tup [.str ((J4 x4).1),.int .i64 0]))else none:=by
 kernel_rfl
def A5k:Ab:=[48,49,50,51,52,53,54,55,56,57,97,98,99,100,101,102]
def A4R:Ab:=[48,49,50,51,52,53,54,55,56,57,65,66,67,68,69,70]
theorem D8r:∀i:Fin 16,N9 ((A5k[i.1]'i.2).toNat:Int)=i.1/\N9 ((A4R[i.1]'i.2).toNat:Int)=i.1:=by decide
theorem D5H{c:Int}(h:0<=N9 c):∃j:Nat,∃hj:j<16,((A5k[j]'hj).toNat:Int)=c\/((A4R[j]'hj).toNat:Int)=c:=by
 have:(c=48\/c=49\/c=50\/c=51\/c=52\/c=53\/c=54\/c=55\/c=56\/c=57)\/(c=97\/c=98\/c=99\/c=100\/c=101\/c=102)\/(c=65\/c=66\/c=67\/c=68\/c=69\/c=70):=by
  unfold N9 at h;split at h
  ·rename_i h1;have:=C5d.1 h1;left;omega
  ·split at h
   ·rename_i h1;simp at h1;right;left;omega
   ·split at h
    ·rename_i h1;simp at h1;right;right;omega
    ·omega
 rcases this with(h|h|h|h|h|h|h|h|h|h)|(h|h|h|h|h|h)|(h|h|h|h|h|h)
 ·exact⟨0,by omega,.inl (by rw[h];rfl)⟩
 ·exact⟨1,by omega,.inl (by rw[h];rfl)⟩
 ·exact⟨2,by omega,.inl (by rw[h];rfl)⟩
 ·exact⟨3,by omega,.inl (by rw[h];rfl)⟩
 ·exact⟨4,by omega,.inl (by rw[h];rfl)⟩
 ·exact⟨5,by omega,.inl (by rw[h];rfl)⟩
 ·exact⟨6,by omega,.inl (by rw[h];rfl)⟩
 ·exact⟨7,by omega,.inl (by rw[h];rfl)⟩
 ·exact⟨8,by omega,.inl (by rw[h];rfl)⟩
 ·exact⟨9,by omega,.inl (by rw[h];rfl)⟩
 ·exact⟨10,by omega,.inl (by rw[h];rfl)⟩
 ·exact⟨11,by omega,.inl (by rw[h];rfl)⟩
 ·exact⟨12,by omega,.inl (by rw[h];rfl)⟩
 ·exact⟨13,by omega,.inl (by rw[h];rfl)⟩
 ·exact⟨14,by omega,.inl (by rw[h];rfl)⟩
 ·exact⟨15,by omega,.inl (by rw[h];rfl)⟩
 ·exact⟨10,by omega,.inr (by rw[h];rfl)⟩
 ·exact⟨11,by omega,.inr (by rw[h];rfl)⟩
 ·exact⟨12,by omega,.inr (by rw[h];rfl)⟩
 ·exact⟨13,by omega,.inr (by rw[h];rfl)⟩
 ·exact⟨14,by omega,.inr (by rw[h];rfl)⟩
 ·exact⟨15,by omega,.inr (by rw[h];rfl)⟩
theorem D3w(c:Int)(n:Nat)(hn:16<n):A3 E60 n Eb [.int .i32 c]=some (.one (.int .i64 (N9 c))):=by
 rw[D74];refine(H9 (λi:Nat=>B0a c A5k A4R i) (λi=>i<=16/\∀j:Nat,∀hj:j<16,j<i->((A5k[j]'hj).toNat:Int)≠c/\((A4R[j]'hj).toNat:Int)≠c) (λi=>16 - i) (λi=>(some (.one (.int .i64 (N9 c))):Ad)) ?_ n 0 ⟨Bh _,λj _ h=>absurd h (Hc _)⟩ (by omega));intro i ⟨hi,hb⟩ K a8 bH aU;rw[D26];by_cases h:i<16
 ·rw[Ar (by omega:(i:Int)<16),Ap,D9 (l:=A5k) h];dsimp only;rw[D9 (l:=A4R) h];dsimp only;have h1:=A3B (A5k[i]'h);have h2:=A3B (A4R[i]'h);have ht:=D8r ⟨i,h⟩;rw[w32 (by omega) (by omega),w32 (by omega) (by omega)];cases hc:((A5k[i]'h).toNat:Int)==c with
  |true=>
   simp only[beq_iff_eq]at hc;show(bif true==false then _ else _)=_;refine(bH _).trans ?_;rw[<-hc,ht.1];rfl
  |false=>
   show(bif false==false then _ else _)=_;rw[show(false==false)=true from rfl,Ap];cases hd:((A4R[i]'h).toNat:Int)==c with
   |true=>
    simp only[beq_iff_eq]at hd;rw[Ap];refine(bH _).trans ?_;rw[<-hd,ht.2];rfl
   |false=>
    rw[Aq,I9 (by omega)];refine aU (i+1) ⟨by omega,λj hj dP=>?_⟩ (by omega);by_cases kg:j<i
    ·exact hb j hj kg
    ·have:j=i:=by omega
     subst this;exact⟨λe=>by simp[e]at hc,λe=>by simp[e]at hd⟩
 ·have hx:¬0<=N9 c:=λhx=>by
   obtain⟨j,hj,hf⟩:=D5H hx;have:=hb j hj (by omega);rcases hf with hf|hf
   ·exact this.1 hf
   ·exact this.2 hf
  have hr:=B4d c;have he:N9 c= -1:=by omega
  rw[As (by omega:¬(i:Int)<16),Aq,a8,D5Z,he]
theorem C3G(m c:Int)(r:Aa):A2o m (c::r)=if N9 c<0 then -1 else A2o (m*16+N9 c) r:=rfl
theorem D1i(m:Aa):∀(a:Int)(k:Nat),0<=a->a<16^k-> -1<=A2o a m/\A2o a m<16^(k+m.length):=by
 induction m with
 |nil=>intro a k h1 h2;simp[A2o];omega
 |cons c r ih=>
  intro a k h1 h2;rw[C3G];have hr:=B4d c;have hp:(0:Int)<16^(k+(c::r).length):=Jx (by omega);split
  ·omega
  ·have:=ih (a*16+N9 c) (k+1) (by omega) (by rw[Hj];omega);rw[Be,show k+(r.length+1)=k+1+r.length by omega];exact this
theorem C6K(l:Aa): -1<=E9 l/\E9 l<=65535:=by
 unfold E9;split
 ·omega
 ·rename_i h;have:=D1i (l.take 4) 0 0 (by omega) (by simp);have hl:(l.take 4).length=4:=by rw[Ck];omega
  rw[hl]at this;simp at this;omega
theorem C3O{l:Aa}(h:l.length<4):E9 l= -1:=by unfold E9;rw[Au h]
theorem S2{l:Aa}{i:Nat}(h:i<l.length):l.drop i=l[i]::l.drop (i+1):=Bz h
theorem C4j(l:Aa)(h1:¬E9 l<0)(h2:55296<=E9 l)(h3:E9 l<=56319):W0 l=if 10<=l.length/\l[4]?=some 92/\l[5]?=some 117/\(M2 (E9 l) (E9 (l.drop 6))).2=true then((M2 (E9 l) (E9 (l.drop 6))).1,12)else(0,0):=by
 unfold W0;dsimp only;rw[At (by omega),At (by omega)]
theorem B3b(l:Aa)(h:E9 l<0\/(56320<=E9 l/\E9 l<=57343)):W0 l=(0,0):=by
 unfold W0;dsimp only;rw[Au h]
theorem B6a(l:Aa)(h1:¬E9 l<0)(h:E9 l<55296\/57343<E9 l):W0 l=(E9 l,6):=by
 unfold W0;dsimp only;rw[At (by omega),Au h]
theorem D4j{l:Aa}(h:D3 l=true)(k:Nat):D3 (l.drop k)=true:=by
 have:=T9.1 h;exact T9.2 (by rw[Bb];omega)
theorem U7{a b:Int}(h:a≠b):(a !=b)=true:=bne_iff_ne.2 h
theorem A0i{a b:Int}(h:a=b):(a !=b)=false:=by rw[h];exact bne_self_eq_false _
theorem beqT{a b:Int}(h:a=b):(a==b)=true:=beq_iff_eq.2 h
theorem beqF{a b:Int}(h:a≠b):(a==b)=false:=beq_false_of_ne h
theorem C1G(c:Int)(l:Aa)(h:2<=l.length):A1A l=if 0<=O7 l[1]then(O7 l[1],2)else if l[1]=117 then W0 (l.drop 2)else(0,0):=by
 match l,h with
 |_::_::_,_=>rfl
theorem B5g{l:Aa}(h:l.length<2):A1A l=(0,0):=by
 match l,h with
 |[],_=>rfl
 |[_],_=>rfl
theorem C9Z(c:Int)(n:Nat):A3 E46 n Tryz.f241 [.int .i32 c]=some (.one (.bool (A0a c))):=by
 rw[D3G];unfold A0a;cases h0:L8 c with
 |false=>rfl
 |true=>
  by_cases c1:c=34
  ·rw[A0i c1,beqT c1];rfl
  by_cases c2:c=92
  ·rw[U7 c1,beqF c1,A0i c2,beqT c2];rfl
  by_cases c3:c=10
  ·rw[U7 c1,beqF c1,U7 c2,beqF c2,A0i c3,beqT c3];rfl
  ·rw[U7 c1,beqF c1,U7 c2,beqF c2,U7 c3,beqF c3];rfl
def namesT:Ab:=[34,92,47,98,102,110,114,116]
def B0e:Ab:=[34,92,47,8,12,10,13,9]
theorem C7z:∀i:Fin 8,O7 ((namesT[i.1]'i.2).toNat:Int)=((B0e[i.1]'i.2).toNat:Int):=by decide
theorem C6v{c:Int}(h:∀j:Nat,∀hj:j<8,((namesT[j]'hj).toNat:Int)≠c):O7 c= -1:=by
 have h0:(34:Int)≠c:=h 0 (by omega);have h1:(92:Int)≠c:=h 1 (by omega);have h2:(47:Int)≠c:=h 2 (by omega);have h3:(98:Int)≠c:=h 3 (by omega);have h4:(102:Int)≠c:=h 4 (by omega);have h5:(110:Int)≠c:=h 5 (by omega);have h6:(114:Int)≠c:=h 6 (by omega);have h7:(116:Int)≠c:=h 7 (by omega);unfold O7;rw[At (by omega),At (by omega),At (by omega),At (by omega),At (by omega),At (by omega)]
theorem D77(c:Int)(n:Nat)(hn:8<n):A3 E47 n Ed [.int .i32 c]=some (.one (.int .i32 (O7 c))):=by
 rw[C9b];refine(H9 (λi:Nat=>A9k c namesT B0e i) (λi=>i<=8/\∀j:Nat,∀hj:j<8,j<i->((namesT[j]'hj).toNat:Int)≠c) (λi=>8 - i) (λi=>(some (.one (.int .i32 (O7 c))):Ad)) ?_ n 0 ⟨Bh _,λj _ h=>absurd h (Hc _)⟩ (by omega));intro i ⟨hi,hb⟩ K a8 bH aU;rw[D3M];have aj:namesT.length=8:=rfl;by_cases h:i<8
 ·rw[Ar (by omega:(i:Int)<(namesT.length:Int)),Ap,D9 (l:=namesT) h];dsimp only;rw[D9 (l:=B0e) h];dsimp only;have h1:=A3B (namesT[i]'h);have h2:=A3B (B0e[i]'h);have ht:=C7z ⟨i,h⟩;rw[w32 (by omega) (by omega),w32 (by omega) (by omega)];cases hc:((namesT[i]'h).toNat:Int)==c with
  |true=>
   simp only[beq_iff_eq]at hc;rw[Ap];refine(bH _).trans ?_;rw[<-hc,ht];rfl
  |false=>
   rw[Aq,I9 (by omega)];refine aU (i+1) ⟨by omega,λj hj dP=>?_⟩ (by omega);by_cases kg:j<i
   ·exact hb j hj kg
   ·have:j=i:=by omega
    subst this;exact λe=>by simp[e]at hc
 ·rw[As (by omega:¬(i:Int)<(namesT.length:Int)),Aq,a8,D6O,C6v (λj hj=>hb j hj (by omega))]
theorem t2B:∀x:Fin 32,bits .or .u8 192 (x.1:Int)=192+x.1:=by decide+kernel
theorem t3B:∀x:Fin 16,bits .or .u8 224 (x.1:Int)=224+x.1:=by decide+kernel
theorem t4B:∀x:Fin 8,bits .or .u8 240 (x.1:Int)=240+x.1:=by decide+kernel
theorem txB:∀x:Fin 256,bits .or .u8 128 (bits .and .u8 (x.1:Int) 63)=128+(x.1:Int) % 64:=by decide+kernel
theorem t2I{x:Int}(h:0<=x)(h2:x<32):bits .or .u8 192 (Aw .u8 x)=192+x:=by
 rw[w8 h (by omega)];have:=t2B ⟨x.toNat,by omega⟩;dsimp only at this;rw[show((x.toNat:Nat):Int)=x by omega]at this;exact this
theorem t3I{x:Int}(h:0<=x)(h2:x<16):bits .or .u8 224 (Aw .u8 x)=224+x:=by
 rw[w8 h (by omega)];have:=t3B ⟨x.toNat,by omega⟩;dsimp only at this;rw[show((x.toNat:Nat):Int)=x by omega]at this;exact this
theorem t4I{x:Int}(h:0<=x)(h2:x<8):bits .or .u8 240 (Aw .u8 x)=240+x:=by
 rw[w8 h (by omega)];have:=t4B ⟨x.toNat,by omega⟩;dsimp only at this;rw[show((x.toNat:Nat):Int)=x by omega]at this;exact this
theorem txI{x:Int}:bits .or .u8 128 (bits .and .u8 (Aw .u8 x) 63)=128+x % 64:=by
 rw[IntKind.wrap_u8];have:=txB ⟨(x % 256).toNat,by omega⟩;dsimp only at this;rw[show(((x % 256).toNat:Nat):Int)=x % 256 by omega]at this;rw[this];omega
theorem V2{c:Int}:D5 c=true↔(0<=c/\c<55296)\/(57343<c/\c<=1114111):=by simp[D5]
theorem A8Z(c:Int):1<=(u8F c).length/\(u8F c).length<=4:=by
 unfold u8F;split
 ·simp
 ·split
  ·simp
  ·split<;>simp
theorem A4q{n m b:Nat}(h:A2 m b=true)(hn:n<=m):A2 n b=true:=by
 have:=G9.1 h;exact G9.2 (Nat.le_trans (Jc b hn) this)
theorem C5B(l:Aa)(c:Int)(hr:A2 (l.length+4) 1=true)(hv:D5 c=true)(hc:128<=c)(n:Nat):
  A3 E59 n Tryz.f238 [.sl .u8 l (some 0),.int .i32 c]=some (.one (.sl .u8 (K6 l (u8F c)) (some 0))):=by
 have h:=V2.1 hv;rw[D1K,C4g (by omega) (by omega),A4q hr (by omega:l.length+2<=l.length+4),A4q hr (by omega:l.length+3<=l.length+4),hr];have e6:c / 2^(Ay 6)=c / 64:=rfl;have tG:c / 2^(Ay 12)=c / 4096:=rfl;have xP:c / 2^(Ay 18)=c / 262144:=rfl;rw[e6,tG,xP,txI,txI,txI];unfold u8F K6;rw[At (by omega)];by_cases h1:c<2048
 ·rw[Ar (by omega:c<=2047),Au h1,t2I (by omega) (by omega)];rfl
 rw[As (by omega:¬c<=2047),At h1];by_cases h2:c<65536
 ·rw[Au h2,t3I (by omega) (by omega),As (by omega:¬c>65535),Ar (by omega:c<=65535)];by_cases h3:c<55296
  ·rw[Ar h3];rfl
  ·rw[As h3,Ar (by omega:57343<c)];rfl
 ·rw[At h2,t4I (by omega) (by omega),As (by omega:¬c<55296),Ar (by omega:57343<c),As (by omega:¬c<=65535),Ar (by omega:c>65535),Ar (by omega:c<=1114111)];rfl
theorem D0R(l:Aa)(c:Int)(hr:A2 (l.length+4) 1=true)(hv:D5 c=true)(n:Nat):
  A3 E45 n Tryz.f221 [.sl .u8 l (some 0),.int .i32 c]=some (.one (.sl .u8 (K6 l (u8F c)) (some 0))):=by
 have h:=V2.1 hv;rw[B4m,C4g (by omega) (by omega),A4q hr (by omega:l.length+1<=l.length+4),hr,hv];by_cases h1:c<128
 ·rw[Ar (by omega:c<=127),w8 (by omega) (by omega)];unfold u8F K6;rw[Au h1];rfl
 ·rw[As (by omega:¬c<=127),Ar (by omega:128<=c)];rfl
theorem D8n(c:Int)(n:Nat):A3 E50 n Tryz.f172 [.int .i32 c]=some (.one (.sl .u8 (O2 c) (some 1))):=by
 rw[D7F];unfold O2;cases hv:D5 c with
 |false=>rfl
 |true=>
  have h:=V2.1 hv;have d1:Cl c 64=c / 64:=Gg (by omega);have d2:Cl c 4096=c / 4096:=Gg (by omega);have d3:Cl c 262144=c / 262144:=Gg (by omega);rw[d1,d2,d3,w32 (n:=c / 64) (by omega) (by omega),w32 (n:=c / 4096) (by omega) (by omega),w32 (n:=c / 262144) (by omega) (by omega)];have m1:Cb c 64=c % 64:=Ff (by omega);have m2:Cb (c / 64) 64=c / 64 % 64:=Ff (by omega);have m3:Cb (c / 4096) 64=c / 4096 % 64:=Ff (by omega);rw[m1,m2,m3,w32 (n:=128+c % 64) (by omega) (by omega),w32 (n:=128+c / 64 % 64) (by omega) (by omega),w32 (n:=128+c / 4096 % 64) (by omega) (by omega),w32 (n:=192+c / 64) (by omega) (by omega),w32 (n:=224+c / 4096) (by omega) (by omega),w32 (n:=240+c / 262144) (by omega) (by omega),
   w8 (n:=128+c % 64) (by omega) (by omega),w8 (n:=128+c / 64 % 64) (by omega) (by omega),w8 (n:=128+c / 4096 % 64) (by omega) (by omega)]
  unfold u8F;show(bif false then _ else _)=_;rw[Aq,Au rfl];by_cases h1:c<128
  ·rw[Ar h1,Au h1,w8 (by omega) (by omega)];rfl
  rw[As h1,At h1];by_cases h2:c<2048
  ·rw[Ar h2,Au h2,w8 (n:=192+c / 64) (by omega) (by omega)];rfl
  rw[As h2,At h2];by_cases h3:c<65536
  ·rw[Ar h3,Au h3,w8 (n:=224+c / 4096) (by omega) (by omega)];rfl
  ·rw[As h3,At h3,w8 (n:=240+c / 262144) (by omega) (by omega)];rfl
theorem flat_u8F_len(l:Aa):(l.flatMap u8F).length<=4*l.length:=by
 induction l with
 |nil=>simp
 |cons c l ih=>have:=A8Z c;simp only[Ca,Bo,Be];omega
theorem C1d(l:Aa)(i:Nat)(h:i<=l.length)(hp:(l.take i).all D5=true):(if(l.drop i).all D5 then(B2 l,true)else(([]:Ab),false))=J4 l:=by
 unfold J4;have:l.all D5=((l.take i).all D5&&(l.drop i).all D5):=by rw[<-Cf,Fz]
 rw[this,hp,Hl]
theorem B7p{l:Aa}{i:Nat}(h:i<l.length):(l.take (i+1)).flatMap u8F=(l.take i).flatMap u8F++u8F l[i]:=by
 rw[Cc h,Fo];simp
theorem B7T(l:Aa)(i:Nat):((l.take i).flatMap u8F).length<=4*i:=by
 have:=flat_u8F_len (l.take i);have h2:(l.take i).length<=i:=Fk _ _;omega
theorem D1r(l:Aa)(hl:D3 l=true)(n:Nat)(hn:l.length<n):A3 E33 n Eo [.sl .i32 l none]=some (.tup [.str (J4 l).1,.bool (J4 l).2]):=by
 have aj:=T9.1 hl;rw[C83];refine(H9 (λi:Nat=>A91 ((l.take i).flatMap u8F) l (l.length:Int) i) (λi=>i<=l.length/\(l.take i).all D5=true) (λi=>l.length - i) (λi=>(some (.tup [.str (J4 l).1,.bool (J4 l).2]):Ad)) ?_ n 0 ⟨Bh _,rfl⟩ (by omega));intro i ⟨hi,hp⟩ K a8 bH aU;have cS:=B7T l i;have kj:=C1d l i hi hp;rw[D37];by_cases h:i<l.length
 ·rw[Ar (by omega:(i:Int)<(l.length:Int)),Ap,D9 h];dsimp only;rw[Bz h,By]at kj;cases hv:D5 l[i]with
  |false=>
   rw[hv]at kj;show(bif true then _ else _)=_;rw[Ap, <-kj];exact(bH _).trans rfl
  |true=>
   show(bif false then _ else(bif _&&true then _ else _))=_;rw[Aq,G9.2 (by omega),Jz,Ap,I9 (by omega)];unfold K6;rw[<-B7p h];exact aU (i+1) ⟨by omega,by rw[Cc h,Cf,hp];simp[hv]⟩ (by omega)
 ·rw[Bi (by omega)]at kj;rw[As (by omega:¬(i:Int)<(l.length:Int)),Aq,a8,D0c, <-kj,Bq (by omega)];rfl
theorem D4E(l:Aa)(hl:D3 l=true)(n:Nat)(hn:l.length<n):A3 E35 n Ez [.sl .i32 l none]=some (.tup [.str (J4 l).1,.bool (J4 l).2]):=by
 have aj:=T9.1 hl;rw[B2O];refine(H9 (λi:Nat=>B1o l ((l.take i).flatMap u8F) i) (λi=>i<=l.length/\(l.take i).all D5=true) (λi=>l.length - i) (λi=>(some (.tup [.str (J4 l).1,.bool (J4 l).2]):Ad)) ?_ n 0 ⟨Bh _,rfl⟩ (by omega));intro i ⟨hi,hp⟩ K a8 bH aU;have cS:=B7T l i;have kj:=C1d l i hi hp;rw[D8J];by_cases h:i<l.length
 ·rw[Ar (by omega:(i:Int)<(l.length:Int)),Ap,D9 h];dsimp only;rw[Bz h,By]at kj;unfold O2;cases hv:D5 l[i]with
  |false=>
   rw[hv]at kj;rw[<-kj];exact(bH _).trans rfl
  |true=>
   have hu:=A8Z l[i];rw[Au rfl,beqF (by omega),Aq,G9.2 (by omega),Ap,I9 (by omega)];rw[<-B7p h];exact aU (i+1) ⟨by omega,by rw[Cc h,Cf,hp];simp[hv]⟩ (by omega)
 ·rw[Bi (by omega)]at kj;rw[As (by omega:¬(i:Int)<(l.length:Int)),Aq,a8,C8X, <-kj,Bq (by omega)];rfl
theorem A04{i k:Nat}(h:i+k<=9223372036854775807):Aw .i64 ((i:Int)+(k:Int))=((i+k:Nat):Int):=by
 rw[P3 (by omega) (by omega)];omega
theorem A73(l:Aa)(i:Nat):J8 (l.drop i)=if l[i]?=some 92/\l[i+1]?=some 117 then E9 (l.drop (i+2))else -1:=by
 unfold J8;rw[Fm,Fm,Dm,Jf]
theorem D0Q{l:Aa}(h:l.length<6):J8 l= -1:=by
 unfold J8;split
 ·exact C3O (by rw[Bb];omega)
 ·rfl
theorem C5O(l:Aa)(hl:D3 l=true)(i:Nat)(hi:i<=l.length+12)(n:Nat)(hn:4<n):A3 E48 n Ec [.sl .i32 l none,.int .i64 i]=some (.one (.int .i32 (J8 (l.drop i)))):=by
 have aj:=A5q hl;rw[D7G,show(6:Int)=((6:Nat):Int)from rfl,A04 (by omega),show(1:Int)=((1:Nat):Int)from rfl,A04 (by omega),show(2:Int)=((2:Nat):Int)from rfl,A04 (by omega)];by_cases h:l.length<i+6
 ·rw[Ar (by omega:((i+6:Nat):Int)>(l.length:Int)),D0Q (by rw[Bb];omega)];rfl
 rw[As (by omega:¬((i+6:Nat):Int)>(l.length:Int)),D9 (by omega),A73,Cd (by omega:i<l.length),Cd (by omega:i+1<l.length)];dsimp only;rw[D9 (by omega)];dsimp only;by_cases c1:l[i]=92
 ·rw[A0i c1];by_cases c2:l[i+1]=117
  ·rw[A0i c2,Au ⟨by rw[c1],by rw[c2]⟩];show D1 _ n _ _=_;have hh:E9 (l.drop (i+2))=A2o 0 ((l.drop (i+2)).take 4):=by unfold E9;rw[At (by rw[Bb];omega)]
   rw[hh];obtain⟨m,hm⟩:∃m,(l.drop (i+2)).take 4=m:=⟨_,rfl⟩;have xd:m.length=4:=by rw[<-hm,Ck,Bb];omega
   have aL:∀(j:Nat)(hj:j<4),l[i+2+j]'(by omega)=m[j]'(by omega):=λj hj=>by subst hm;simp
   rw[hm];refine(H9 (λp:Int×Nat=>B1k l i p.1 ((i+2+p.2:Nat):Int)) (λp=>p.2<=4/\0<=p.1/\p.1<16^p.2) (λp=>4 - p.2) (λp=>(some (.one (.int .i32 (A2o p.1 (m.drop p.2)))):Ad)) ?_ n (0,0) (by simp) (by simp only;omega)).trans rfl;rintro⟨a,j⟩ ⟨hj,ha,sS⟩ K a8 bH aU;dsimp only at hj ha sS aU ⊢;rw[D1L,show(6:Int)=((6:Nat):Int)from rfl,A04 (by omega)];by_cases ap:j<4
   ·rw[Ar (by omega:((i+2+j:Nat):Int)<((i+6:Nat):Int)),Ap,D9 (by omega)];dsimp only;rw[aL j ap,Bz (by omega),C3G];have hr:=B4d m[j];have hp:(16:Int)^j<=16^3:=by
     have:j=0\/j=1\/j=2\/j=3:=by omega
     rcases this with rfl|rfl|rfl|rfl<;>decide
    by_cases hx:N9 m[j]<0
    ·rw[Ar hx,Ap,Au hx];exact(bH _).trans rfl
    ·rw[As hx,Aq,At hx,w32 (n:=a*16) (by omega) (by omega),w32 (n:=N9 m[j]) (by omega) (by omega),w32 (by omega) (by omega),I9 (by omega)];refine aU (a*16+N9 m[j],j+1) ⟨by simp;omega,by simp;omega,?_⟩ (by simp;omega);show a*16+N9 m[j]<16^(j+1);rw[Hj];omega
   ·rw[As (by omega:¬((i+2+j:Nat):Int)<((i+6:Nat):Int)),Aq,a8,D46,Bi (by omega)];rfl
  ·rw[U7 c2,At (λh=>c2 (Fb h.2))];rfl
 ·rw[U7 c1,At (λh=>c1 (Fb h.1))];rfl
theorem D3d(c:Int):(0<=O7 c)↔c=34\/c=92\/c=47\/c=98\/c=102\/c=110\/c=114\/c=116:=by
 unfold O7;constructor
 ·intro h;by_cases h1:c=34\/c=92\/c=47
  ·omega
  ·rw[At h1]at h;split at h
   ·omega
   ·split at h
    ·omega
    ·split at h
     ·omega
     ·split at h
      ·omega
      ·split at h<;>omega
 ·intro h;rcases h with rfl|rfl|rfl|rfl|rfl|rfl|rfl|rfl<;>decide
theorem D4x(l:Aa)(i:Nat)(h:i<l.length):J6 (l.drop i)=if A0a l[i]then(l[i],1)else if l[i]=92 then A1A (l.drop i)else(0,0):=by
 rw[S2 h];rfl
theorem D2c{l:Aa}{i:Nat}(h:i+1<l.length):A1A (l.drop i)=if 0<=O7 l[i+1]then(O7 l[i+1],2)else if l[i+1]=117 then W0 (l.drop (i+2))else(0,0):=by
 rw[S2 (i:=i) (by omega),S2 (i:=i+1) (by omega)];rfl
theorem C9C{l:Aa}{i:Nat}(h:i+1<l.length)(h1:l[i]=92)(h2:l[i+1]=117):
  J8 (l.drop i)=E9 (l.drop (i+2)):=by
 rw[A73,Cd (by omega:i<l.length),Cd h,h1,h2,Au ⟨rfl,rfl⟩]
theorem D4z{a b:Int}(h:b<56320):M2 a b=(0,false):=by
 unfold M2;rw[Au (by simp;omega)]
theorem D7B{l:Aa}{i:Nat}(h:i+2<=l.length)(c1:¬E9 (l.drop (i+2))<0)(c2:55296<=E9 (l.drop (i+2)))(c3:E9 (l.drop (i+2))<=56319):
  W0 (l.drop (i+2))=if(M2 (E9 (l.drop (i+2))) (J8 (l.drop (i+6)))).2 then((M2 (E9 (l.drop (i+2))) (J8 (l.drop (i+6)))).1,12)else(0,0):=by
 have hg:∀k,(l.drop (i+2))[k]?=l[i+2+k]? :=λk=>Fm;rw[C4j _ c1 c2 c3,hg 4,hg 5,Dm,Bb];have e4:i+2+4=i+6:=by omega
 have e5:i+2+5=i+6+1:=by omega
 have e6:i+2+6=i+6+2:=by omega
 rw[e4,e5,e6];have hj:∀b,b<56320->¬(M2 (E9 (l.drop (i+2))) b).2=true:=λb hb=>by rw[D4z hb];simp
 by_cases d:l[i+6]?=some 92/\l[i+6+1]?=some 117
 ·have hu:J8 (l.drop (i+6))=E9 (l.drop (i+6+2)):=by rw[A73,Au d]
  rw[hu];by_cases d3:10<=l.length - (i+2)
  ·by_cases d4:(M2 (E9 (l.drop (i+2))) (E9 (l.drop (i+6+2)))).2=true
   ·rw[Au ⟨d3,d.1,d.2,d4⟩,Au d4]
   ·rw[At (λh=>d4 h.2.2.2),At d4]
  ·rw[At (λh=>d3 h.1),At (hj _ (by rw[C3O (l:=l.drop (i+6+2)) (by rw[Bb];omega)];omega))]
 ·have hu:J8 (l.drop (i+6))= -1:=by rw[A73,At d]
  rw[hu,At (λh=>d ⟨h.2.1,h.2.2.1⟩),At (hj _ (by omega))]
theorem C7Y(l:Aa)(hl:D3 l=true)(i:Nat)(hi:i<l.length)(n:Nat):A3 E34 n Tryz.f235 [.sl .i32 l none,.int .i64 i]=some (.tup [.int .i32 (J6 (l.drop i)).1,.int .i64 (J6 (l.drop i)).2]):=by
 have aj:=A5q hl;rw[B31,D9 hi,D4x l i hi];dsimp only;cases hp:A0a l[i]with
 |true=>rw[Au rfl];rfl
 |false=>
  rw[Aq,At (by simp)];by_cases c0:l[i]=92
  ·rw[A0i c0,Au c0,show(1:Int)=((1:Nat):Int)from rfl,A04 (by omega)];by_cases h2:l.length<=i+1
   ·rw[Ar (by omega:((i+1:Nat):Int)>=(l.length:Int)),B5g (by rw[Bb];omega)];rfl
   ·rw[As (by omega:¬((i+1:Nat):Int)>=(l.length:Int)),D9 (by omega),D2c (by omega)];dsimp only;by_cases hs:0<=O7 l[i+1]
    ·rw[Ar (show O7 l[i+1]>=0 from hs),Au hs];rfl
    ·have oC:¬(O7 l[i+1]>=0):=hs;rw[As oC,At hs,hl,show(6:Int)=((6:Nat):Int)from rfl,A04 (by omega),
      Ar (by omega:(0:Int)<=(i:Int)),Ar (by omega:(i:Int)<=(l.length:Int)+12),Ar (by omega:(0:Int)<=((i+6:Nat):Int)),Ar (by omega:((i+6:Nat):Int)<=(l.length:Int)+12),Co,Co]
     by_cases lP:l[i+1]=117
     ·rw[Au lP,C9C (by omega) c0 lP];by_cases c1:E9 (l.drop (i+2))<0
      ·rw[Ar c1,B3b _ (.inl c1)];rfl
      rw[As c1];by_cases c2:56320<=E9 (l.drop (i+2))
      ·by_cases c3:E9 (l.drop (i+2))<=57343
       ·rw[Ar (show E9 (l.drop (i+2))>=56320 from c2),Ar c3,B3b _ (.inr ⟨c2,c3⟩)];rfl
       ·rw[Ar (show E9 (l.drop (i+2))>=56320 from c2),As c3,Ar (by omega:E9 (l.drop (i+2))>=55296),As (by omega:¬E9 (l.drop (i+2))<=56319),B6a _ c1 (.inr (by omega))];rfl
      ·rw[As (show¬E9 (l.drop (i+2))>=56320 from c2)];by_cases c3:55296<=E9 (l.drop (i+2))
       ·rw[Ar (show E9 (l.drop (i+2))>=55296 from c3),Ar (by omega:E9 (l.drop (i+2))<=56319),D7B (by omega) c1 c3 (by omega)];cases (M2 (E9 (l.drop (i+2))) (J8 (l.drop (i+6)))).2<;>rfl
       ·rw[As (show¬E9 (l.drop (i+2))>=55296 from c3),B6a _ c1 (.inl (by omega))];rfl
     ·rw[At lP];have hu:J8 (l.drop i)= -1:=by
       rw[A73,Cd (by omega:i+1<l.length),At (λh=>lP (Fb h.2))]
      rw[hu];rfl
  ·rw[U7 c0,At c0];rfl
theorem C8b(l:Aa):0<=(W0 l).2/\(W0 l).2<=12:=by
 unfold W0;dsimp only;split
 ·simp
 ·split
  ·simp
  ·split<;>simp
theorem D7P(l:Aa):0<=(A1A l).2/\(A1A l).2<=12:=by
 by_cases h:l.length<2
 ·rw[B5g h];simp
 ·rw[C1G 0 l (by omega)];split
  ·simp
  ·split
   ·exact C8b _
   ·simp
theorem B15(l:Aa):0<=(J6 l).2/\(J6 l).2<=12:=by
 cases l with
 |nil=>simp[J6]
 |cons c r=>
  show 0<=(if A0a c then(c,1)else if c=92 then A1A (c::r)else((0,0):Int×Int)).2/\(if A0a c then(c,1)else if c=92 then A1A (c::r)else((0,0):Int×Int)).2<=12;by_cases h:A0a c=true
  ·rw[Au h];simp
  ·rw[At h];by_cases h2:c=92
   ·rw[Au h2];exact D7P _
   ·rw[At h2];simp
theorem D2r:∀(n m:Nat)(l:Aa),l.length<=n->l.length<=m->A6Q n l=A6Q m l:=by
 intro n
 induction n with
 |zero=>
  intro m l h1 h2;have:l=[]:=Fc (by omega);subst this;cases m<;>rfl
 |succ n ih=>
  intro m l h1 h2;cases l with
  |nil=>cases m<;>rfl
  |cons c r=>
   cases m with
   |zero=>simp at h2
   |succ m=>
    simp only[A6Q];split
    ·rfl
    ·rename_i hp;have h3:((c::r).drop (J6 (c::r)).2.toNat).length<=r.length:=by
      rw[Bb,Be];omega
     rw[ih m _ (by simp at h1;omega) (by simp at h2;omega)]
theorem B61:A1v []=some []:=rfl
theorem C0H{l:Aa}(h:l≠[]):A1v l=if(J6 l).2=0 then none else(A1v (l.drop (J6 l).2.toNat)).map ((J6 l).1:: ·):=by
 cases l with
 |nil=>exact absurd rfl h
 |cons c r=>
  have hr:=B15 (c::r)
  conv=>lhs;unfold A1v
  simp only[Be,A6Q];by_cases hp:(J6 (c::r)).2=0
  ·rw[Au (by omega),Au hp]
  ·rw[At (by omega),At hp];unfold A1v;rw[D2r r.length _ _ (by rw[Bb,Be];omega) (Bg _)]
def A37(out:Aa)(o:Option Aa):Ad:=some (.tup [.str (A5X (o.map (out++ ·))).1,.int .i64 (A5X (o.map (out++ ·))).2])
theorem D0j(out:Aa):A37 out (some [])=some (.tup [.str (J4 out).1,.int .i64 0]):=by simp[A37,A5X]
theorem D3E(out:Aa):A37 out none=some (.tup [.str [],.int .i64 60]):=rfl
theorem C9L(out:Aa)(c:Int)(o:Option Aa):A37 out (o.map (c:: ·))=A37 (out++[c]) o:=by
 cases o<;>simp[A37]
theorem C9g{l:Aa}(hl:D3 l=true){n:Nat}(hn:l.length<n){body:S6->(Ex->S6->Ad)->Ad}{k:Ex->S6->Ad}{st:Aa->Int->S6}
  (kp:∀(out:Aa)(i:Nat),l.length<=i->D3 out=true->∀K:Ex->S6->Ad,(∀j s,K (.exit j) s=k (.exit j) s)->body (st out i) K=some (.tup [.str (J4 out).1,.int .i64 0]))
  (bm:∀(out:Aa)(i:Nat),i<l.length->A2 (out.length+1) 4=true->∀K:Ex->S6->Ad,(∀s,K .ret s=k .ret s)->
   body (st out i) K=if(J6 (l.drop i)).2=0 then some (.tup [.str [],.int .i64 60])else K .normal (st (out++[(J6 (l.drop i)).1]) ((i+(J6 (l.drop i)).2.toNat:Nat):Int))):
  D1 body n (st [] 0) k=some (.tup [.str (Y0 l).1,.int .i64 (Y0 l).2]):=by
 have aj:=T9.1 hl;refine(H9 (λp:Aa×Nat=>st p.1 p.2) (λp=>p.1.length<=p.2/\p.1.length<=l.length) (λp=>l.length - p.2) (λp=>A37 p.1 (A1v (l.drop p.2))) ?_ n ([],0) (by simp) (by simp only;omega)).trans (by simp[A37,Y0]);rintro⟨out,i⟩ ⟨h1,h2⟩ K a8 bH aU;dsimp only at h1 h2 aU ⊢;by_cases h:i<l.length
 ·rw[bm out i h (G9.2 (by omega)) K bH];have av:l.drop i≠[]:=by rw[S2 h];exact List.cons_ne_nil _ _
  have hr:=B15 (l.drop i);rw[C0H av];by_cases hp:(J6 (l.drop i)).2=0
  ·rw[Au hp,Au hp,D3E]
  ·rw[At hp,At hp,C9L,Dm];exact aU (out++[(J6 (l.drop i)).1],i+(J6 (l.drop i)).2.toNat) ⟨by simp;omega,by simp;omega⟩ (by simp only;omega)
 ·rw[kp out i (by omega) (T9.2 (by omega)) K a8,Bi (by omega),B61,D0j]
theorem D4I(l:Aa)(hl:D3 l=true)(n:Nat)(hn:l.length<n):A3 E21 n Ej [.sl .i32 l none]=some (.tup [.str (Y0 l).1,.int .i64 (Y0 l).2]):=by
 have aj:=T9.1 hl;rw[C8o];refine C9g hl hn (st:=λout i=>B11 l out i) (λout i hi dC K a8=>?_) (λout i hi rz K bH=>?_)
 ·rw[C5g,As (by omega:¬(i:Int)<(l.length:Int)),Aq,a8,D4P,dC];rfl
 ·have hr:=B15 (l.drop i);rw[C5g,Ar (by omega:(i:Int)<(l.length:Int)),hl,Ar (by omega:(0:Int)<=(i:Int)),Co,rz];by_cases hp:(J6 (l.drop i)).2=0
  ·rw[Au hp,beqT hp];exact(bH _).trans rfl
  ·rw[At hp,beqF hp,P3 (by omega) (by omega)];have e:(i:Int)+(J6 (l.drop i)).2=((i+(J6 (l.drop i)).2.toNat:Nat):Int):=by omega
   rw[e];rfl
def E51:Env Ty6 A4:=mk6 noT noC (lkE [(0,[2]),(1,[0,3,4,5,6,7,8,9,10,11,12,13,14,15,16,17,18,19,20,21,22,23])]) 24
theorem D5A(n:Nat)(a0:Aa):A3 E51 n Tryz.f195 [.sl .i32 a0 none]=
  bif(decide ((Ax a0:Int)>=3))==true then(match idx a0 0 with|none=>none|some y1=>(bif(y1==34)==true then(match idx a0 1 with|none=>none|some y2=>(bif(y2==34)==true then(match idx a0 2 with|none=>none|some y3=>(some (.one (.bool (y3==34)))))else(some (.one (.bool false)))))else(some (.one (.bool false)))))else(some (.one (.bool false))):=by
 kernel_rfl
def E52:Env Ty6 A4:=mk6 noT noC (lkE [(0,[4]),(1,[5,6,7]),(2,[10]),(3,[0,1,8,9]),(4,[8,9,12]),(5,[0,1,11,13,14,15,16,17,18,19,20,21,22,23,24,25]),(6,[0,1,11])]) 26
theorem C7k(n:Nat)(a0:Aa)(a1:Int):A3 E52 n Tryz.f218 [.sl .i32 a0 none,.int .i64 a1]=
  match idx a0 a1 with|none=>none|some y1=>(bif y1==10 then(some (.one (.bool true)))else(bif y1==13 then(bif((Aw .i64 (a1+1))==(Ax a0:Int))==false then(match idx a0 (Aw .i64 (a1+1))with|none=>none|some y2=>(some (.one (.bool (y2 !=10)))))else(some (.one (.bool true))))else(some (.one (.bool false))))):=by
 kernel_rfl
def E54:Env Ty6 A4:=mk6 noT noC (lkE [(0,[4]),(1,[0,1,5,6,7,8,9,10,11,12,13,14,15,16,17,18,19,20,21,22,23,24,25,26,27,28,29,30,31,32,33,34,35,36,37,38,39,40])]) 41
theorem B5x(n:Nat)(a0:Aa)(a1:Int):A3 E54 n Tryz.f239 [.sl .i32 a0 none,.int .i64 a1]=
  bif(decide ((Aw .i64 (a1+3))<(Ax a0:Int)))==true then(match idx a0 a1 with|none=>none|some y1=>(bif(y1==92)==true then(match idx a0 (Aw .i64 (a1+1))with|none=>none|some y2=>(bif(y2==34)==true then(match idx a0 (Aw .i64 (a1+2))with|none=>none|some y3=>(bif(y3==34)==true then(match idx a0 (Aw .i64 (a1+3))with|none=>none|some y4=>(some (.one (.bool (y4==34)))))else(some (.one (.bool false)))))else(some (.one (.bool false)))))else(some (.one (.bool false)))))else(some (.one (.bool false))):=by
 kernel_rfl
def T37:T6:=λf ls=>match f with
 |218=>S52 ls
 |_=>none
def E37:Env Ty6 A4:=mk6 T37 noC (lkE [(0,[2]),(5,[10,11,12,13]),(6,[6,14,15,16,17,26]),(7,[5,19,20,21]),(8,[4,6,18,22,23,24,25]),(10,[18,27,28]),(11,[6,26,29]),(12,[0,3,4,7,8,9,10,30,31,32,33])]) 34
def A6K(x0:Aa)(x3:Am)(x4:Aa)(x7:Aa)(x8:Int)(x9:Int):S6:=⟨[(0,.one (.sl .i32 x0 none)),(3,.one (.sl .rs x3 (some 103))),(4,.one (.sl .i32 x4 (some 104))),(7,.one (.sl .i32 x7 none)),(8,.one (.int .i64 x8)),(9,.one (.int .i64 x9))],[103,104]⟩
theorem B2N(n:Nat)(a0:Aa):A3 E37 n Er [.sl .i32 a0 none]=
  D1 (lbC E37 (A1 Er [1,1,1,0,1,0,0]) 10004 n) n (A6K a0 [] [] a0 (Ax a0:Int) 0) (A5 0 (C1 (B1 E37 n (A1 Er [1,1,1,1])) (A9 E37 Tryz.f192.results.toList))):=by
 kernel_rfl
theorem C5D(n:Nat)(x0:Aa)(x3:Am)(x4:Aa)(x7:Aa)(x8:Int)(x9:Int)(K:Ex->S6->Ad):lbC E37 (A1 Er [1,1,1,0,1,0,0]) 10004 n (A6K x0 x3 x4 x7 x8 x9) K=
  bif decide (x9<x8)then(match idx x7 x9 with|none=>none|some y1=>(bif D3 x0&&decide (0<=x9)&&decide (x9<(Ax x0:Int))then(bif N3 (Ba (Ay x9) x0)then(bif A2 (Ax x3+1) 24 then(K .normal (A6K x0 (x3++[x4]) [] x7 x8 (Aw .i64 (x9+1))))else none)else(bif y1==13 then(K .normal (A6K x0 x3 x4 x7 x8 (Aw .i64 (x9+1))))else(bif A2 (Ax x4+1) 4 then(K .normal (A6K x0 x3 (x4++[y1]) x7 x8 (Aw .i64 (x9+1))))else none)))else none))else(K (.exit 0) ⟨[(0,.one (.sl .i32 x0 none)),(3,.one (.sl .rs x3 (some 103))),(4,.one (.sl .i32 x4 (some 104))),(7,.one (.sl .i32 x7 none)),(8,.one (.int .i64 x8)),(9,.one (.int .i64 x9)),(10,.one (.bool (decide (x9<x8))))],[103,104]⟩):=by
 kernel_rfl
theorem D3z(n:Nat)(x0:Aa)(x3:Am)(x4:Aa)(x7:Aa)(x8:Int)(x9:Int)(aC:Bool):(A5 0 (C1 (B1 E37 n (A1 Er [1,1,1,1])) (A9 E37 Tryz.f192.results.toList))) (.exit 0) ⟨[(0,.one (.sl .i32 x0 none)),(3,.one (.sl .rs x3 (some 103))),(4,.one (.sl .i32 x4 (some 104))),(7,.one (.sl .i32 x7 none)),(8,.one (.int .i64 x8)),(9,.one (.int .i64 x9)),(10,.one (.bool aC))],[103,104]⟩=
  bif A2 (Ax x3+1) 24 then(some (.one (.sl .rs (x3++[x4]) (some 1))))else none:=by
 kernel_rfl
def T38:T6:=λf ls=>match f with
 |121=>S53 ls
 |239=>S54 ls
 |_=>none
def E38:Env Ty6 A4:=mk6 T38 noC (lkE [(0,[2]),(4,[8,9,10]),(5,[4,11,12,13,14,15,16]),(6,[6,17]),(7,[0,3,5,18]),(8,[18,19,20,21]),(9,[7]),(10,[22]),(12,[23,24]),(13,[22,25,26,27,28]),(14,[29]),(15,[30,31,32]),(16,[30]),(17,[33]),(18,[0,3,4,5,34]),(19,[34,35,36]),(20,[0,3,4,5,11,37,38,39,40,41,42])]) 43
def A6c(x0:Aa)(x3:Int)(x4:Int)(x5:Int):S6:=⟨[(0,.one (.sl .i32 x0 none)),(3,.one (.int .i64 x3)),(4,.one (.int .i32 x4)),(5,.one (.int .i64 x5))],[]⟩
theorem B2r(n:Nat)(a0:Aa):A3 E38 n Eg [.sl .i32 a0 none]=
  D1 (lbC E38 (A1 Eg [1,1,1,1,0,0,0]) 10004 n) n (A6c a0 0 0 0) (A5 0 (C1 (B1 E38 n (A1 Eg [1,1,1,1,1])) (A9 E38 Tryz.f232.results.toList))):=by
 kernel_rfl
theorem D3Y(n:Nat)(x0:Aa)(x3:Int)(x4:Int)(x5:Int)(K:Ex->S6->Ad):lbC E38 (A1 Eg [1,1,1,1,0,0,0]) 10004 n (A6c x0 x3 x4 x5) K=
  bif decide (x5<(Ax x0:Int))then(match idx x0 x5 with|none=>none|some y1=>(bif !(L8 y1)then(K .ret ⟨[(2,.one (.bool false))],[]⟩)else(bif D3 x0&&decide (0<=x5)&&decide (x5<(Ax x0:Int))then(bif L4 (Ba (Ay x5) x0)then(K .normal (A6c x0 0 0 (Aw .i64 (x5+4))))else(match idx x0 x5 with|none=>none|some y2=>(bif y2==34 then(bif(Aw .i64 (x3+1))==3 then(K .ret ⟨[(2,.one (.bool false))],[]⟩)else(K .normal (A6c x0 (Aw .i64 (x3+1)) y2 (Aw .i64 (x5+1)))))else(K .normal (A6c x0 0 y2 (Aw .i64 (x5+1)))))))else none)))else(K (.exit 0) ⟨[(0,.one (.sl .i32 x0 none)),(3,.one (.int .i64 x3)),(4,.one (.int .i32 x4)),(5,.one (.int .i64 x5)),(11,.one (.bool (decide (x5<(Ax x0:Int)))))],[]⟩):=by
 kernel_rfl
theorem C8M(n:Nat)(x0:Aa)(x3:Int)(x4:Int)(x5:Int)(cM:Bool):(A5 0 (C1 (B1 E38 n (A1 Eg [1,1,1,1,1])) (A9 E38 Tryz.f232.results.toList))) (.exit 0) ⟨[(0,.one (.sl .i32 x0 none)),(3,.one (.int .i64 x3)),(4,.one (.int .i32 x4)),(5,.one (.int .i64 x5)),(11,.one (.bool cM))],[]⟩=
  bif(x4 !=34)==true then(some (.one (.bool (x4 !=92))))else(some (.one (.bool false))):=by
 kernel_rfl
def T39:T6:=λf ls=>match f with
 |122=>S55 ls
 |_=>none
def E39:Env Ty6 A4:=mk6 T39 noC (lkE [(0,[2]),(2,[8,9]),(4,[10,11,12]),(5,[14,15]),(6,[13,16,17]),(7,[18,19,20,21]),(8,[22,23,24,25,26,27,28]),(9,[29,30,31,32,33,34,35,36,37,38,39,40,41,42,43,44,45,46,47,48]),(10,[49,50,51]),(11,[22,49,52,53,54,55,56,57,58]),(12,[6,59,60,61,62,63,64,65,66,67]),(13,[7,68,69,70,71]),(14,[0,3,4,5,13,72])]) 73
def A1d(x0:Aa)(x3:Am)(x4:Aa)(x5:Int):S6:=⟨[(0,.one (.sl .i32 x0 none)),(3,.one (.sl .rs x3 (some 103))),(4,.one (.sl .i64 x4 (some 1009))),(5,.one (.int .i64 x5))],[103,1009]⟩
theorem B4G(n:Nat)(a0:Aa):A3 E39 n En [.sl .i32 a0 none]=
  bif smL a0 then(D1 (lbC E39 (A1 En [1,1,1,0,1,0,0]) 10004 n) n (A1d a0 [] (R5 a0) 0) (A5 0 (C1 (B1 E39 n (A1 En [1,1,1,1])) (A9 E39 Tryz.f198.results.toList))))else none:=by
 kernel_rfl
theorem C8d(n:Nat)(x0:Aa)(x3:Am)(x4:Aa)(x5:Int)(K:Ex->S6->Ad):lbC E39 (A1 En [1,1,1,0,1,0,0]) 10004 n (A1d x0 x3 x4 x5) K=
  bif decide (x5<(Ax x4:Int))then(bif decide ((Aw .i64 (x5+1))<(Ax x4:Int))then(match idx x4 (Aw .i64 (x5+1))with|none=>none|some y1=>(match idx x0 (Aw .i64 (y1 - 1))with|none=>none|some y2=>(bif(y2==10)==true then(match idx x4 x5 with|none=>none|some y3=>(bif(decide ((Aw .i64 (y1 - 1))>y3))==true then(match idx x0 (Aw .i64 ((Aw .i64 (y1 - 1)) - 1))with|none=>none|some y4=>(bif y4==13 then(match idx x4 x5 with|none=>none|some y5=>(bif decide (0<=(Aw .i64 ((Aw .i64 ((Aw .i64 (y1 - 1)) - 1)) - y5)))&&A2 (Ay (Aw .i64 ((Aw .i64 ((Aw .i64 (y1 - 1)) - 1)) - y5))) 4 then(match idx x4 x5 with|none=>none|some y6=>(match sub x0 y6 (Aw .i64 ((Aw .i64 (y1 - 1)) - 1))with|none=>none|some y7=>(bif A2 (0+Ax y7) 4 then(bif A2 (Ax x3+1) 24 then(K .normal (A1d x0 (x3++[y7]) x4 (Aw .i64 (x5+1))))else none)else none)))else none))else(match idx x4 x5 with|none=>none|some y8=>(bif decide (0<=(Aw .i64 ((Aw .i64 (y1 - 1)) - y8)))&&A2 (Ay (Aw .i64 ((Aw .i64 (y1 - 1)) - y8))) 4 then(match idx x4 x5 with|none=>none|some y9=>(match sub x0 y9 (Aw .i64 (y1 - 1))with|none=>none|some gp=>(bif A2 (0+Ax gp) 4 then(bif A2 (Ax x3+1) 24 then(K .normal (A1d x0 (x3++[gp]) x4 (Aw .i64 (x5+1))))else none)else none)))else none))))else(match idx x4 x5 with|none=>none|some lc=>(bif decide (0<=(Aw .i64 ((Aw .i64 (y1 - 1)) - lc)))&&A2 (Ay (Aw .i64 ((Aw .i64 (y1 - 1)) - lc))) 4 then(match idx x4 x5 with|none=>none|some mB=>(match sub x0 mB (Aw .i64 (y1 - 1))with|none=>none|some oJ=>(bif A2 (0+Ax oJ) 4 then(bif A2 (Ax x3+1) 24 then(K .normal (A1d x0 (x3++[oJ]) x4 (Aw .i64 (x5+1))))else none)else none)))else none))))else(match idx x4 x5 with|none=>none|some rE=>(bif decide (0<=(Aw .i64 ((Aw .i64 (y1 - 1)) - rE)))&&A2 (Ay (Aw .i64 ((Aw .i64 (y1 - 1)) - rE))) 4 then(match idx x4 x5 with|none=>none|some qh=>(match sub x0 qh (Aw .i64 (y1 - 1))with|none=>none|some vW=>(bif A2 (0+Ax vW) 4 then(bif A2 (Ax x3+1) 24 then(K .normal (A1d x0 (x3++[vW]) x4 (Aw .i64 (x5+1))))else none)else none)))else none)))))else(match idx x4 x5 with|none=>none|some rF=>(bif decide (0<=(Aw .i64 ((Ax x0:Int) - rF)))&&A2 (Ay (Aw .i64 ((Ax x0:Int) - rF))) 4 then(match idx x4 x5 with|none=>none|some nM=>(match sub x0 nM (Ax x0:Int)with|none=>none|some vX=>(bif A2 (0+Ax vX) 4 then(bif A2 (Ax x3+1) 24 then(K .normal (A1d x0 (x3++[vX]) x4 (Aw .i64 (x5+1))))else none)else none)))else none)))else(K (.exit 0) ⟨[(0,.one (.sl .i32 x0 none)),(3,.one (.sl .rs x3 (some 103))),(4,.one (.sl .i64 x4 (some 1009))),(5,.one (.int .i64 x5)),(13,.one (.bool (decide (x5<(Ax x4:Int)))))],[103,1009]⟩):=by
 kernel_rfl
theorem C91(n:Nat)(x0:Aa)(x3:Am)(x4:Aa)(x5:Int)(bv:Bool):(A5 0 (C1 (B1 E39 n (A1 En [1,1,1,1])) (A9 E39 Tryz.f198.results.toList))) (.exit 0) ⟨[(0,.one (.sl .i32 x0 none)),(3,.one (.sl .rs x3 (some 103))),(4,.one (.sl .i64 x4 (some 1009))),(5,.one (.int .i64 x5)),(13,.one (.bool bv))],[103,1009]⟩=
  some (.one (.sl .rs x3 (some 1))):=by
 kernel_rfl
def T40:T6:=λf ls=>match f with
 |239=>S54 ls
 |_=>none
def E40:Env Ty6 A4:=mk6 T40 noC (lkE [(0,[2]),(3,[6,7,8]),(4,[9,10,11,12]),(5,[5]),(6,[13,14,15]),(7,[16,17,18]),(8,[19,20]),(9,[13,21,22,23,24,25,26,27]),(10,[28,29]),(11,[0,3,4,9,30])]) 31
def A42(x0:Aa)(x3:Aa)(x4:Int):S6:=⟨[(0,.one (.sl .i32 x0 none)),(3,.one (.sl .i32 x3 (some 103))),(4,.one (.int .i64 x4))],[103]⟩
theorem D25(n:Nat)(a0:Aa):A3 E40 n Ef [.sl .i32 a0 none]=
  D1 (lbC E40 (A1 Ef [1,1,1,0,0,0]) 10003 n) n (A42 a0 [] 0) (A5 0 (C1 (B1 E40 n (A1 Ef [1,1,1,1])) (A9 E40 Tryz.f233.results.toList))):=by
 kernel_rfl
theorem C5H(n:Nat)(x0:Aa)(x3:Aa)(x4:Int)(K:Ex->S6->Ad):lbC E40 (A1 Ef [1,1,1,0,0,0]) 10003 n (A42 x0 x3 x4) K=
  bif decide (x4<(Ax x0:Int))then(bif D3 x0&&decide (0<=x4)&&decide (x4<(Ax x0:Int))then(bif L4 (Ba (Ay x4) x0)then(bif A2 (Ax x3+3) 4 then(K .normal (A42 x0 (x3++[34,34,34]) (Aw .i64 ((Aw .i64 (x4+1))+3))))else none)else(match idx x0 x4 with|none=>none|some y1=>(bif A2 (Ax x3+1) 4 then(K .normal (A42 x0 (x3++[y1]) (Aw .i64 (x4+1))))else none)))else none)else(K (.exit 0) ⟨[(0,.one (.sl .i32 x0 none)),(3,.one (.sl .i32 x3 (some 103))),(4,.one (.int .i64 x4)),(9,.one (.bool (decide (x4<(Ax x0:Int)))))],[103]⟩):=by
 kernel_rfl
theorem D2y(n:Nat)(x0:Aa)(x3:Aa)(x4:Int)(x9:Bool):(A5 0 (C1 (B1 E40 n (A1 Ef [1,1,1,1])) (A9 E40 Tryz.f233.results.toList))) (.exit 0) ⟨[(0,.one (.sl .i32 x0 none)),(3,.one (.sl .i32 x3 (some 103))),(4,.one (.int .i64 x4)),(9,.one (.bool x9))],[103]⟩=
  some (.one (.sl .i32 x3 (some 1))):=by
 kernel_rfl
def E55:Env Ty6 A4:=mk6 noT noC (lkE [(0,[2]),(1,[5]),(3,[6,7,8]),(4,[10,11,23,43]),(5,[9,12,13,14,15,16,17,18,19,20,21,22]),(6,[23,24,25,26,27,28,29,30,31,32,33,34,35,36,37,38,39,40,41,42]),(7,[43,44,45,46,47,48]),(8,[0,3,4,9,49])]) 50
def Z0(x0:Aa)(x3:Aa)(x4:Int):S6:=⟨[(0,.one (.sl .i32 x0 none)),(3,.one (.sl .i64 x3 (some 105))),(4,.one (.int .i64 x4))],[105]⟩
theorem B68(n:Nat)(a0:Aa):A3 E55 n Fa [.sl .i32 a0 none]=
  D1 (lbC E55 (A1 Fa [1,1,0,1,0,0]) 10003 n) n (Z0 a0 [0] 0) (A5 0 (C1 (B1 E55 n (A1 Fa [1,1,1])) (A9 E55 Tryz.f122.results.toList))):=by
 kernel_rfl
theorem D7z(n:Nat)(x0:Aa)(x3:Aa)(x4:Int)(K:Ex->S6->Ad):lbC E55 (A1 Fa [1,1,0,1,0,0]) 10003 n (Z0 x0 x3 x4) K=
  bif decide (x4<(Ax x0:Int))then(match idx x0 x4 with|none=>none|some y1=>(bif(y1 !=13)==true then(match idx x0 x4 with|none=>none|some y2=>(bif y2 !=10 then(K .normal (Z0 x0 x3 (Aw .i64 (x4+1))))else(match idx x0 x4 with|none=>none|some y3=>(bif(y3==13)==true then(bif(decide ((Aw .i64 (x4+1))<(Ax x0:Int)))==true then(match idx x0 (Aw .i64 (x4+1))with|none=>none|some y4=>(bif y4==10 then(K .normal (Z0 x0 x3 (Aw .i64 (x4+1))))else(bif A2 (Ax x3+1) 8 then(K .normal (Z0 x0 (x3++[Aw .i64 (x4+1)]) (Aw .i64 (x4+1))))else none)))else(bif A2 (Ax x3+1) 8 then(K .normal (Z0 x0 (x3++[Aw .i64 (x4+1)]) (Aw .i64 (x4+1))))else none))else(bif A2 (Ax x3+1) 8 then(K .normal (Z0 x0 (x3++[Aw .i64 (x4+1)]) (Aw .i64 (x4+1))))else none)))))else(match idx x0 x4 with|none=>none|some y5=>(bif(y5==13)==true then(bif(decide ((Aw .i64 (x4+1))<(Ax x0:Int)))==true then(match idx x0 (Aw .i64 (x4+1))with|none=>none|some y6=>(bif y6==10 then(K .normal (Z0 x0 x3 (Aw .i64 (x4+1))))else(bif A2 (Ax x3+1) 8 then(K .normal (Z0 x0 (x3++[Aw .i64 (x4+1)]) (Aw .i64 (x4+1))))else none)))else(bif A2 (Ax x3+1) 8 then(K .normal (Z0 x0 (x3++[Aw .i64 (x4+1)]) (Aw .i64 (x4+1))))else none))else(bif A2 (Ax x3+1) 8 then(K .normal (Z0 x0 (x3++[Aw .i64 (x4+1)]) (Aw .i64 (x4+1))))else none)))))else(K (.exit 0) ⟨[(0,.one (.sl .i32 x0 none)),(3,.one (.sl .i64 x3 (some 105))),(4,.one (.int .i64 x4)),(9,.one (.bool (decide (x4<(Ax x0:Int)))))],[105]⟩):=by
 kernel_rfl
theorem C8n(n:Nat)(x0:Aa)(x3:Aa)(x4:Int)(x9:Bool):(A5 0 (C1 (B1 E55 n (A1 Fa [1,1,1])) (A9 E55 Tryz.f122.results.toList))) (.exit 0) ⟨[(0,.one (.sl .i32 x0 none)),(3,.one (.sl .i64 x3 (some 105))),(4,.one (.int .i64 x4)),(9,.one (.bool x9))],[105]⟩=
  some (.one (.sl .i64 x3 (some 1))):=by
 kernel_rfl
def T23:T6:=λf ls=>match f with
 |125=>S35 ls
 |198=>S39 ls
 |232=>S38 ls
 |233=>S40 ls
 |234=>S16 ls
 |_=>none
def E23:Env Ty6 A4:=mk6 T23 noC (lkE [(0,[2,3]),(1,[14,15]),(2,[4,16]),(3,[0,17]),(4,[0,17,18,19]),(7,[20,21,22]),(8,[24,25]),(9,[23,26,27,28,29,30]),(10,[8,31,32,33,34]),(11,[5,6,7,23,35,36]),(14,[37,38,39]),(15,[41,42]),(16,[40,43]),(17,[44,45,46,47]),(18,[44,48,49,50,51,52,53]),(19,[9,10,11,13,40,54,55,56,57,58]),(20,[12,59])]) 60
def B0R(x5:Am)(x6:Am)(x7:Int):S6:=⟨[(5,.one (.sl .rs x5 (some 1019))),(6,.one (.sl .rs x6 (some 106))),(7,.one (.int .i64 x7))],[106,1019]⟩
def A8H(x9:Am)(aC:Aa)(cM:Int):S6:=⟨[(9,.one (.sl .rs x9 none)),(10,.one (.sl .i32 aC (some 110))),(11,.one (.int .i64 cM))],[110]⟩
theorem C8u(n:Nat)(a0:Aa):A3 E23 n Ch [.sl .i32 a0 none]=
  bif smL a0 then(bif !(A8f 0 a0)then(some (.tup [.str [],.int .i64 60]))else(bif smL a0 then(D1 (lbC E23 (A1 Ch [1,1,1,1,1,0,1,0,0]) 10007 n) n (B0R (B3 a0) [] 0) (A5 0 (C1 (B1 E23 n (A1 Ch [1,1,1,1,1,1])) (A9 E23 Tryz.f212.results.toList))))else none))else none:=by
 kernel_rfl
theorem D1A(n:Nat)(x5:Am)(x6:Am)(x7:Int)(K:Ex->S6->Ad):lbC E23 (A1 Ch [1,1,1,1,1,0,1,0,0]) 10007 n (B0R x5 x6 x7) K=
  bif decide (x7<(Ax x5:Int))then(match idx x5 x7 with|none=>none|some y1=>(bif smL y1 then(bif A2 (Ax x6+1) 24 then(K .normal (B0R x5 (x6++[E7 y1]) (Aw .i64 (x7+1))))else none)else none))else(K (.exit 0) ⟨[(5,.one (.sl .rs x5 (some 1019))),(6,.one (.sl .rs x6 (some 106))),(7,.one (.int .i64 x7)),(23,.one (.bool (decide (x7<(Ax x5:Int)))))],[106,1019]⟩):=by
 kernel_rfl
theorem C5Z(n:Nat)(x5:Am)(x6:Am)(x7:Int)(eB:Bool):(A5 0 (C1 (B1 E23 n (A1 Ch [1,1,1,1,1,1])) (A9 E23 Tryz.f212.results.toList))) (.exit 0) ⟨[(5,.one (.sl .rs x5 (some 1019))),(6,.one (.sl .rs x6 (some 106))),(7,.one (.int .i64 x7)),(23,.one (.bool eB))],[106,1019]⟩=
  bif L3 x6 then(D1 (lbC E23 (A1 Ch [1,1,1,1,1,1,1,1,0,1,0,0]) 10014 n) n (A8H (J7 x6) [] 0) (A5 2 (C1 (B1 E23 n (A1 Ch [1,1,1,1,1,1,1,1,1])) (A9 E23 Tryz.f212.results.toList))))else none:=by
 kernel_rfl
theorem B9B(n:Nat)(x9:Am)(aC:Aa)(cM:Int)(K:Ex->S6->Ad):lbC E23 (A1 Ch [1,1,1,1,1,1,1,1,0,1,0,0]) 10014 n (A8H x9 aC cM) K=
  bif decide (cM<(Ax x9:Int))then(bif decide (cM>0)then(bif A2 (Ax aC+1) 4 then(match idx x9 cM with|none=>none|some y2=>(bif A2 (Ax (aC++[10])+Ax y2) 4 then(K .normal (A8H x9 ((aC++[10])++y2) (Aw .i64 (cM+1))))else none))else none)else(match idx x9 cM with|none=>none|some y3=>(bif A2 (Ax aC+Ax y3) 4 then(K .normal (A8H x9 (aC++y3) (Aw .i64 (cM+1))))else none)))else(K (.exit 2) ⟨[(9,.one (.sl .rs x9 none)),(10,.one (.sl .i32 aC (some 110))),(11,.one (.int .i64 cM)),(40,.one (.bool (decide (cM<(Ax x9:Int)))))],[110]⟩):=by
 kernel_rfl
theorem D0F(n:Nat)(x9:Am)(aC:Aa)(cM:Int)(eP:Bool):(A5 2 (C1 (B1 E23 n (A1 Ch [1,1,1,1,1,1,1,1,1])) (A9 E23 Tryz.f212.results.toList))) (.exit 2) ⟨[(9,.one (.sl .rs x9 none)),(10,.one (.sl .i32 aC (some 110))),(11,.one (.int .i64 cM)),(40,.one (.bool eP))],[110]⟩=
  bif D3 aC then(some (.tup [.str ((J4 aC).1),.int .i64 0]))else none:=by
 kernel_rfl
theorem A4C{l:Aa}:L4 l=true↔∃r,l=92::34::34::34::r:=by
 constructor
 ·intro h;unfold L4 at h;split at h
  ·exact⟨_,rfl⟩
  ·cases h
 ·rintro⟨r,rfl⟩;rfl
theorem B6n{c:Int}{r:Aa}(h:L4 (c::r)=false):E7 (c::r)=c::E7 r:=by
 conv=>lhs;unfold E7
 split
 ·rename_i bN;rw[bN]at h;cases h
 ·rename_i bN;cases bN;rfl
 ·rename_i bN;cases bN
theorem B2j{c:Int}{r:Aa}(h:L4 (c::r)=false):Q9 (c::r)=if !L8 c||J9 (c::r)then false else Q9 r:=by
 conv=>lhs;unfold Q9
 split
 ·rename_i bN;rw[bN]at h;cases h
 ·rename_i bN;cases bN;rfl
 ·rename_i bN;cases bN
theorem C70{c x:Int}{r:Aa}(h:L4 (c::r)=false):Y5 x (c::r)=Y5 c r:=by
 conv=>lhs;unfold Y5
 split
 ·rename_i bN;rw[bN]at h;cases h
 ·rename_i bN;cases bN;rfl
 ·rename_i bN;cases bN
theorem B8T(r:Aa):E7 (92::34::34::34::r)=34::34::34::E7 r:=rfl
theorem D11(r:Aa):Q9 (92::34::34::34::r)=Q9 r:=rfl
theorem C8D(x:Int)(r:Aa):Y5 x (92::34::34::34::r)=Y5 0 r:=rfl
theorem A1V{l:Aa}:J9 l=true↔∃r,l=34::34::34::r:=by
 constructor
 ·intro h;unfold J9 at h;split at h
  ·exact⟨_,rfl⟩
  ·cases h
 ·rintro⟨r,rfl⟩;rfl
theorem B5S{l:Aa}(h:3<=l.length):J9 l=(l[0]==34&&(l[1]==34&&l[2]==34)):=by
 match l,h with
 |a::b::c::r,_=>
  show J9 (a::b::c::r)=(a==34&&(b==34&&c==34));cases h:(a==34&&(b==34&&c==34))with
  |true=>
   simp only[Bn,beq_iff_eq]at h;obtain⟨rfl,rfl,rfl⟩:=h;rfl
  |false=>
   cases hq:J9 (a::b::c::r)with
   |false=>rfl
   |true=>
    obtain⟨r',hr⟩:=A1V.1 hq;simp only[Bm]at hr;obtain⟨rfl,rfl,rfl,_⟩:=hr;simp at h
theorem C5b{l:Aa}(h:l.length<3):J9 l=false:=by
 cases hq:J9 l with
 |false=>rfl
 |true=>obtain⟨r,rfl⟩:=A1V.1 hq;simp at h;omega
theorem B1q(c:Int)(r:Aa):L4 (c::r)=(c==92&&J9 r):=by
 cases h:(c==92&&J9 r)with
 |true=>
  simp only[Bn,beq_iff_eq]at h;obtain⟨rfl,h2⟩:=h;obtain⟨r',rfl⟩:=A1V.1 h2;rfl
 |false=>
  cases hq:L4 (c::r)with
  |false=>rfl
  |true=>
   obtain⟨r',hr⟩:=A4C.1 hq;simp only[Bm]at hr;obtain⟨rfl,rfl⟩:=hr;simp[J9]at h
theorem C55(l:Aa)(hl:D3 l=true)(n:Nat):A3 E51 n Tryz.f195 [.sl .i32 l none]=some (.one (.bool (J9 l))):=by
 have aj:=A5q hl;rw[D5A];by_cases h:l.length<3
 ·rw[As (by omega:¬(l.length:Int)>=3),C5b h];rfl
 ·rw[Ar (by omega:(l.length:Int)>=3),B5S (by omega),show(0:Int)=((0:Nat):Int)from rfl,show(1:Int)=((1:Nat):Int)from rfl,show(2:Int)=((2:Nat):Int)from rfl,D9 (by omega),D9 (by omega),D9 (by omega)];dsimp only;cases l[0]==34<;>cases l[1]==34<;>rfl
theorem B7Y{l:Aa}{i:Nat}(h:i<l.length):N3 (l.drop i)=if l[i]=10 then true else if l[i]=13 then !(l[i+1]? ==some 10)else false:=by
 rw[S2 h];by_cases h1:l[i]=10
 ·rw[h1];rfl
 ·rw[At h1];by_cases h2:l[i]=13
  ·rw[h2,Au rfl];show(!((l.drop (i+1)).head? ==some 10))=_;rw[List.head?_drop]
  ·rw[At h2];unfold N3;split
   ·rename_i bN;simp only[Bm]at bN;exact absurd bN.1 h1
   ·rename_i bN;simp only[Bm]at bN;exact absurd bN.1 h2
   ·rfl
theorem D1W(l:Aa)(hl:D3 l=true)(i:Nat)(hi:i<l.length)(n:Nat):A3 E52 n Tryz.f218 [.sl .i32 l none,.int .i64 i]=some (.one (.bool (N3 (l.drop i)))):=by
 have aj:=A5q hl;rw[C7k,D9 hi,B7Y hi,I9 (by omega)];dsimp only;by_cases h1:l[i]=10
 ·rw[beqT h1,Au h1];rfl
 ·rw[beqF h1,At h1];by_cases h2:l[i]=13
  ·rw[beqT h2,Au h2];by_cases h3:i+1=l.length
   ·rw[beqT (by omega:((i+1:Nat):Int)=(l.length:Int)),Jq (by omega)];rfl
   ·rw[beqF (by omega:((i+1:Nat):Int)≠(l.length:Int)),D9 (by omega),Cd (by omega)];show some (Ent.one (Leaf.bool (l[i+1] !=10)))=some (Ent.one (Leaf.bool (!(some l[i+1]==some 10))));rfl
  ·rw[beqF h2,At h2];rfl
theorem D0x{l:Aa}{i:Nat}(h:i+3<l.length):L4 (l.drop i)=(l[i]==92&&(l[i+1]==34&&(l[i+2]==34&&l[i+3]==34))):=by
 rw[S2 (i:=i) (by omega),B1q,B5S (by rw[Bb];omega)];have e0:(l.drop (i+1))[0]'(by rw[Bb];omega)=l[i+1]:=by simp
 have e1:(l.drop (i+1))[1]'(by rw[Bb];omega)=l[i+2]:=by simp
 have e2:(l.drop (i+1))[2]'(by rw[Bb];omega)=l[i+3]:=by simp
 rw[e0,e1,e2]
theorem D0s{l:Aa}{i:Nat}(h:l.length<=i+3):L4 (l.drop i)=false:=by
 cases hq:L4 (l.drop i)with
 |false=>rfl
 |true=>
  obtain⟨r,hr⟩:=A4C.1 hq;have:=congrArg Ax hr;simp at this;omega
theorem D1j(l:Aa)(hl:D3 l=true)(i:Nat)(hi:i<l.length)(n:Nat):A3 E54 n Tryz.f239 [.sl .i32 l none,.int .i64 i]=some (.one (.bool (L4 (l.drop i)))):=by
 have aj:=A5q hl;rw[B5x,show(3:Int)=((3:Nat):Int)from rfl,A04 (by omega),I9 (by omega),show(2:Int)=((2:Nat):Int)from rfl,A04 (by omega),D9 hi];by_cases h:i+3<l.length
 ·rw[Ar (by omega:((i+3:Nat):Int)<(l.length:Int)),D0x h,D9 (by omega),D9 (by omega),D9 (by omega)];dsimp only;cases l[i]==92<;>cases l[i+1]==34<;>cases l[i+2]==34<;>rfl
 ·rw[As (by omega:¬((i+3:Nat):Int)<(l.length:Int)),D0s (by omega)];rfl
theorem Z5{l:Aa}(h:smL l=true):l.length<=1073741824:=by simpa [smL]using h
theorem A8G{l:Aa}:smL l=true↔l.length<=1073741824:=by simp[smL]
theorem A8T{l:Aa}(h:smL l=true):D3 l=true:=T9.2 (by have:=Z5 h;omega)
theorem B24(l:Aa):(E7 l).length<=l.length:=by
 fun_induction E7 l with
 |case1 r ih=>simp;omega
 |case2 c r h ih=>simp;omega
 |case3=>simp
theorem D5l(x:Int):A3t x=if x=34 then false else !(x==92):=by
 unfold A3t;by_cases h:x=34
 ·rw[beqT h,Au h];rfl
 ·rw[beqF h,At h];simp
theorem C9n(l:Aa)(hl:smL l=true)(n:Nat)(hn:l.length<n):A3 E40 n Ef [.sl .i32 l none]=some (.one (.sl .i32 (E7 l) (some 1))):=by
 have aj:=Z5 hl;have h4:=A8T hl;rw[D25];refine(H9 (λp:Aa×Nat=>A42 l p.1 p.2) (λp=>p.1.length<=p.2/\p.2<=l.length+4) (λp=>l.length - p.2) (λp=>(some (.one (.sl .i32 (p.1++E7 (l.drop p.2)) (some 1))):Ad)) ?_ n ([],0) (by simp) (by simp only;omega)).trans (by simp);rintro⟨out,i⟩ ⟨h1,h2⟩ K a8 bH aU;dsimp only at h1 h2 aU ⊢;rw[C5H];by_cases h:i<l.length
 ·rw[Ar (by omega:(i:Int)<(l.length:Int)),Ap,h4,Ar (by omega:(0:Int)<=(i:Int)),Co,G9.2 (by omega),D9 h,G9.2 (by omega),I9 (by omega)];have hd:=S2 h;cases he:L4 (l.drop i)with
  |true=>
   obtain⟨r,hr⟩:=A4C.1 he;have pn:l.drop (i+4)=r:=by
    have:=congrArg (Ba 4) hr;simpa using this
   have hw:Aw .i64 (((i+1:Nat):Int)+3)=((i+4:Nat):Int):=by
    rw[P3 (by omega) (by omega)];omega
   rw[hw];have nO:=aU (out++[34,34,34],i+4) ⟨by simp;omega,by simp only;omega⟩ (by simp only;omega);refine Cm (b:=K .normal (A42 l (out++[34,34,34]) ((i+4:Nat):Int))) rfl (nO.trans ?_);dsimp only;rw[pn,hr,B8T];simp
  |false=>
   have nO:=aU (out++[l[i]],i+1) ⟨by simp;omega,by simp only;omega⟩ (by simp only;omega);refine Cm (b:=K .normal (A42 l (out++[l[i]]) ((i+1:Nat):Int))) rfl (nO.trans ?_);dsimp only;rw[hd]at he ⊢;rw[B6n he];simp
 ·rw[As (by omega:¬(i:Int)<(l.length:Int)),Aq,a8,D2y,Bi (by omega),show E7 []=[]from rfl,Bx]
theorem A9g(r:Aa):Q9 (34::r)=if J9 (34::r)then false else Q9 r:=by
 rw[B2j (by rw[B1q];rfl),show L8 34=true from by decide];simp
theorem C3a{c:Int}{r:Aa}(h:c≠34):J9 (34::c::r)=false:=by
 cases hq:J9 (34::c::r)with
 |false=>rfl
 |true=>obtain⟨r',hr⟩:=A1V.1 hq;simp only[Bm]at hr;exact absurd hr.2.1 h
theorem D4d{c:Int}{r:Aa}(h:c≠34):J9 (34::34::c::r)=false:=by
 cases hq:J9 (34::34::c::r)with
 |false=>rfl
 |true=>obtain⟨r',hr⟩:=A1V.1 hq;simp only[Bm]at hr;exact absurd hr.2.2.1 h
def A5l(q:Nat)(l:Aa):Bool:=Q9 (List.replicate q 34++l)
theorem B6T{q:Nat}(hq:q<=2){c:Int}{r:Aa}(h:c≠34):A5l q (c::r)=Q9 (c::r):=by
 have:q=0\/q=1\/q=2:=by omega
 rcases this with rfl|rfl|rfl
 ·rfl
 ·show Q9 (34::c::r)=_;rw[A9g,C3a h];rfl
 ·show Q9 (34::34::c::r)=_;rw[A9g,D4d h,At (by simp),A9g,C3a h];rfl
theorem D7f(q:Nat)(r:Aa):A5l q (34::r)=A5l (q+1) r:=by
 unfold A5l;rw[List.replicate_succ',Fe];rfl
theorem C53(r:Aa):A5l 3 r=false:=by
 show Q9 (34::34::34::r)=_;rw[A9g,show J9 (34::34::34::r)=true from rfl];rfl
theorem C6d{q:Nat}(hq:q<=2):A5l q []=true:=by
 have:q=0\/q=1\/q=2:=by omega
 rcases this with rfl|rfl|rfl<;>decide
theorem D49(l:Aa)(hl:smL l=true)(n:Nat)(hn:l.length<n):A3 E38 n Eg [.sl .i32 l none]=some (.one (.bool (A8f 0 l))):=by
 have aj:=Z5 hl;have h4:=A8T hl;rw[B2r];refine(H9 (λp:Nat×Int×Nat=>A6c l p.1 p.2.1 p.2.2) (λp=>p.1<=2/\p.2.2<=l.length+4) (λp=>l.length - p.2.2) (λp=>(some (.one (.bool (A5l p.1 (l.drop p.2.2)&&A3t (Y5 p.2.1 (l.drop p.2.2))))):Ad)) ?_ n (0,0,0) (by simp) (by simp only;omega));rintro⟨q,last,i⟩ ⟨h1,h2⟩ K a8 bH aU;dsimp only at h1 h2 aU ⊢;rw[D3Y];by_cases h:i<l.length
 ·rw[Ar (by omega:(i:Int)<(l.length:Int)),Ap,D9 h,h4,Ar (by omega:(0:Int)<=(i:Int)),Co,I9 (by omega),I9 (by omega)];have hw:Aw .i64 ((i:Int)+4)=((i+4:Nat):Int):=by
   rw[P3 (by omega) (by omega)];omega
  rw[hw];dsimp only;have hd:=S2 h;cases hs:L8 l[i]with
  |false=>
   have hc:l[i]≠34:=λe=>by rw[e]at hs;exact absurd hs (by decide)
   have he:L4 (l[i]::l.drop (i+1))=false:=by
    rw[B1q];by_cases e:l[i]=92
    ·rw[e]at hs;exact absurd hs (by decide)
    ·rw[beqF e];rfl
   rw[hd,B6T h1 hc,B2j he,hs];exact(bH _).trans rfl
  |true=>
   cases he:L4 (l.drop i)with
   |true=>
    obtain⟨r,hr⟩:=A4C.1 he;have pn:l.drop (i+4)=r:=by
     have:=congrArg (Ba 4) hr;simpa using this
    refine(aU (0,0,i+4) ⟨by simp,by simp only;omega⟩ (by simp only;omega)).trans ?_;dsimp only;rw[pn,hr,B6T h1 (by decide),D11,C8D];rfl
   |false=>
    rw[hd]at he ⊢;rw[C70 he];by_cases hc:l[i]=34
    ·rw[beqT hc,hc,D7f];by_cases hq:q=2
     ·subst hq;rw[C53];exact(bH _).trans rfl
     ·rw[beqF (by omega:((q+1:Nat):Int)≠3)];exact aU (q+1,34,i+1) ⟨by simp only;omega,by simp only;omega⟩ (by simp only;omega)
    ·rw[beqF hc];refine(aU (0,l[i],i+1) ⟨by simp,by simp only;omega⟩ (by simp only;omega)).trans ?_;dsimp only;have hq:J9 (l[i]::l.drop (i+1))=false:=by
      cases hq:J9 (l[i]::l.drop (i+1))with
      |false=>rfl
      |true=>obtain⟨r',hr⟩:=A1V.1 hq;simp only[Bm]at hr;exact absurd hr.1 hc
     rw[B6T h1 hc,B2j he,hs,hq];rfl
 ·rw[As (by omega:¬(i:Int)<(l.length:Int)),Aq,a8,C8M,Bi (by omega),C6d h1,show Y5 last []=last from rfl,D5l];by_cases hq:last=34
  ·rw[A0i hq,Au hq];rfl
  ·rw[U7 hq,At hq];rfl
theorem V8(cur:Aa)(c:Int)(r:Aa):I3 cur (c::r)=if N3 (c::r)then cur::I3 [] r else if c=13 then I3 cur r else I3 (cur++[c]) r:=rfl
theorem D3o(l:Aa)(hl:smL l=true)(n:Nat)(hn:l.length<n):A3 E37 n Er [.sl .i32 l none]=some (.one (.sl .rs (B3 l) (some 1))):=by
 have aj:=Z5 hl;have h4:=A8T hl;rw[B2N];refine(H9 (λp:List (Aa)×Aa×Nat=>A6K l p.1 p.2.1 l (l.length:Int) p.2.2) (λp=>p.1.length<=p.2.2/\p.2.1.length<=p.2.2/\p.2.2<=l.length) (λp=>l.length - p.2.2) (λp=>(some (.one (.sl .rs (p.1++I3 p.2.1 (l.drop p.2.2)) (some 1))):Ad)) ?_ n ([],[],0) (by simp) (by simp only;omega)).trans rfl;rintro⟨all,cur,i⟩ ⟨h1,h2,h3⟩ K a8 bH aU;dsimp only at h1 h2 h3 aU ⊢;rw[C5D];by_cases h:i<l.length
 ·rw[Ar (by omega:(i:Int)<(l.length:Int)),Ap,D9 h,h4,Ar (by omega:(0:Int)<=(i:Int)),Co,I9 (by omega),G9.2 (by omega),G9.2 (by omega)];dsimp only;have hd:=S2 h;rw[hd,V8, <-hd];cases he:N3 (l.drop i)with
  |true=>
   rw[Au rfl];refine(aU (all++[cur],[],i+1) ⟨by simp;omega,by simp,by simp only;omega⟩ (by simp only;omega)).trans ?_;simp
  |false=>
   rw[At (by simp)];by_cases hc:l[i]=13
   ·rw[beqT hc,Au hc];exact aU (all,cur,i+1) ⟨by simp only;omega,by simp only;omega,by simp only;omega⟩ (by simp only;omega)
   ·rw[beqF hc,At hc];exact aU (all,cur++[l[i]],i+1) ⟨by simp only;omega,by simp;omega,by simp only;omega⟩ (by simp only;omega)
 ·rw[As (by omega:¬(i:Int)<(l.length:Int)),Aq,a8,D3z,Bi (by omega),G9.2 (by omega)];rfl
theorem A4J(i:Nat)(c:Int)(r:Aa):U0 i (c::r)=if N3 (c::r)then((i+1:Nat):Int)::U0 (i+1) r else U0 (i+1) r:=rfl
theorem D42(l:Aa)(hl:smL l=true)(n:Nat)(hn:l.length<n):A3 E55 n Fa [.sl .i32 l none]=some (.one (.sl .i64 (R5 l) (some 1))):=by
 have aj:=Z5 hl;rw[B68];refine(H9 (λp:Aa×Nat=>Z0 l p.1 p.2) (λp=>p.1.length<=p.2+1/\p.2<=l.length) (λp=>l.length - p.2) (λp=>(some (.one (.sl .i64 (p.1++U0 p.2 (l.drop p.2)) (some 1))):Ad)) ?_ n ([0],0) (by simp) (by simp only;omega)).trans rfl;rintro⟨s,i⟩ ⟨h1,h2⟩ K a8 bH aU;dsimp only at h1 h2 aU ⊢;rw[D7z];by_cases h:i<l.length
 ·rw[Ar (by omega:(i:Int)<(l.length:Int)),Ap,D9 h,I9 (by omega),G9.2 (by omega)];dsimp only;have hd:=S2 h;have nP:N3 (l.drop i)=true->K .normal (Z0 l (s++[((i+1:Nat):Int)]) ((i+1:Nat):Int))=some (.one (.sl .i64 (s++U0 i (l.drop i)) (some 1))):=λhe=>by
   refine(aU (s++[((i+1:Nat):Int)],i+1) ⟨by simp;omega,by simp only;omega⟩ (by simp only;omega)).trans ?_;rw[hd]at he ⊢;rw[A4J,Au he];simp
  have cY:N3 (l.drop i)=false->K .normal (Z0 l s ((i+1:Nat):Int))=some (.one (.sl .i64 (s++U0 i (l.drop i)) (some 1))):=λhe=>by
   refine(aU (s,i+1) ⟨by simp only;omega,by simp only;omega⟩ (by simp only;omega)).trans ?_;rw[hd]at he ⊢;rw[A4J,he];rfl
  have dh:=B7Y h;by_cases c1:l[i]=13
  ·have c2:l[i]≠10:=by omega
   rw[At c2,Au c1]at dh;rw[A0i c1,beqT c1];by_cases h3:i+1<l.length
   ·rw[Ar (by omega:((i+1:Nat):Int)<(l.length:Int)),D9 h3];rw[Cd h3]at dh;by_cases c3:l[i+1]=10
    ·rw[c3]at dh;dsimp only;rw[beqT c3];exact cY (by rw[dh];rfl)
    ·dsimp only;rw[beqF c3];refine nP ?_;rw[dh];simp[c3]
   ·rw[As (by omega:¬((i+1:Nat):Int)<(l.length:Int))];refine nP ?_;rw[dh,Jq (by omega)];rfl
  ·rw[U7 c1,beqF c1];rw[At c1]at dh;by_cases c2:l[i]=10
   ·rw[A0i c2];exact nP (by rw[dh,Au c2])
   ·rw[U7 c2];exact cY (by rw[dh,At c2])
 ·rw[As (by omega:¬(i:Int)<(l.length:Int)),Aq,a8,C8n,Bi (by omega),show U0 i []=[]from rfl,Bx]
theorem C35:∀(m:Aa)(i:Nat),U0 i m=[]->∀cur,I3 cur m=[cur++m]
 |[],i,_,cur=>by simp[I3]
 |c::r,i,h,cur=>by
  rw[A4J]at h;rw[V8];cases he:N3 (c::r)with
  |true=>rw[he]at h;simp at h
  |false=>
   rw[he]at h;simp only[Fq,if_false]at h ⊢;have ih:=C35 r (i+1) h;by_cases hc:c=13
   ·subst hc;have h2:(!(r.head? ==some 10))=false:=he;cases r with
    |nil=>simp at h2
    |cons d r=>
     simp at h2;subst h2;rw[A4J]at h;rw[show N3 (10::r)=true from rfl]at h;simp at h
   ·rw[At hc,ih];simp
def Y4(m:Aa)(j:Nat):Nat:=if m[j]?=some 10/\0<j/\m[j - 1]?=some 13 then j - 1 else j
theorem C0v:∀(m:Aa)(i:Nat)(b:Int)(anq:Aa),U0 i m=b::anq->
  ∃j:Nat,j<m.length/\b=((i+j+1:Nat):Int)/\anq=U0 (i+j+1) (m.drop (j+1))/\∀cur,I3 cur m=(cur++m.take (Y4 m j))::I3 [] (m.drop (j+1))
 |[],i,b,anq,h=>by cases h
 |c::r,i,b,anq,h=>by
  rw[A4J]at h;cases he:N3 (c::r)with
  |true=>
   rw[he]at h;simp only[if_true,Bm]at h;refine⟨0,by simp,h.1.symm,by simpa using h.2.symm,λcur=>?_⟩;rw[V8,he];simp[Y4]
  |false=>
   rw[he]at h;simp only[Fq,if_false]at h;obtain⟨j,h1,h2,h3,h4⟩:=C0v r (i+1) b anq h;refine⟨j+1,by simp;omega,by rw[h2];congr 1;omega,by rw[h3,Js];congr 1;omega,λcur=>?_⟩;rw[V8,he,Js];simp only[Fq,if_false];by_cases hc:c=13
   ·subst hc;have dw:(!(r.head? ==some 10))=false:=he;cases r with
    |nil=>simp at dw
    |cons d r=>
     simp at dw;subst dw;rw[A4J,show N3 (10::r)=true from rfl]at h;simp only[if_true,Bm]at h;have hj:j=0:=by have:=h.1;rw[h2]at this;omega
     subst hj;rw[Au rfl,h4];simp[Y4]
   ·rw[At hc,h4];have kq:(c::r).take (Y4 (c::r) (j+1))=c::r.take (Y4 r j):=by
     unfold Y4;rw[Jr,Jg];cases j with
     |zero=>
      rw[List.getElem?_cons_zero,At (by rintro⟨_,_,h5⟩;exact hc (Fb h5)),At (by rintro⟨_,h5,_⟩;omega)];rfl
     |succ j=>
      rw[Jr,Jg];by_cases hh:r[j+1]?=some 10/\r[j]?=some 13
      ·rw[Au ⟨hh.1,by omega,hh.2⟩,Au ⟨hh.1,by omega,hh.2⟩];rfl
      ·rw[At (λh5=>hh ⟨h5.1,h5.2.2⟩),At (λh5=>hh ⟨h5.1,h5.2.2⟩)];rfl
    rw[kq];simp
theorem C20:∀(m:Aa)(i:Nat),(U0 i m).length<=m.length
 |[],_=>by simp[U0]
 |c::r,i=>by
  rw[A4J];have:=C20 r (i+1);split<;>simp<;>omega
theorem C61(l:Aa)(hl:smL l=true)(n:Nat)(hn:l.length+2<n):A3 E39 n En [.sl .i32 l none]=some (.one (.sl .rs (B3 l) (some 1))):=by
 have aj:=Z5 hl;have h4:=A8T hl;have fC:(R5 l).length<=l.length+1:=by have:=C20 l 0;simp[R5];omega
 rw[B4G,hl,Ap];refine(H9 (λp:List (Aa)×Nat×Nat×Bool=>A1d l p.1 (R5 l) p.2.1)
  (λp=>p.1.length=p.2.1/\p.2.2.1<=l.length/\(p.2.2.2=true->p.2.1=(R5 l).length)/\(p.2.2.2=false->(R5 l).drop p.2.1=(p.2.2.1:Int)::U0 p.2.2.1 (l.drop p.2.2.1)))
  (λp=>(R5 l).length - p.2.1) (λp=>(some (.one (.sl .rs (bif p.2.2.2 then p.1 else p.1++I3 [] (l.drop p.2.2.1)) (some 1))):Ad)) ?_ n ([],0,0,false)
  ⟨rfl,Bh _,(λh=>by cases h),λ_=>rfl⟩ (by simp only;omega)).trans rfl
 rintro⟨out,k,a,done⟩ ⟨h1,h2,h3,h5⟩ K a8 bH aU;dsimp only at h1 h2 h3 h5 aU ⊢;rw[C8d];cases done with
 |true=>
  have hk:=h3 rfl;rw[As (by omega:¬(k:Int)<((R5 l).length:Int)),Aq,a8,C91];rfl
 |false=>
  have hd:=h5 rfl;have hk:k<(R5 l).length:=by
   rcases Jd k (R5 l).length with h|h
   ·exact h
   ·rw[Bi h]at hd;cases hd
  rw[S2 hk]at hd;simp only[Bm]at hd;obtain⟨xQ,mC⟩:=hd;rw[Ar (by omega:(k:Int)<((R5 l).length:Int)),Ap,I9 (by omega),D9 hk,xQ];dsimp only;rw[G9.2 (by omega:(out.length+1)*24<=140737488355328)];by_cases h6:k+1<(R5 l).length
  ·rw[Ar (by omega:((k+1:Nat):Int)<((R5 l).length:Int)),D9 h6];have ea:=mC;rw[S2 h6]at ea;obtain⟨j,j1,j2,j3,j4⟩:=C0v _ _ _ _ ea.symm;rw[Bb]at j1;rw[j2];dsimp only;have ku:=j4 [];rw[Dk]at ku;have dZ:∀e:Nat,e=a+Y4 (l.drop a) j->∀x,x=(l.drop a).take (e - a)->K .normal (A1d l (out++[x]) (R5 l) ((k+1:Nat):Int))=some (.one (.sl .rs (out++I3 [] (l.drop a)) (some 1))):=by
    intro e he x hx;have dN:e - a=Y4 (l.drop a) j:=by omega
    refine(aU (out++[x],k+1,a+j+1,false) ⟨by simp;omega,by simp only;omega,(λh=>by cases h),λ_=>?_⟩ (by simp only;omega)).trans ?_
    ·dsimp only;rw[S2 h6,j2,j3,Dm];rfl
    ·dsimp only;refine congrArg (λz:Am=>(some (.one (.sl .rs z (some 1))):Ad)) ?_;rw[ku,hx,dN,Dm];show out++[_]++_=_;rw[Fe];rfl
   have w1:Aw .i64 (((a+j+1:Nat):Int) - 1)=((a+j:Nat):Int):=by rw[P3 (by omega) (by omega)];omega
   rw[w1,D9 (by omega:a+j<l.length)];dsimp only;have vY:(l.drop a)[j]?=some (l[a+j]'(by omega)):=by rw[Fm,Cd (by omega)]
   have bZ:∀e:Nat,a<=e->e<=l.length->sub l (a:Int) (e:Int)=some ((l.drop a).take (e - a)):=λe gG dN=>A6V gG dN;have mW:∀e:Nat,a<=e->e<=l.length->Aw .i64 ((e:Int) - (a:Int))=((e - a:Nat):Int):=λe gG dN=>by rw[P3 (by omega) (by omega)];omega
   have jA:∀e:Nat,e<=l.length->A2 e 4=true:=λe he=>G9.2 (by omega);have kw:Y4 (l.drop a) j=j->(bif decide ((0:Int)<=((a+j - a:Nat):Int))&&A2 (Ay ((a+j - a:Nat):Int)) 4 then(match sub l (a:Int) ((a+j:Nat):Int)with|none=>none|some y7=>(bif A2 (0+Ax y7) 4 then(bif true then(K .normal (A1d l (out++[y7]) (R5 l) ((k+1:Nat):Int)))else none)else none))else none)=some (.one (.sl .rs (out++I3 [] (l.drop a)) (some 1))):=by
    intro kq;rw[Ar (by omega),Co,jA _ (by omega),bZ _ (by omega) (by omega)];dsimp only;rw[jA _ (by rw[Ck,Bb];omega)];exact dZ (a+j) (by omega) _ rfl
   by_cases c1:l[a+j]=10
   ·rw[beqT c1];by_cases c2:0<j
    ·rw[Ar (by omega:((a+j:Nat):Int)>(a:Int))];have w2:Aw .i64 (((a+j:Nat):Int) - 1)=((a+j - 1:Nat):Int):=by rw[P3 (by omega) (by omega)];omega
     rw[w2,D9 (by omega:a+j - 1<l.length)];dsimp only;have qj:(l.drop a)[j - 1]?=some (l[a+j - 1]'(by omega)):=by
      have e:a+(j - 1)=a+j - 1:=by omega
      rw[Fm,Cd (by omega)];simp only[e]
     by_cases c3:l[a+j - 1]=13
     ·rw[beqT c3,mW (a+j - 1) (by omega) (by omega)];have kq:Y4 (l.drop a) j=j - 1:=by unfold Y4;rw[vY,qj,c1,c3,Au ⟨rfl,c2,rfl⟩]
      rw[Ar (by omega:(0:Int)<=((a+j - 1 - a:Nat):Int)),Co,jA _ (by omega),bZ _ (by omega) (by omega)];dsimp only;rw[jA _ (by rw[Ck,Bb];omega)];exact dZ (a+j - 1) (by omega) _ rfl
     ·rw[beqF c3,mW (a+j) (by omega) (by omega)];exact kw (by unfold Y4;rw[qj,At (λh=>c3 (Fb h.2.2))])
    ·rw[As (by omega:¬((a+j:Nat):Int)>(a:Int)),mW (a+j) (by omega) (by omega)];exact kw (by unfold Y4;rw[At (λh=>c2 h.2.1)])
   ·rw[beqF c1,mW (a+j) (by omega) (by omega)];exact kw (by unfold Y4;rw[vY,At (λh=>c1 (Fb h.1))])
  ·rw[As (by omega:¬((k+1:Nat):Int)<((R5 l).length:Int))];have a7:U0 a (l.drop a)=[]:=by rw[<-mC,Bi (by omega)]
   have ku:=C35 _ _ a7 [];rw[Dk]at ku;have w2:Aw .i64 ((l.length:Int) - (a:Int))=((l.length - a:Nat):Int):=by rw[P3 (by omega) (by omega)];omega
   rw[w2,Ar (by omega:(0:Int)<=((l.length - a:Nat):Int)),Co,G9.2 (by omega),A80 h2];dsimp only;rw[G9.2 (by rw[Bb];omega)];refine Cm (b:=K .normal (A1d l (out++[l.drop a]) (R5 l) ((k+1:Nat):Int))) rfl ?_;refine(aU (out++[l.drop a],k+1,a,true) ⟨by simp;omega,h2,(λ_=>by simp only;omega),(λh=>by cases h)⟩ (by simp only;omega)).trans ?_;refine congrArg (λz:Am=>(some (.one (.sl .rs z (some 1))):Ad)) ?_;rw[ku];rfl
def K8(ls:Am):Nat:=(ls.map Ax).sum
theorem A2a(l:Aa)(ls:Am):K8 (l::ls)=l.length+K8 ls:=by simp[K8]
theorem C4I(a b:Am):K8 (a++b)=K8 a+K8 b:=by simp[K8]
theorem B1M{a b:Am}(h:a.Sublist b):K8 a<=K8 b:=by
 induction h with
 |slnil=>simp
 |cons x _ ih=>rw[A2a];omega
 |cons_cons x _ ih=>rw[A2a,A2a];omega
theorem B1m{a:Am}{x:Aa}(h:x∈a):x.length<=K8 a:=by
 have:=B1M (List.singleton_sublist.2 h);simpa [K8]using this
theorem C1E{f:Aa->Aa}(hf:∀l,(f l).length<=l.length)(a:Am):K8 (a.map f)<=K8 a:=by
 induction a with
 |nil=>simp
 |cons l r ih=>have:=hf l;rw[Ci,A2a,A2a];omega
theorem B1y:∀(m cur:Aa),K8 (I3 cur m)<=cur.length+m.length/\(I3 cur m).length<=m.length+1
 |[],cur=>by simp[I3,K8]
 |c::r,cur=>by
  rw[V8];split
  ·have:=B1y r [];rw[A2a];simp at this ⊢;omega
  ·split
   ·have:=B1y r cur;simp;omega
   ·have:=B1y r (cur++[c]);simp at this ⊢;omega
theorem A8D(l:Aa):K8 (B3 l)<=l.length/\(B3 l).length<=l.length+1:=by
 have:=B1y l [];simpa [B3]using this
theorem B3l(ls:Am):(R0 ls).Sublist ls:=by
 unfold R0;have h1:=(Jt (l:=(List.dropWhile B4 ls).reverse) B4).reverse;rw[Jm]at h1;exact h1.trans (Jt _)
theorem C3H(ls:Am):K8 (J7 ls)<=K8 ls/\(J7 ls).length<=ls.length:=by
 unfold J7;have h1:=B1M (B3l (M6 ls));have h2:=(B3l (M6 ls)).length_le;have h3:K8 (M6 ls)<=K8 ls:=by
  unfold M6;rw[C4I];have:=C1E (f:=λl=>l.drop (U3 ls).toNat) (λl=>by simp) (ls.drop 1);have h4:K8 (ls.take 1)+K8 (ls.drop 1)=K8 ls:=by rw[<-C4I,Fz]
  omega
 have h4:(M6 ls).length=ls.length:=by unfold M6;simp;omega
 omega
theorem C0i{ls:Am}(h1:K8 ls<=1073741824)(h2:ls.length<=1073741825):L3 ls=true:=by
 unfold L3;simp only[Bn,Ce];exact⟨G9.2 (by omega),λx hx=>T9.2 (by have:=B1m hx;omega)⟩
theorem B86(ls:Am):(I8 ls).length<=K8 ls+ls.length:=by
 cases ls with
 |nil=>simp[I8]
 |cons l r=>
  unfold I8;rw[A2a];have:(r.flatMap (10:: ·)).length<=K8 r+r.length:=by
   induction r with
   |nil=>simp
   |cons x r ih=>rw[Ca,Bo,A2a];simp only[Be];omega
  rw[Bo,Be];omega
theorem D1e{ls:Am}{i:Nat}(h:i<ls.length)(h0:0<i):I8 (ls.take (i+1))=I8 (ls.take i)++[10]++ls[i]:=by
 match ls,i,h,h0 with
 |l::r,i+1,h,_=>
  simp only[Be,Nat.add_lt_add_iff_right]at h;rw[Ji,Ji,Cc h];show l++(r.take i++[r[i]]).flatMap (10:: ·)=(l++(r.take i).flatMap (10:: ·))++[10]++r[i];rw[Fo];simp
theorem D6i{ls:Am}(h:0<ls.length):I8 (ls.take 1)=ls[0]:=by
 match ls,h with
 |l::r,_=>simp[I8]
theorem D6P(r:Aa):((E7 r).head? ==some 10)=(r.head? ==some 10):=by
 fun_cases E7 r with
 |case1 r=>rfl
 |case2 c r h=>rfl
 |case3=>rfl
theorem A4Z(c:Int)(r:Aa):N3 (c::r)=if c=10 then true else if c=13 then !(r.head? ==some 10)else false:=by
 by_cases h1:c=10
 ·subst h1;rfl
 ·rw[At h1];by_cases h2:c=13
  ·subst h2;rfl
  ·rw[At h2];unfold N3;split
   ·rename_i bN;simp only[Bm]at bN;exact absurd bN.1 h1
   ·rename_i bN;simp only[Bm]at bN;exact absurd bN.1 h2
   ·rfl
theorem D23{x y:Aa}(h:x<+:y)(hx:L4 y=false):L4 x=false:=by
 cases hq:L4 x with
 |false=>rfl
 |true=>
  obtain⟨z,rfl⟩:=h;obtain⟨r,rfl⟩:=A4C.1 hq;rw[show L4 (92::34::34::34::r++z)=true from rfl]at hx;cases hx
theorem A4n(cur:Aa)(c:Int)(r:Aa)(h1:c≠10)(h2:c≠13):I3 cur (c::r)=I3 (cur++[c]) r:=by
 rw[V8,A4Z,At h1,At h2];simp[h2]
theorem D5O:∀(l cur kx:Aa),(∀x,x<+:l->E7 (cur++x)=kx++E7 x)->I3 kx (E7 l)=(I3 cur l).map E7:=by
 intro l
 fun_induction E7 l with
 |case1 r ih=>
  intro cur kx h;rw[A4n _ _ _ (by decide) (by decide),A4n _ _ _ (by decide) (by decide),A4n _ _ _ (by decide) (by decide),
   A4n cur _ _ (by decide) (by decide),A4n _ _ _ (by decide) (by decide),A4n _ _ _ (by decide) (by decide),A4n _ _ _ (by decide) (by decide)]
  refine ih _ _ (λx hx=>?_);have:=h (92::34::34::34::x) (by simpa using hx);rw[B8T]at this;simpa using this
 |case2 c r av ih=>
  intro cur kx h;have he:L4 (c::r)=false:=by
   cases hq:L4 (c::r)with
   |false=>rfl
   |true=>
    obtain⟨r',hr⟩:=A4C.1 hq;simp only[Bm]at hr;exact absurd hr.2 (λe=>av r' hr.1 e)
  have dh:N3 (c::E7 r)=N3 (c::r):=by rw[A4Z,A4Z,D6P]
  rw[V8,V8,dh];cases hq:N3 (c::r)with
  |true=>
   simp only[if_true,Ci];rw[ih [] [] (λx _=>rfl)];have:=h [] (Hf);rw[Bx,show E7 []=[]from rfl,Bx]at this;rw[this]
  |false=>
   simp only[Fq,if_false];by_cases hc:c=13
   ·rw[Au hc,Au hc];subst hc;have fg:r.head? =some 10:=by
     rw[A4Z]at hq;simpa using hq
    match r,fg with
    |10::r',_=>
     have rG:=ih [] [] (λx _=>rfl);have ea:E7 (10::r')=10::E7 r':=B6n (by rw[B1q];rfl);rw[ea]at rG ⊢;rw[V8,show N3 (10::E7 r')=true from rfl,V8,show N3 (10::r')=true from rfl]at rG ⊢;simp only[if_true,Ci,Bm]at rG ⊢;refine⟨?_,rG.2⟩;have:=h [] (Hf);rw[Bx,show E7 []=[]from rfl,Bx]at this;exact this.symm
   ·rw[At hc,At hc];refine ih _ _ (λx hx=>?_);have vZ:c::x<+:c::r:=by simpa using hx
    have:=h (c::x) vZ;rw[B6n (D23 vZ he)]at this;simpa using this
 |case3=>
  intro cur kx h;have:=h [] (Hf);rw[Bx,show E7 []=[]from rfl,Bx]at this;simp[I3,this]
theorem D2K(l:Aa):B3 (E7 l)=(B3 l).map E7:=D5O l [] [] (λx _=>rfl)
theorem C0J(l:Aa):W7 l=if Q9 l&&A3t (Y5 0 l)then((J4 (I8 (J7 (B3 (E7 l))))).1,0)else([],60):=rfl
theorem D5K{ls:Am}(h1:K8 ls<=1073741824)(h2:ls.length<=1073741825){n:Nat}(hn:ls.length<n){body:S6->(Ex->S6->Ad)->Ad}{k:Ex->S6->Ad}{st:Aa->Int->S6}
  (kp:∀(out:Aa)(i:Nat),ls.length<=i->D3 out=true->∀K:Ex->S6->Ad,(∀j s,K (.exit j) s=k (.exit j) s)->body (st out i) K=some (.tup [.str (J4 out).1,.int .i64 0]))
  (bm:∀(out:Aa)(i:Nat)(h:i<ls.length),A2 (out.length+1) 4=true->A2 ((out++[10]).length+ls[i].length) 4=true->A2 (out.length+ls[i].length) 4=true->∀K:Ex->S6->Ad,
   body (st out i) K=K .normal (st (if 0<i then(out++[10])++ls[i]else out++ls[i]) ((i+1:Nat):Int))):
  D1 body n (st [] 0) k=some (.tup [.str (J4 (I8 ls)).1,.int .i64 0]):=by
 refine(H9 (λi:Nat=>st (I8 (ls.take i)) i) (λi=>i<=ls.length) (λi=>ls.length - i) (λi=>(some (.tup [.str (J4 (I8 ls)).1,.int .i64 0]):Ad)) ?_ n 0 (Bh _) (by omega));intro i hi K a8 bH aU;have hj:=B86 (ls.take i);have ht:=B1M (Jj i ls);have hl:(ls.take i).length<=i:=Fk _ _;by_cases h:i<ls.length
 ·have hm:=B1m (Bp h);rw[bm _ i h (G9.2 (by omega)) (G9.2 (by simp;omega)) (G9.2 (by omega)) K];have:(if 0<i then(I8 (ls.take i)++[10])++ls[i]else I8 (ls.take i)++ls[i])=I8 (ls.take (i+1)):=by
   by_cases h0:0<i
   ·rw[Au h0,D1e h h0]
   ·have:i=0:=by omega
    subst this;rw[At h0,D6i h];rfl
  rw[this];exact aU (i+1) (by omega) (by omega)
 ·rw[kp _ i (by omega) (T9.2 (by omega)) K a8,Bq (by omega)]
theorem D5L{l:Aa}(hl:smL l=true):K8 (J7 (B3 (E7 l)))<=1073741824/\(J7 (B3 (E7 l))).length<=l.length+1:=by
 have h0:=Z5 hl;have h1:=B24 l;have h2:=A8D (E7 l);have h3:=C3H (B3 (E7 l));omega
theorem C6r(l:Aa)(hl:smL l=true)(n:Nat)(hn:l.length+2<n):A3 E23 n Ch [.sl .i32 l none]=some (.tup [.str (W7 l).1,.int .i64 (W7 l).2]):=by
 have aj:=Z5 hl;rw[C8u,hl,Ap,C0J];have hb:A8f 0 l=(Q9 l&&A3t (Y5 0 l)):=rfl;rw[hb];cases hm:Q9 l&&A3t (Y5 0 l)with
 |false=>rfl
 |true=>
  have h1:=A8D l;have h3:=D5L hl;rw[D2K]at h3 ⊢;rw[Au rfl];show D1 _ n _ _=_;refine(H9 (λi:Nat=>B0R (B3 l) (((B3 l).take i).map E7) i) (λi=>i<=(B3 l).length) (λi=>(B3 l).length - i) (λi=>(some (.tup [.str (J4 (I8 (J7 ((B3 l).map E7)))).1,.int .i64 0]):Ad)) ?_ n 0 (Bh _) (by omega));intro i hi K a8 bH aU;rw[D1A];by_cases h:i<(B3 l).length
  ·have hm:=B1m (Bp h);rw[Ar (by omega:(i:Int)<((B3 l).length:Int)),Ap,D9 h,I9 (by omega)];dsimp only;rw[A8G.2 (by omega),G9.2 (by rw[Fl,Ck];omega)];have e:((B3 l).take i).map E7++[E7 (B3 l)[i]]=((B3 l).take (i+1)).map E7:=by
    rw[Cc h,List.map_append];rfl
   rw[e];exact aU (i+1) (by omega) (by omega)
  ·rw[As (by omega:¬(i:Int)<((B3 l).length:Int)),Aq,a8,C5Z,Bq (by omega)];have h2:=C1E B24 (B3 l);rw[C0i (by omega) (by rw[Fl];omega),Ap];generalize J7 ((B3 l).map E7)=ls at h3;refine D5K (n:=n) h3.1 (by omega) (by omega) (st:=λout i=>A8H ls out i) (λout i hi ho K a8=>?_) (λout i h r1 r2 r3 K=>?_)
   ·rw[B9B,As (by omega:¬(i:Int)<(ls.length:Int)),Aq,a8,D0F,ho];rfl
   ·rw[B9B,Ar (by omega:(i:Int)<(ls.length:Int)),Ap,D9 h,I9 (by omega)];dsimp only;rw[r1,r2,r3];by_cases h0:0<i
    ·rw[Ar (by omega:(i:Int)>0),Au h0];rfl
    ·rw[As (by omega:¬(i:Int)>0),At h0];rfl
theorem C6Q{a b:Int}(h:(M2 a b).2=true):D5 (M2 a b).1=true:=by
 unfold M2 at h ⊢;split at h
 ·cases h
 ·rename_i hc;rw[At hc];simp at hc;rw[V2];dsimp only;omega
theorem D4S{l:Aa}(h:(W0 l).2≠0):D5 (W0 l).1=true:=by
 have hr:=C6K l;by_cases c1:E9 l<0\/(56320<=E9 l/\E9 l<=57343)
 ·rw[B3b l c1]at h;exact absurd rfl h
 by_cases c2:E9 l<55296\/57343<E9 l
 ·rw[B6a l (by omega) c2,V2];dsimp only;omega
 ·rw[C4j l (by omega) (by omega) (by omega)]at h ⊢;by_cases c3:10<=l.length/\l[4]?=some 92/\l[5]?=some 117/\(M2 (E9 l) (E9 (l.drop 6))).2=true
  ·rw[Au c3];exact C6Q c3.2.2.2
  ·rw[At c3]at h;exact absurd rfl h
theorem D0N{c:Int}(h:0<=O7 c):D5 (O7 c)=true:=by
 rcases (D3d c).1 h with rfl|rfl|rfl|rfl|rfl|rfl|rfl|rfl<;>decide
theorem B8D{c:Int}(h:L8 c=true):D5 c=true:=by
 unfold L8 at h;rw[V2];split at h
 ·simp at h;omega
 ·simp at h;omega
theorem D0A{l:Aa}(h:(J6 l).2≠0):D5 (J6 l).1=true:=by
 cases l with
 |nil=>exact absurd rfl h
 |cons c r=>
  have hp:J6 (c::r)=if A0a c then(c,1)else if c=92 then A1A (c::r)else(0,0):=rfl
  rw[hp]at h ⊢;by_cases c1:A0a c=true
  ·rw[Au c1];refine B8D ?_;unfold A0a at c1;simp only[Bn]at c1;exact c1.1.1.1.1
  ·rw[At c1]at h ⊢;by_cases c2:c=92
   ·rw[Au c2]at h ⊢;by_cases h2:(c::r).length<2
    ·rw[B5g h2]at h;exact absurd rfl h
    rw[C1G 0 _ (by omega)]at h ⊢;by_cases c3:0<=O7 (c::r)[1]
    ·rw[Au c3];exact D0N c3
    ·rw[At c3]at h ⊢;by_cases c4:(c::r)[1]=117
     ·rw[Au c4]at h ⊢;exact D4S h
     ·rw[At c4]at h;exact absurd rfl h
   ·rw[At c2]at h;exact absurd rfl h
theorem quotedL_valid:∀(n:Nat)(l va:Aa),l.length<=n->A1v l=some va->va.all D5=true/\va.length<=l.length:=by
 intro n
 induction n with
 |zero=>
  intro l va hl h;have:l=[]:=Fc (by omega);subst this;rw[B61]at h;cases h;exact⟨rfl,Bg _⟩
 |succ n ih=>
  intro l va hl h;by_cases av:l=[]
  ·subst av;rw[B61]at h;cases h;exact⟨rfl,Bg _⟩
  ·rw[C0H av]at h;have hr:=B15 l;by_cases hp:(J6 l).2=0
   ·rw[Au hp]at h;cases h
   ·rw[At hp]at h;obtain⟨v,hv,rfl⟩:=Jb.1 h;have cH:0<l.length:=Dl.2 av;obtain⟨i1,i2⟩:=ih _ v (by rw[Bb];omega) hv;rw[Bb]at i2;exact⟨by rw[By,D0A hp,i1];rfl,by simp;omega⟩
theorem A8e{l:Aa}(h:l.all D5=true):J4 l=(B2 l,true):=by unfold J4;rw[Au h]
theorem A2e(a b:Aa):B2 (a++b)=B2 a++B2 b:=by unfold B2 toB;simp
theorem A3n(l:Aa):(B2 l).length<=4*l.length:=by
 have:=flat_u8F_len l;unfold B2 toB;rw[Fl];exact this
def B59:T6:=λf ls=>match f with
 |194=>S41 ls
 |219=>S27 ls
 |_=>none
def A2F:Env Ty6 A4:=mk6 B59 noC (lkE [(0,[2]),(1,[5,6,7,8,9,10,11,12,13,14,15,16]),(2,[0,17]),(3,[17,18,19]),(4,[0,20]),(5,[0,20]),(7,[24,25,26]),(8,[4,27,28,29,30,31,32,33,34,35]),(9,[21,22,23,36]),(10,[36,37]),(11,[21,22,23,24])]) 38
def A7H(fP:Am)(eV:Int)(eB:Int):S6:=⟨[(21,.one (.sl .rs fP none)),(22,.one (.int .i64 eV)),(23,.one (.int .i64 eB))],[]⟩
theorem D8s(n:Nat)(a0:Am):A3 A2F n Ep [.sl .rs a0 none]=
  match idx a0 0 with|none=>none|some y1=>(bif D3 y1 then(bif(B4 y1)==false then(match idx a0 (Aw .i64 ((Ax a0:Int) - 1))with|none=>none|some y2=>(bif D3 y2 then(bif B4 y2 then(some (.one (.bool false)))else(bif(Ax a0:Int)==1 then(some (.one (.bool true)))else(D1 (lbC A2F (A1 Ep [1,1,1,0,1,0,0]) 10006 n) n (A7H a0 (Ax a0:Int) 0) (A5 0 (C1 (B1 A2F n (A1 Ep [1,1,1,1])) (A9 A2F Tryz.f193.results.toList))))))else none))else(some (.one (.bool false))))else none):=by
 kernel_rfl
theorem C8r(n:Nat)(fP:Am)(eV:Int)(eB:Int)(K:Ex->S6->Ad):lbC A2F (A1 Ep [1,1,1,0,1,0,0]) 10006 n (A7H fP eV eB) K=
  bif decide (eB<eV)then(match idx fP eB with|none=>none|some y3=>(bif D3 y3 then(bif(!(B4 y3))==true then(match idx y3 0 with|none=>none|some y4=>(bif !(K4 y4)then(K .ret ⟨[(2,.one (.bool true))],[]⟩)else(K .normal (A7H fP eV (Aw .i64 (eB+1))))))else(K .normal (A7H fP eV (Aw .i64 (eB+1)))))else none))else(K (.exit 0) ⟨[(21,.one (.sl .rs fP none)),(22,.one (.int .i64 eV)),(23,.one (.int .i64 eB)),(24,.one (.bool (decide (eB<eV))))],[]⟩):=by
 kernel_rfl
theorem C7U(n:Nat)(fP:Am)(eV:Int)(eB:Int)(gV:Bool):(A5 0 (C1 (B1 A2F n (A1 Ep [1,1,1,1])) (A9 A2F Tryz.f193.results.toList))) (.exit 0) ⟨[(21,.one (.sl .rs fP none)),(22,.one (.int .i64 eV)),(23,.one (.int .i64 eB)),(24,.one (.bool gV))],[]⟩=
  some (.one (.bool false)):=by
 kernel_rfl
def B53:T6:=λf ls=>match f with
 |224=>S30 ls
 |225=>S42 ls
 |_=>none
def A2m:Env Ty6 A4:=mk6 B53 noC (lkE [(0,[2]),(1,[7,8,9,10]),(2,[11,12,13,14,15,16,17]),(3,[3,4,18,19,20]),(4,[0,21]),(5,[21]),(6,[22,23,24]),(7,[26,27,42]),(8,[25,28,29,30,31,32]),(9,[6,33,34,35,36,37,38,39,40,41]),(10,[0,5,42]),(11,[0,5,25,43,44,45])]) 46
def A82(x0:Am)(x5:Int):S6:=⟨[(0,.one (.sl .rs x0 none)),(5,.one (.int .i64 x5))],[]⟩
theorem C7G(n:Nat)(a0:Am):A3 A2m n Em [.sl .rs a0 none]=
  match idx a0 0 with|none=>none|some y1=>(bif D3 y1 then(match idx a0 (Aw .i64 ((Ax a0:Int) - 1))with|none=>none|some y2=>(bif D3 y2 then(bif(B4 y1)==false then(bif B4 y2 then(some (.one (.bool false)))else(D1 (lbC A2m (A1 Em [1,1,1,1,0,1,0,0]) 10006 n) n (A82 a0 0) (A5 0 (C1 (B1 A2m n (A1 Em [1,1,1,1,1])) (A9 A2m Tryz.f199.results.toList)))))else(some (.one (.bool false))))else none))else none):=by
 kernel_rfl
theorem D0k(n:Nat)(x0:Am)(x5:Int)(K:Ex->S6->Ad):lbC A2m (A1 Em [1,1,1,1,0,1,0,0]) 10006 n (A82 x0 x5) K=
  bif decide (x5<(Ax x0:Int))then(match idx x0 x5 with|none=>none|some y3=>(bif D3 y3 then(bif((G6 y3)==0)==true then(match idx x0 x5 with|none=>none|some y4=>(bif decide ((Ax y4:Int)>0)then(K .ret ⟨[(2,.one (.bool true))],[]⟩)else(K .normal (A82 x0 (Aw .i64 (x5+1))))))else(K .normal (A82 x0 (Aw .i64 (x5+1)))))else none))else(K (.exit 0) ⟨[(0,.one (.sl .rs x0 none)),(5,.one (.int .i64 x5)),(25,.one (.bool (decide (x5<(Ax x0:Int)))))],[]⟩):=by
 kernel_rfl
theorem D1s(n:Nat)(x0:Am)(x5:Int)(im:Bool):(A5 0 (C1 (B1 A2m n (A1 Em [1,1,1,1,1])) (A9 A2m Tryz.f199.results.toList))) (.exit 0) ⟨[(0,.one (.sl .rs x0 none)),(5,.one (.int .i64 x5)),(25,.one (.bool im))],[]⟩=
  some (.one (.bool ((Ax x0:Int)==1))):=by
 kernel_rfl
def A2C:Env Ty6 A4:=mk6 noT noC (lkE [(0,[2]),(3,[5,6,7]),(4,[8,9,10,11,12,13,14,15,16,17,18,19,20,21,22,23,24,25,26,27,28,29,30,31,32,33,34,35]),(5,[36,37,38,39]),(6,[40,41]),(7,[36,42,43,44,45,46,47,48]),(8,[49,50]),(9,[0,3,4,8,51])]) 52
def A2y(x0:Aa)(x3:Aa)(x4:Int):S6:=⟨[(0,.one (.sl .i32 x0 none)),(3,.one (.sl .i32 x3 (some 103))),(4,.one (.int .i64 x4))],[103]⟩
theorem D2n(n:Nat)(a0:Aa):A3 A2C n El [.sl .i32 a0 none]=
  D1 (lbC A2C (A1 El [1,1,1,0,0,0]) 10003 n) n (A2y a0 [] 0) (A5 0 (C1 (B1 A2C n (A1 El [1,1,1,1])) (A9 A2C Tryz.f201.results.toList))):=by
 kernel_rfl
theorem C6W(n:Nat)(x0:Aa)(x3:Aa)(x4:Int)(K:Ex->S6->Ad):lbC A2C (A1 El [1,1,1,0,0,0]) 10003 n (A2y x0 x3 x4) K=
  bif decide (x4<(Ax x0:Int))then(bif(decide ((Aw .i64 (x4+2))<(Ax x0:Int)))==true then(match idx x0 x4 with|none=>none|some y1=>(bif(y1==34)==true then(match idx x0 (Aw .i64 (x4+1))with|none=>none|some y2=>(bif(y2==34)==true then(match idx x0 (Aw .i64 (x4+2))with|none=>none|some y3=>(bif y3==34 then(bif A2 (Ax x3+4) 4 then(K .normal (A2y x0 (x3++[92,34,34,34]) (Aw .i64 (x4+3))))else none)else(match idx x0 x4 with|none=>none|some y4=>(bif A2 (Ax x3+1) 4 then(K .normal (A2y x0 (x3++[y4]) (Aw .i64 (x4+1))))else none))))else(match idx x0 x4 with|none=>none|some y5=>(bif A2 (Ax x3+1) 4 then(K .normal (A2y x0 (x3++[y5]) (Aw .i64 (x4+1))))else none))))else(match idx x0 x4 with|none=>none|some y6=>(bif A2 (Ax x3+1) 4 then(K .normal (A2y x0 (x3++[y6]) (Aw .i64 (x4+1))))else none))))else(match idx x0 x4 with|none=>none|some y7=>(bif A2 (Ax x3+1) 4 then(K .normal (A2y x0 (x3++[y7]) (Aw .i64 (x4+1))))else none)))else(K (.exit 0) ⟨[(0,.one (.sl .i32 x0 none)),(3,.one (.sl .i32 x3 (some 103))),(4,.one (.int .i64 x4)),(8,.one (.bool (decide (x4<(Ax x0:Int)))))],[103]⟩):=by
 kernel_rfl
theorem C6t(n:Nat)(x0:Aa)(x3:Aa)(x4:Int)(x8:Bool):(A5 0 (C1 (B1 A2C n (A1 El [1,1,1,1])) (A9 A2C Tryz.f201.results.toList))) (.exit 0) ⟨[(0,.one (.sl .i32 x0 none)),(3,.one (.sl .i32 x3 (some 103))),(4,.one (.int .i64 x4)),(8,.one (.bool x8))],[103]⟩=
  some (.one (.sl .i32 x3 (some 1))):=by
 kernel_rfl
def B4z:T6:=λf ls=>match f with
 |190=>B0H ls
 |191=>S32 ls
 |192=>S37 ls
 |193=>B5Z ls
 |194=>S41 ls
 |195=>S51 ls
 |196=>S33 ls
 |_=>none
def K3:Env Ty6 A4:=mk6 B4z noC (lkE [(0,[2,3]),(1,[13]),(2,[0,14]),(3,[14,15,16,17,18,19]),(4,[0,5,20,21,22]),(5,[4,23]),(6,[23]),(8,[27,28,29]),(9,[7,30,31,32,33,34,35]),(10,[4,24,25,26,36]),(11,[36,37]),(12,[24,25,26,27,38,39]),(13,[40,41]),(14,[4,8,42]),(15,[42,43]),(16,[8,44,45,46,47,48,49,50,51,52]),(17,[53,54,55,56]),(18,[53]),(19,[57,58,59]),(20,[61,62]),(21,[60,63,64,65]),(22,[66,67,68,69]),(23,[70,71]),(24,[66,72,73,74,75,76,77,78]),(25,[4,9,10,12,60,79,80,81,82,83,84,85]),(26,[11,86])]) 87
def A51(x4:Aa)(gV:Aa)(im:Int)(dA:Int):S6:=⟨[(4,.one (.sl .i32 x4 (some 1017))),(24,.one (.sl .i32 gV (some 1017))),(25,.one (.int .i64 im)),(26,.one (.int .i64 dA))],[1017]⟩
def A3R(x4:Aa)(x9:Aa)(aC:Int):S6:=⟨[(4,.one (.sl .i32 x4 (some 1017))),(9,.one (.sl .i32 x9 (some 143))),(10,.one (.int .i64 aC))],[143,1017]⟩
theorem B4K(n:Nat)(a0:Ab):A3 K3 n Bu [.str a0]=
  bif a0==[]then(some (.tup [.str [34,34,34,34,34,34],.bool true]))else(bif smS a0 then(bif decide ((((C5 a0).2:Nat):Int)<(Ax a0:Int))then(some (.tup [.str [],.bool false]))else(D1 (lbC K3 (A1 Bu [1,1,1,1,0,1,0,0]) 10007 n) n (A51 ((C5 a0).1) ((C5 a0).1) (Ax ((C5 a0).1):Int) 0) (A5 0 (C1 (B1 K3 n (A1 Bu [1,1,1,1,1])) (A9 K3 Tryz.f155.results.toList)))))else none):=by
 kernel_rfl
theorem D2p(n:Nat)(x4:Aa)(gV:Aa)(im:Int)(dA:Int)(K:Ex->S6->Ad):lbC K3 (A1 Bu [1,1,1,1,0,1,0,0]) 10007 n (A51 x4 gV im dA) K=
  bif decide (dA<im)then(match idx gV dA with|none=>none|some y1=>(bif(!(L8 y1))==false then(bif y1==13 then(K .ret ⟨[(2,.one (.str [])),(3,.one (.bool false))],[]⟩)else(K .normal (A51 x4 gV im (Aw .i64 (dA+1)))))else(K .ret ⟨[(2,.one (.str [])),(3,.one (.bool false))],[]⟩)))else(K (.exit 0) ⟨[(4,.one (.sl .i32 x4 (some 1017))),(24,.one (.sl .i32 gV (some 1017))),(25,.one (.int .i64 im)),(26,.one (.int .i64 dA)),(27,.one (.bool (decide (dA<im))))],[1017]⟩):=by
 kernel_rfl
theorem D5M(n:Nat)(x4:Aa)(gV:Aa)(im:Int)(dA:Int)(dQ:Bool):(A5 0 (C1 (B1 K3 n (A1 Bu [1,1,1,1,1])) (A9 K3 Tryz.f155.results.toList))) (.exit 0) ⟨[(4,.one (.sl .i32 x4 (some 1017))),(24,.one (.sl .i32 gV (some 1017))),(25,.one (.int .i64 im)),(26,.one (.int .i64 dA)),(27,.one (.bool dQ))],[1017]⟩=
  bif smL x4 then(bif L3 (B3 x4)&&decide (1<=Ax (B3 x4))then(bif !(S5 (B3 x4))then(some (.tup [.str [],.bool false]))else(bif(decide ((Ax (B3 x4):Int)>1))==false then(match idx x4 0 with|none=>none|some y2=>(bif !(K4 y2)then(bif A2 (3+1) 4 then(D1 (lbC K3 (A1 Bu [1,1,1,1,1,1,1,1,1,0,1,0,0]) 10019 n) n (A3R x4 ([34,34,34]++[10]) 0) (A5 2 (C1 (B1 K3 n (A1 Bu [1,1,1,1,1,1,1,1,1,1])) (A9 K3 Tryz.f155.results.toList))))else none)else(D1 (lbC K3 (A1 Bu [1,1,1,1,1,1,1,1,1,0,1,0,0]) 10019 n) n (A3R x4 [34,34,34] 0) (A5 2 (C1 (B1 K3 n (A1 Bu [1,1,1,1,1,1,1,1,1,1])) (A9 K3 Tryz.f155.results.toList))))))else(bif A2 (3+1) 4 then(D1 (lbC K3 (A1 Bu [1,1,1,1,1,1,1,1,1,0,1,0,0]) 10019 n) n (A3R x4 ([34,34,34]++[10]) 0) (A5 2 (C1 (B1 K3 n (A1 Bu [1,1,1,1,1,1,1,1,1,1])) (A9 K3 Tryz.f155.results.toList))))else none)))else none)else none:=by
 kernel_rfl
theorem C8I(n:Nat)(x4:Aa)(x9:Aa)(aC:Int)(K:Ex->S6->Ad):lbC K3 (A1 Bu [1,1,1,1,1,1,1,1,1,0,1,0,0]) 10019 n (A3R x4 x9 aC) K=
  bif decide (aC<(Ax x4:Int))then(match sub x4 aC (Ax x4:Int)with|none=>none|some y3=>(bif D3 y3 then(bif J9 y3 then(bif A2 (Ax x9+4) 4 then(K .normal (A3R x4 (x9++[92,34,34,34]) (Aw .i64 ((Aw .i64 (aC+2))+1))))else none)else(match idx x4 aC with|none=>none|some y4=>(bif A2 (Ax x9+1) 4 then(K .normal (A3R x4 (x9++[y4]) (Aw .i64 (aC+1))))else none)))else none))else(K (.exit 2) ⟨[(4,.one (.sl .i32 x4 (some 1017))),(9,.one (.sl .i32 x9 (some 143))),(10,.one (.int .i64 aC)),(60,.one (.bool (decide (aC<(Ax x4:Int)))))],[143,1017]⟩):=by
 kernel_rfl
theorem D2H(n:Nat)(x4:Aa)(x9:Aa)(aC:Int)(xR:Bool):(A5 2 (C1 (B1 K3 n (A1 Bu [1,1,1,1,1,1,1,1,1,1])) (A9 K3 Tryz.f155.results.toList))) (.exit 2) ⟨[(4,.one (.sl .i32 x4 (some 1017))),(9,.one (.sl .i32 x9 (some 143))),(10,.one (.int .i64 aC)),(60,.one (.bool xR))],[143,1017]⟩=
  bif A2 (Ax x9+4) 4 then(bif D3 (x9++[10,34,34,34])then(some (.tup [.str ((J4 (x9++[10,34,34,34])).1),.bool true]))else none)else none:=by
 kernel_rfl
def B3g:T6:=λf ls=>match f with
 |52=>S223 ls
 |121=>S53 ls
 |125=>S35 ls
 |198=>S39 ls
 |199=>B58 ls
 |200=>S56 ls
 |201=>B4W ls
 |_=>none
def L2:Env Ty6 A4:=mk6 B3g noC (lkE [(0,[2,3]),(1,[16,17,18,19,20,21]),(2,[5,22,23,24]),(3,[0,4,25]),(4,[25]),(5,[26,27,28]),(6,[30,31,45]),(7,[29,32,33,34,35,36]),(8,[7,37,38,39,40,41,42,43,44]),(9,[0,4,6,45]),(10,[6,29]),(11,[0,46]),(12,[4,8,47,48,49,50]),(13,[4,47,51,52]),(14,[53,54]),(15,[10,55]),(16,[8,9,56]),(17,[56,57]),(18,[58,59,60,61,62,63,64,65,66,67,68]),(19,[69,70,71]),(20,[69]),(21,[72,73,74]),(22,[76,77]),(23,[75,78,79,80,81,82]),(24,[13,15,83,84,85,86,87]),(25,[14,88,89,90,91]),(26,[8,9,11,12,75,92,93,94])]) 95
def A70(x0:Ab)(x4:Aa)(x6:Int):S6:=⟨[(0,.one (.str x0)),(4,.one (.sl .i32 x4 (some 1019))),(6,.one (.int .i64 x6))],[1019]⟩
def A2j(x8:Ab)(x9:Am)(cM:Ab)(cN:Int):S6:=⟨[(8,.one (.str x8)),(9,.one (.sl .rs x9 (some 1052))),(11,.one (.str cM)),(12,.one (.int .i64 cN))],[1052]⟩
theorem B4w(n:Nat)(a0:Ab):A3 L2 n Br [.str a0]=
  bif A2 (Ax a0) 1 then(bif isB (Cj (λ(c:UInt8)=>(c.toNat:Int)) a0)&&smL (Cj (λ(c:UInt8)=>(c.toNat:Int)) a0)then(bif(((C5 (toB (Cj (λ(c:UInt8)=>(c.toNat:Int)) a0))).2:Nat):Int) !=(Ax a0:Int)then(some (.tup [.str [],.bool false]))else(D1 (lbC L2 (A1 Br [1,1,1,0,1,0,0]) 10005 n) n (A70 a0 ((C5 (toB (Cj (λ(c:UInt8)=>(c.toNat:Int)) a0))).1) 0) (A5 0 (C1 (B1 L2 n (A1 Br [1,1,1,1])) (A9 L2 Tryz.f163.results.toList)))))else none)else none:=by
 kernel_rfl
theorem C2E(n:Nat)(x0:Ab)(x4:Aa)(x6:Int)(K:Ex->S6->Ad):lbC L2 (A1 Br [1,1,1,0,1,0,0]) 10005 n (A70 x0 x4 x6) K=
  bif decide (x6<(Ax x4:Int))then(match idx x4 x6 with|none=>none|some y1=>(bif(!(L8 y1))==false then(match idx x4 x6 with|none=>none|some y2=>(bif y2==13 then(K .ret ⟨[(2,.one (.str [])),(3,.one (.bool false))],[]⟩)else(K .normal (A70 x0 x4 (Aw .i64 (x6+1))))))else(K .ret ⟨[(2,.one (.str [])),(3,.one (.bool false))],[]⟩)))else(K (.exit 0) ⟨[(0,.one (.str x0)),(4,.one (.sl .i32 x4 (some 1019))),(6,.one (.int .i64 x6)),(29,.one (.bool (decide (x6<(Ax x4:Int)))))],[1019]⟩):=by
 kernel_rfl
theorem C5j(n:Nat)(x0:Ab)(x4:Aa)(x6:Int)(qk:Bool):(A5 0 (C1 (B1 L2 n (A1 Br [1,1,1,1])) (A9 L2 Tryz.f163.results.toList))) (.exit 0) ⟨[(0,.one (.str x0)),(4,.one (.sl .i32 x4 (some 1019))),(6,.one (.int .i64 x6)),(29,.one (.bool qk))],[1019]⟩=
  bif x0==[]then(bif decide (Ax [34,34,34]+Ax [34,34,34]<=9223372036854775807)then(some (.tup [.str ([34,34,34]++[34,34,34]),.bool true]))else none)else(bif smL x4 then(bif L3 (B3 x4)&&decide (1<=Ax (B3 x4))then(bif !(S5 (B3 x4))then(some (.tup [.str [],.bool false]))else(bif(decide ((Ax (B3 x4):Int)>1))==false then(match idx (B3 x4) 0 with|none=>none|some y3=>(match idx y3 0 with|none=>none|some y4=>(bif !(K4 y4)then(bif decide (Ax [34,34,34]+Ax [10]<=9223372036854775807)then(D1 (lbC L2 (A1 Br [1,1,1,1,1,1,1,1,1,1,1,0,1,0,0]) 10021 n) n (A2j [34,34,34] (B3 x4) ([34,34,34]++[10]) 0) (A5 2 (C1 (B1 L2 n (A1 Br [1,1,1,1,1,1,1,1,1,1,1,1])) (A9 L2 Tryz.f163.results.toList))))else none)else(D1 (lbC L2 (A1 Br [1,1,1,1,1,1,1,1,1,1,1,0,1,0,0]) 10021 n) n (A2j [34,34,34] (B3 x4) [34,34,34] 0) (A5 2 (C1 (B1 L2 n (A1 Br [1,1,1,1,1,1,1,1,1,1,1,1])) (A9 L2 Tryz.f163.results.toList)))))))else(bif decide (Ax [34,34,34]+Ax [10]<=9223372036854775807)then(D1 (lbC L2 (A1 Br [1,1,1,1,1,1,1,1,1,1,1,0,1,0,0]) 10021 n) n (A2j [34,34,34] (B3 x4) ([34,34,34]++[10]) 0) (A5 2 (C1 (B1 L2 n (A1 Br [1,1,1,1,1,1,1,1,1,1,1,1])) (A9 L2 Tryz.f163.results.toList))))else none)))else none)else none):=by
 kernel_rfl
theorem D8v(n:Nat)(x8:Ab)(x9:Am)(cM:Ab)(cN:Int)(K:Ex->S6->Ad):lbC L2 (A1 Br [1,1,1,1,1,1,1,1,1,1,1,0,1,0,0]) 10021 n (A2j x8 x9 cM cN) K=
  bif decide (cN<(Ax x9:Int))then(match idx x9 cN with|none=>none|some y5=>(bif smL y5 then(bif D3 (maskF y5)then(bif decide (Ax cM+Ax ((J4 (maskF y5)).1)<=9223372036854775807)then(bif decide (Ax (cM++((J4 (maskF y5)).1))+Ax [10]<=9223372036854775807)then(K .normal (A2j x8 x9 ((cM++((J4 (maskF y5)).1))++[10]) (Aw .i64 (cN+1))))else none)else none)else none)else none))else(K (.exit 2) ⟨[(8,.one (.str x8)),(9,.one (.sl .rs x9 (some 1052))),(11,.one (.str cM)),(12,.one (.int .i64 cN)),(75,.one (.bool (decide (cN<(Ax x9:Int)))))],[1052]⟩):=by
 kernel_rfl
theorem D6W(n:Nat)(x8:Ab)(x9:Am)(cM:Ab)(cN:Int)(qm:Bool):(A5 2 (C1 (B1 L2 n (A1 Br [1,1,1,1,1,1,1,1,1,1,1,1])) (A9 L2 Tryz.f163.results.toList))) (.exit 2) ⟨[(8,.one (.str x8)),(9,.one (.sl .rs x9 (some 1052))),(11,.one (.str cM)),(12,.one (.int .i64 cN)),(75,.one (.bool qm))],[1052]⟩=
  bif decide (Ax cM+Ax x8<=9223372036854775807)then(some (.tup [.str (cM++x8),.bool true]))else none:=by
 kernel_rfl
def B2D:T6:=λf ls=>match f with
 |217=>B4k ls
 |_=>none
def A2w:Env Ty6 A4:=mk6 B2D noC (lkE [(0,[2,3]),(1,[0,10]),(3,[11]),(5,[13,14,15,16]),(6,[17]),(7,[8,18,19,20,21,22,23,24,25]),(8,[9,26]),(9,[4,5,6,7,12,27,28,29]),(10,[6,7,18,27,30,31,32,33]),(11,[4,5,12,13,14,34,35,36])]) 37
def A7Q(x4:Ab)(x5:Aa)(cN:Ab)(cg:Nat):S6:=⟨[(4,.one (.str x4)),(5,.one (.sl .i32 x5 (some 105))),(12,.iter cN cg)],[105]⟩
theorem C7d(n:Nat)(a0:Ab):A3 A2w n Es [.str a0]=
  D1 (lbC A2w (A1 Es [1,1,1,0,1,0,0]) 10004 n) n (A7Q a0 [] a0 0) (A5 0 (C1 (B1 A2w n (A1 Es [1,1,1,1])) (A9 A2w Tryz.f190.results.toList))):=by
 kernel_rfl
theorem D02(n:Nat)(x4:Ab)(x5:Aa)(cN:Ab)(cg:Nat)(K:Ex->S6->Ad):lbC A2w (A1 Es [1,1,1,0,1,0,0]) 10004 n (A7Q x4 x5 cN cg) K=
  bif decide (cg<Ax cN)then(bif((Dp ⟨cN.toArray⟩ cg).1:Int)==65533 then(match sub x4 (cg:Int) (Ax x4:Int)with|none=>none|some y1=>(bif true then(bif((dgF y1).2)==1 then(K .ret ⟨[(2,.one (.sl .i32 x5 (some 105))),(3,.one (.int .i64 (cg:Int)))],[105]⟩)else(bif A2 (Ax x5+1) 4 then(K .normal (A7Q x4 (x5++[((Dp ⟨cN.toArray⟩ cg).1:Int)]) cN (cg+(Dp ⟨cN.toArray⟩ cg).2)))else none))else none))else(bif A2 (Ax x5+1) 4 then(K .normal (A7Q x4 (x5++[((Dp ⟨cN.toArray⟩ cg).1:Int)]) cN (cg+(Dp ⟨cN.toArray⟩ cg).2)))else none))else(K (.exit 0) ⟨[(4,.one (.str x4)),(5,.one (.sl .i32 x5 (some 105))),(12,.iter cN cg),(13,.tup [.bool false]),(14,.one (.bool false))],[105]⟩):=by
 kernel_rfl
theorem D2G(n:Nat)(x4:Ab)(x5:Aa)(cN:Ab)(cg:Nat):(A5 0 (C1 (B1 A2w n (A1 Es [1,1,1,1])) (A9 A2w Tryz.f190.results.toList))) (.exit 0) ⟨[(4,.one (.str x4)),(5,.one (.sl .i32 x5 (some 105))),(12,.iter cN cg),(13,.tup [.bool false]),(14,.one (.bool false))],[105]⟩=
  some (.tup [.sl .i32 x5 (some 1),.int .i64 (Ax x4:Int)]):=by
 kernel_rfl
def A2J:Env Ty6 A4:=mk6 noT noC (lkE [(0,[4]),(1,[6,7,8,9]),(2,[0,1,10]),(3,[10]),(4,[11,12,13]),(5,[15,16,25]),(6,[14,17,18,19,20,21,22,23,24]),(7,[0,1,5,25]),(8,[0,1,5,14])]) 26
def B1V(x0:Aa)(x1:Aa)(x5:Int):S6:=⟨[(0,.one (.sl .u8 x0 none)),(1,.one (.sl .u8 x1 none)),(5,.one (.int .i64 x5))],[]⟩
theorem C7K(n:Nat)(a0:Aa)(a1:Aa):A3 A2J n Eu [.sl .u8 a0 none,.sl .u8 a1 none]=
  bif(Ax a0:Int) !=(Ax a1:Int)then(some (.one (.bool false)))else(D1 (lbC A2J (A1 Eu [1,1,0,1,0,0]) 10004 n) n (B1V a0 a1 0) (A5 0 (C1 (B1 A2J n (A1 Eu [1,1,1])) (A9 A2J Tryz.f173.results.toList)))):=by
 kernel_rfl
theorem D0o(n:Nat)(x0:Aa)(x1:Aa)(x5:Int)(K:Ex->S6->Ad):lbC A2J (A1 Eu [1,1,0,1,0,0]) 10004 n (B1V x0 x1 x5) K=
  bif decide (x5<(Ax x0:Int))then(match idx x0 x5 with|none=>none|some y1=>(match idx x1 x5 with|none=>none|some y2=>(bif y1 !=y2 then(K .ret ⟨[(4,.one (.bool false))],[]⟩)else(K .normal (B1V x0 x1 (Aw .i64 (x5+1)))))))else(K (.exit 0) ⟨[(0,.one (.sl .u8 x0 none)),(1,.one (.sl .u8 x1 none)),(5,.one (.int .i64 x5)),(14,.one (.bool (decide (x5<(Ax x0:Int)))))],[]⟩):=by
 kernel_rfl
theorem C95(n:Nat)(x0:Aa)(x1:Aa)(x5:Int)(bB:Bool):(A5 0 (C1 (B1 A2J n (A1 Eu [1,1,1])) (A9 A2J Tryz.f173.results.toList))) (.exit 0) ⟨[(0,.one (.sl .u8 x0 none)),(1,.one (.sl .u8 x1 none)),(5,.one (.int .i64 x5)),(14,.one (.bool bB))],[]⟩=
  some (.one (.bool true)):=by
 kernel_rfl
def A2n:Env Ty6 A4:=mk6 noT noC (lkE [(0,[2]),(1,[6]),(2,[3,7,8,9,10,11,12,13,14,15,16]),(4,[17,18,19]),(5,[21,22]),(6,[20,23,24,25,26,27,28,29,30,31]),(7,[0,4,5,20,32,33])]) 34
def A9f(x0:Aa)(x4:Int)(x5:Int):S6:=⟨[(0,.one (.sl .u8 x0 none)),(4,.one (.int .i64 x4)),(5,.one (.int .i64 x5))],[]⟩
theorem D5m(n:Nat)(a0:Aa):A3 A2n n Ev [.sl .u8 a0 none]=
  match idx a0 0 with|none=>none|some y1=>(match idx [0,128,32,16,8] (Ax a0:Int)with|none=>none|some y2=>(bif !decide (y2=0)then(D1 (lbC A2n (A1 Ev [1,1,1,0,1,0,0]) 10004 n) n (A9f a0 (Cb (Aw .i64 y1) y2) 1) (A5 0 (C1 (B1 A2n n (A1 Ev [1,1,1,1])) (A9 A2n Tryz.f171.results.toList))))else none)):=by
 kernel_rfl
theorem D7O(n:Nat)(x0:Aa)(x4:Int)(x5:Int)(K:Ex->S6->Ad):lbC A2n (A1 Ev [1,1,1,0,1,0,0]) 10004 n (A9f x0 x4 x5) K=
  bif decide (x5<(Ax x0:Int))then(match idx x0 x5 with|none=>none|some y3=>(K .normal (A9f x0 (Aw .i64 ((Aw .i64 (x4*64))+(Cb (Aw .i64 y3) 64))) (Aw .i64 (x5+1)))))else(K (.exit 0) ⟨[(0,.one (.sl .u8 x0 none)),(4,.one (.int .i64 x4)),(5,.one (.int .i64 x5)),(20,.one (.bool (decide (x5<(Ax x0:Int)))))],[]⟩):=by
 kernel_rfl
theorem C9r(n:Nat)(x0:Aa)(x4:Int)(x5:Int)(tH:Bool):(A5 0 (C1 (B1 A2n n (A1 Ev [1,1,1,1])) (A9 A2n Tryz.f171.results.toList))) (.exit 0) ⟨[(0,.one (.sl .u8 x0 none)),(4,.one (.int .i64 x4)),(5,.one (.int .i64 x5)),(20,.one (.bool tH))],[]⟩=
  some (.one (.int .i32 (Aw .i32 x4))):=by
 kernel_rfl
def B5R:T6:=λf ls=>match f with
 |171=>B4r ls
 |172=>S50 ls
 |173=>B6W ls
 |_=>none
def A07:Env Ty6 A4:=mk6 B5R noC (lkE [(0,[2,3]),(2,[7,8,9,10,11,12,13]),(3,[5,15,16,33]),(4,[14,17,18,19,20]),(5,[21,22]),(6,[6,23,24,25,26,27,28,29,30,31,32]),(7,[0,4,5,33,34,35]),(8,[0,4,14])]) 36
def A6q(x0:Aa)(x4:Int):S6:=⟨[(0,.one (.sl .u8 x0 none)),(4,.one (.int .i64 x4))],[]⟩
theorem D08(n:Nat)(a0:Aa):A3 A07 n Di [.sl .u8 a0 none]=
  D1 (lbC A07 (A1 Di [1,0,1,0,0]) 10002 n) n (A6q a0 1) (A5 0 (C1 (B1 A07 n (A1 Di [1,1])) (A9 A07 Tryz.f120.results.toList))):=by
 kernel_rfl
theorem D5s(n:Nat)(x0:Aa)(x4:Int)(K:Ex->S6->Ad):lbC A07 (A1 Di [1,0,1,0,0]) 10002 n (A6q x0 x4) K=
  bif(decide (x4<=4))==true then(bif decide (x4<=(Ax x0:Int))then(match sub x0 0 x4 with|none=>none|some y1=>(bif isB y1&&decide (1<=Ax y1)&&decide (Ax y1<=4)then(bif((Ax (O2 (I6 y1)):Int)==x4)==true then(match sub x0 0 x4 with|none=>none|some y2=>(bif A2 (Ax (O2 (I6 y1))) 1&&A2 (Ax y2) 1 then(bif eqI (O2 (I6 y1)) y2 then(K .ret ⟨[(2,.one (.int .i32 (I6 y1))),(3,.one (.int .i64 x4))],[]⟩)else(K .normal (A6q x0 (Aw .i64 (x4+1)))))else none))else(K .normal (A6q x0 (Aw .i64 (x4+1)))))else none))else(K (.exit 0) ⟨[(0,.one (.sl .u8 x0 none)),(4,.one (.int .i64 x4)),(14,.one (.bool (decide (x4<=(Ax x0:Int)))))],[]⟩))else(K (.exit 0) ⟨[(0,.one (.sl .u8 x0 none)),(4,.one (.int .i64 x4)),(14,.one (.bool false))],[]⟩):=by
 kernel_rfl
theorem D03(n:Nat)(x0:Aa)(x4:Int)(bB:Bool):(A5 0 (C1 (B1 A07 n (A1 Di [1,1])) (A9 A07 Tryz.f120.results.toList))) (.exit 0) ⟨[(0,.one (.sl .u8 x0 none)),(4,.one (.int .i64 x4)),(14,.one (.bool bB))],[]⟩=
  some (.tup [.int .i32 0,.int .i64 0]):=by
 kernel_rfl
theorem D4B(n:Nat)(x0:Aa)(x4:Int):(A5 0 (C1 (B1 A07 n (A1 Di [1,1])) (A9 A07 Tryz.f120.results.toList))) (.exit 0) ⟨[(0,.one (.sl .u8 x0 none)),(4,.one (.int .i64 x4)),(14,.one (.bool false))],[]⟩=
  some (.tup [.int .i32 0,.int .i64 0]):=by
 kernel_rfl
def B51:T6:=λf ls=>match f with
 |120=>B6A ls
 |_=>none
def A05:Env Ty6 A4:=mk6 B51 noC (lkE [(0,[2,3]),(3,[8,9,10]),(4,[11,12,13,14,15,16,17,18]),(5,[19]),(6,[6,20,21,22,23,24]),(7,[7,25,26,27]),(8,[0,4,5,6,7,11,20,28,29])]) 30
def A74(x0:Aa)(x4:Aa)(x5:Int):S6:=⟨[(0,.one (.sl .u8 x0 none)),(4,.one (.sl .i32 x4 (some 104))),(5,.one (.int .i64 x5))],[104]⟩
theorem C7r(n:Nat)(a0:Aa):A3 A05 n Df [.sl .u8 a0 none]=
  D1 (lbC A05 (A1 Df [1,1,1,0,0,0]) 10003 n) n (A74 a0 [] 0) (A5 0 (C1 (B1 A05 n (A1 Df [1,1,1,1])) (A9 A05 Tryz.f52.results.toList))):=by
 kernel_rfl
theorem D5n(n:Nat)(x0:Aa)(x4:Aa)(x5:Int)(K:Ex->S6->Ad):lbC A05 (A1 Df [1,1,1,0,0,0]) 10003 n (A74 x0 x4 x5) K=
  bif decide (x5<(Ax x0:Int))then(match sub x0 x5 (Ax x0:Int)with|none=>none|some y1=>(bif isB y1&&decide (1<=Ax y1)&&A2 (Ax y1) 1 then(bif((P4 y1).2)==0 then(K (.exit 0) ⟨[(0,.one (.sl .u8 x0 none)),(4,.one (.sl .i32 x4 (some 104))),(5,.one (.int .i64 x5)),(6,.one (.int .i32 ((P4 y1).1))),(7,.one (.int .i64 ((P4 y1).2))),(20,.one (.bool (((P4 y1).2)==0)))],[104]⟩)else(bif A2 (Ax x4+1) 4 then(K .normal (A74 x0 (x4++[(P4 y1).1]) (Aw .i64 (x5+((P4 y1).2)))))else none))else none))else(K (.exit 0) ⟨[(0,.one (.sl .u8 x0 none)),(4,.one (.sl .i32 x4 (some 104))),(5,.one (.int .i64 x5)),(11,.one (.bool (decide (x5<(Ax x0:Int)))))],[104]⟩):=by
 kernel_rfl
theorem C6L(n:Nat)(x0:Aa)(x4:Aa)(x5:Int)(x6:Int)(x7:Int)(tH:Bool):(A5 0 (C1 (B1 A05 n (A1 Df [1,1,1,1])) (A9 A05 Tryz.f52.results.toList))) (.exit 0) ⟨[(0,.one (.sl .u8 x0 none)),(4,.one (.sl .i32 x4 (some 104))),(5,.one (.int .i64 x5)),(6,.one (.int .i32 x6)),(7,.one (.int .i64 x7)),(20,.one (.bool tH))],[104]⟩=
  some (.tup [.sl .i32 x4 (some 1),.int .i64 x5]):=by
 kernel_rfl
theorem D4i(n:Nat)(x0:Aa)(x4:Aa)(x5:Int)(cM:Bool):(A5 0 (C1 (B1 A05 n (A1 Df [1,1,1,1])) (A9 A05 Tryz.f52.results.toList))) (.exit 0) ⟨[(0,.one (.sl .u8 x0 none)),(4,.one (.sl .i32 x4 (some 104))),(5,.one (.int .i64 x5)),(11,.one (.bool cM))],[104]⟩=
  some (.tup [.sl .i32 x4 (some 1),.int .i64 x5]):=by
 kernel_rfl
def B2p:Env Ty6 A4:=mk6 noT noC (lkE [(0,[2,3,4]),(1,[5,6,7,8,9]),(2,[0,10]),(3,[10,11,12]),(4,[0,13,14,15,16,17,18])]) 19
theorem D2a(n:Nat)(a0:Int):A3 B2p n Tryz.f222 [.int .i32 a0]=
  bif(decide (a0<65536))==false then(bif decide (a0>1114111)then(some (.tup [.int .i32 0,.int .i32 0,.bool false]))else(some (.tup [.int .i32 (Aw .i32 (55296+((Aw .i32 (a0 - 65536)) / 2^(Ay 10)))),.int .i32 (Aw .i32 (56320+(bits .and .i32 (Aw .i32 (a0 - 65536)) 1023))),.bool true])))else(some (.tup [.int .i32 0,.int .i32 0,.bool false])):=by
 kernel_rfl
def B27:Env Ty6 A4:=mk6 noT noC (lkE [(0,[2,3,4]),(1,[6,7,8,9,10]),(2,[0,11]),(3,[0,11,12,13]),(4,[5,14,15,16,17,18,19])]) 20
theorem C9a(n:Nat)(a0:Int):A3 B27 n Tryz.f227 [.int .i32 a0]=
  bif(decide (a0<65536))==false then(bif decide (a0>1114111)then(some (.tup [.int .i32 0,.int .i32 0,.bool false]))else(some (.tup [.int .i32 (Aw .i32 (55296+(Aw .i32 (Cl (Aw .i32 (a0 - 65536)) 1024)))),.int .i32 (Aw .i32 (56320+(Cb (Aw .i32 (a0 - 65536)) 1024))),.bool true])))else(some (.tup [.int .i32 0,.int .i32 0,.bool false])):=by
 kernel_rfl
def A2E:Env Ty6 A4:=mk6 noT noC (lkE [(0,[4]),(1,[6,7,8]),(3,[9]),(4,[11,12]),(5,[10,13,14,15,16,17,18,19,20,21]),(6,[0,1,5,10,22])]) 23
def A54(x0:Aa)(x1:Int)(x5:Int):S6:=⟨[(0,.one (.sl .i32 x0 (some 0))),(1,.one (.int .i32 x1)),(5,.one (.int .i64 x5))],[0]⟩
theorem D5I(n:Nat)(a0:Aa)(a1:Int):A3 A2E n Ei [.sl .i32 a0 (some 0),.int .i32 a1]=
  bif A2 (Ax a0+2) 4 then(D1 (lbC A2E (A1 Ei [1,1,0,1,0,0]) 10003 n) n (A54 (a0++[92,117]) a1 12) (A5 0 (C1 (B1 A2E n (A1 Ei [1,1,1])) (A9 A2E Tryz.f223.results.toList))))else none:=by
 kernel_rfl
theorem D2k(n:Nat)(x0:Aa)(x1:Int)(x5:Int)(K:Ex->S6->Ad):lbC A2E (A1 Ei [1,1,0,1,0,0]) 10003 n (A54 x0 x1 x5) K=
  bif decide (x5>=0)then(bif decide (0<=x5)&&decide (x5<=31)&&decide (Gf=Gf)then(match idx [48,49,50,51,52,53,54,55,56,57,65,66,67,68,69,70] (bits .and .i32 (x1 / 2^(Ay x5)) 15)with|none=>none|some y1=>(bif A2 (Ax x0+1) 4 then(K .normal (A54 (x0++[Aw .i32 (Cq y1:Int)]) x1 (Aw .i64 (x5 - 4))))else none))else none)else(K (.exit 0) ⟨[(0,.one (.sl .i32 x0 (some 0))),(1,.one (.int .i32 x1)),(5,.one (.int .i64 x5)),(10,.one (.bool (decide (x5>=0))))],[0]⟩):=by
 kernel_rfl
theorem C7B(n:Nat)(x0:Aa)(x1:Int)(x5:Int)(aC:Bool):(A5 0 (C1 (B1 A2E n (A1 Ei [1,1,1])) (A9 A2E Tryz.f223.results.toList))) (.exit 0) ⟨[(0,.one (.sl .i32 x0 (some 0))),(1,.one (.int .i32 x1)),(5,.one (.int .i64 x5)),(10,.one (.bool aC))],[0]⟩=
  some (.one (.sl .i32 x0 (some 0))):=by
 kernel_rfl
def B2P:T6:=λf ls=>match f with
 |222=>B4J ls
 |223=>B3i ls
 |_=>none
def D5c:Cr->Ak:=λf=>match f with
 |223=>some 0
 |_=>none
def B4a:Env Ty6 A4:=mk6 B2P D5c (lkE [(0,[4]),(2,[10]),(3,[11]),(4,[0,1,8,9,12,13,14,15]),(5,[9,17]),(6,[0,1,8,16,18,19,20]),(7,[16,22]),(8,[0,1,8,21,23,24,25]),(9,[21,27]),(10,[0,1,8,26,28,29,30]),(11,[26,32]),(12,[0,1,8,31,33,34,35]),(13,[8,31,37]),(14,[0,1,36,38,39,40]),(15,[36,41,42,43,44,45,46]),(16,[7]),(17,[0,1,5,6,47,48,49,50,51,52]),(18,[5,6,47,53,54,55,56,57]),(19,[0,1,58,59,60,61]),(20,[0,1,58,62,63,64,65])]) 66
theorem C97(n:Nat)(a0:Aa)(a1:Int):A3 B4a n Tryz.f197 [.sl .i32 a0 (some 0),.int .i32 a1]=
  bif a1==34 then(bif a1==34 then(bif A2 (Ax a0+2) 4 then(some (.one (.sl .i32 (a0++[92,a1]) (some 0))))else none)else(bif a1==8 then(bif A2 (Ax a0+2) 4 then(some (.one (.sl .i32 (a0++[92,98]) (some 0))))else none)else(bif a1==9 then(bif A2 (Ax a0+2) 4 then(some (.one (.sl .i32 (a0++[92,116]) (some 0))))else none)else(bif a1==10 then(bif A2 (Ax a0+2) 4 then(some (.one (.sl .i32 (a0++[92,110]) (some 0))))else none)else(bif a1==12 then(bif A2 (Ax a0+2) 4 then(some (.one (.sl .i32 (a0++[92,102]) (some 0))))else none)else(bif a1==13 then(bif A2 (Ax a0+2) 4 then(some (.one (.sl .i32 (a0++[92,114]) (some 0))))else none)else(bif(E0 a1).2.2 then(bif A2 (Ax a0+6) 4&&decide (0<=((E0 a1).1))&&decide (((E0 a1).1)<=65535)then(bif A2 (Ax (K6 a0 (H6 ((E0 a1).1)))+6) 4&&decide (0<=((E0 a1).2.1))&&decide (((E0 a1).2.1)<=65535)then(some (.one (.sl .i32 (K6 (K6 a0 (H6 ((E0 a1).1))) (H6 ((E0 a1).2.1))) (some 0))))else none)else none)else(bif(decide (a1<32))==false then(bif a1==127 then(bif A2 (Ax a0+6) 4&&decide (0<=a1)&&decide (a1<=65535)then(some (.one (.sl .i32 (K6 a0 (H6 a1)) (some 0))))else none)else(bif A2 (Ax a0+1) 4 then(some (.one (.sl .i32 (a0++[a1]) (some 0))))else none))else(bif A2 (Ax a0+6) 4&&decide (0<=a1)&&decide (a1<=65535)then(some (.one (.sl .i32 (K6 a0 (H6 a1)) (some 0))))else none)))))))))else(bif a1==92 then(bif A2 (Ax a0+2) 4 then(some (.one (.sl .i32 (a0++[92,a1]) (some 0))))else none)else(bif a1==8 then(bif A2 (Ax a0+2) 4 then(some (.one (.sl .i32 (a0++[92,98]) (some 0))))else none)else(bif a1==9 then(bif A2 (Ax a0+2) 4 then(some (.one (.sl .i32 (a0++[92,116]) (some 0))))else none)else(bif a1==10 then(bif A2 (Ax a0+2) 4 then(some (.one (.sl .i32 (a0++[92,110]) (some 0))))else none)else(bif a1==12 then(bif A2 (Ax a0+2) 4 then(some (.one (.sl .i32 (a0++[92,102]) (some 0))))else none)else(bif a1==13 then(bif A2 (Ax a0+2) 4 then(some (.one (.sl .i32 (a0++[92,114]) (some 0))))else none)else(bif(E0 a1).2.2 then(bif A2 (Ax a0+6) 4&&decide (0<=((E0 a1).1))&&decide (((E0 a1).1)<=65535)then(bif A2 (Ax (K6 a0 (H6 ((E0 a1).1)))+6) 4&&decide (0<=((E0 a1).2.1))&&decide (((E0 a1).2.1)<=65535)then(some (.one (.sl .i32 (K6 (K6 a0 (H6 ((E0 a1).1))) (H6 ((E0 a1).2.1))) (some 0))))else none)else none)else(bif(decide (a1<32))==false then(bif a1==127 then(bif A2 (Ax a0+6) 4&&decide (0<=a1)&&decide (a1<=65535)then(some (.one (.sl .i32 (K6 a0 (H6 a1)) (some 0))))else none)else(bif A2 (Ax a0+1) 4 then(some (.one (.sl .i32 (a0++[a1]) (some 0))))else none))else(bif A2 (Ax a0+6) 4&&decide (0<=a1)&&decide (a1<=65535)then(some (.one (.sl .i32 (K6 a0 (H6 a1)) (some 0))))else none))))))))):=by
 kernel_rfl
def A17:Env Ty6 A4:=mk6 noT noC (lkE [(0,[2]),(4,[7]),(5,[9,10]),(6,[8,11,12,13,14,15]),(7,[6,16,17,18,19,20,21,22]),(8,[0,3,4,5,8,23])]) 24
def B19(x0:Int)(x3:Ab)(x4:Ab)(x5:Int):S6:=⟨[(0,.one (.int .i32 x0)),(3,.one (.str x3)),(4,.one (.str x4)),(5,.one (.int .i64 x5))],[]⟩
theorem C6B(n:Nat)(a0:Int):A3 A17 n Eh [.int .i32 a0]=
  D1 (lbC A17 (A1 Eh [1,1,1,0,1,0,0]) 10004 n) n (B19 a0 [48,49,50,51,52,53,54,55,56,57,65,66,67,68,69,70] [92,117] 12) (A5 0 (C1 (B1 A17 n (A1 Eh [1,1,1,1])) (A9 A17 Tryz.f226.results.toList))):=by
 kernel_rfl
theorem D15(n:Nat)(x0:Int)(x3:Ab)(x4:Ab)(x5:Int)(K:Ex->S6->Ad):lbC A17 (A1 Eh [1,1,1,0,1,0,0]) 10004 n (B19 x0 x3 x4 x5) K=
  bif decide (x5>=0)then(bif decide (0<=x5)&&decide (x5<=31)&&decide (Gf=Gf)then(match sub x3 (bits .and .i64 (Aw .i64 (x0 / 2^(Ay x5))) 15) (Aw .i64 ((bits .and .i64 (Aw .i64 (x0 / 2^(Ay x5))) 15)+1))with|none=>none|some y1=>(bif decide (Ax x4+Ax y1<=9223372036854775807)then(K .normal (B19 x0 x3 (x4++y1) (Aw .i64 (x5 - 4))))else none))else none)else(K (.exit 0) ⟨[(0,.one (.int .i32 x0)),(3,.one (.str x3)),(4,.one (.str x4)),(5,.one (.int .i64 x5)),(8,.one (.bool (decide (x5>=0))))],[]⟩):=by
 kernel_rfl
theorem D4h(n:Nat)(x0:Int)(x3:Ab)(x4:Ab)(x5:Int)(x8:Bool):(A5 0 (C1 (B1 A17 n (A1 Eh [1,1,1,1])) (A9 A17 Tryz.f226.results.toList))) (.exit 0) ⟨[(0,.one (.int .i32 x0)),(3,.one (.str x3)),(4,.one (.str x4)),(5,.one (.int .i64 x5)),(8,.one (.bool x8))],[]⟩=
  some (.one (.str x4)):=by
 kernel_rfl
def B64:T6:=λf ls=>match f with
 |125=>S35 ls
 |226=>B41 ls
 |227=>B30 ls
 |_=>none
def A2z:Env Ty6 A4:=mk6 B64 noC (lkE [(0,[2]),(4,[11,12,13]),(5,[15,16,22]),(6,[14,17,18,19,20,21]),(7,[0,3,4,5,22,23,24,25,26,27,28]),(8,[3,4,5,14,29,30,31,32,33]),(9,[0,34,35,36]),(10,[34,37,38,39,40,41,42]),(11,[8]),(12,[0,6,7,43,44,45,46,47,48]),(13,[0,6,7,10,43,49,50,51,52,53,54]),(14,[9,55])]) 56
def A97(x0:Int)(x3:Ab)(x4:Ab)(x5:Int):S6:=⟨[(0,.one (.int .i32 x0)),(3,.one (.str x3)),(4,.one (.str x4)),(5,.one (.int .i64 x5))],[]⟩
theorem C6M(n:Nat)(a0:Int):A3 A2z n Ek [.int .i32 a0]=
  D1 (lbC A2z (A1 Ek [1,1,1,0,1,0,0]) 10004 n) n (A97 a0 [34,92,98,102,110,114,116] [34,92,8,12,10,13,9] 0) (A5 0 (C1 (B1 A2z n (A1 Ek [1,1,1,1])) (A9 A2z Tryz.f202.results.toList))):=by
 kernel_rfl
theorem C6N(n:Nat)(x0:Int)(x3:Ab)(x4:Ab)(x5:Int)(K:Ex->S6->Ad):lbC A2z (A1 Ek [1,1,1,0,1,0,0]) 10004 n (A97 x0 x3 x4 x5) K=
  bif decide (x5<(Ax x4:Int))then(match idx x4 x5 with|none=>none|some y1=>(bif(Aw .i32 (Cq y1:Int))==x0 then(match sub x3 x5 (Aw .i64 (x5+1))with|none=>none|some y2=>(bif decide (Ax [92]+Ax y2<=9223372036854775807)then(K .ret ⟨[(2,.one (.str ([92]++y2)))],[]⟩)else none))else(K .normal (A97 x0 x3 x4 (Aw .i64 (x5+1))))))else(K (.exit 0) ⟨[(0,.one (.int .i32 x0)),(3,.one (.str x3)),(4,.one (.str x4)),(5,.one (.int .i64 x5)),(14,.one (.bool (decide (x5<(Ax x4:Int)))))],[]⟩):=by
 kernel_rfl
theorem D8l(n:Nat)(x0:Int)(x3:Ab)(x4:Ab)(x5:Int)(bB:Bool):(A5 0 (C1 (B1 A2z n (A1 Ek [1,1,1,1])) (A9 A2z Tryz.f202.results.toList))) (.exit 0) ⟨[(0,.one (.int .i32 x0)),(3,.one (.str x3)),(4,.one (.str x4)),(5,.one (.int .i64 x5)),(14,.one (.bool bB))],[]⟩=
  bif(decide (x0<32))==false then(bif x0==127 then(bif decide (0<=x0)&&decide (x0<=65535)then(some (.one (.str (B2 (H6 x0)))))else none)else(bif(E0 x0).2.2 then(bif decide (0<=((E0 x0).1))&&decide (((E0 x0).1)<=65535)then(bif decide (0<=((E0 x0).2.1))&&decide (((E0 x0).2.1)<=65535)then(bif decide (Ax (B2 (H6 ((E0 x0).1)))+Ax (B2 (H6 ((E0 x0).2.1)))<=9223372036854775807)then(some (.one (.str ((B2 (H6 ((E0 x0).1)))++(B2 (H6 ((E0 x0).2.1)))))))else none)else none)else none)else(bif D3 [x0]then(some (.one (.str ((J4 [x0]).1))))else none)))else(bif decide (0<=x0)&&decide (x0<=65535)then(some (.one (.str (B2 (H6 x0)))))else none):=by
 kernel_rfl
def B4Y:T6:=λf ls=>match f with
 |190=>B0H ls
 |196=>S33 ls
 |197=>B3O ls
 |_=>none
def D1k:Cr->Ak:=λf=>match f with
 |197=>some 0
 |_=>none
def A20:Env Ty6 A4:=mk6 B4Y D1k (lkE [(0,[2,3]),(1,[11,12,13,14,15]),(2,[0,5,16,17,18]),(3,[4,19]),(4,[19,20]),(5,[4]),(7,[24,25,26]),(8,[8,27,28,29]),(9,[30]),(10,[6,10,21,22,23,24,31,32,33,34,35,36,37]),(11,[9,38])]) 39
def B1s(x6:Aa)(fP:Aa)(eV:Int)(eB:Int):S6:=⟨[(6,.one (.sl .i32 x6 (some 120))),(21,.one (.sl .i32 fP (some 1013))),(22,.one (.int .i64 eV)),(23,.one (.int .i64 eB))],[120,1013]⟩
theorem D6l(n:Nat)(a0:Ab):A3 A20 n Ey [.str a0]=
  bif smS a0 then(bif decide ((((C5 a0).2:Nat):Int)<(Ax a0:Int))then(some (.tup [.str [],.int .i64 1]))else(D1 (lbC A20 (A1 Ey [1,1,1,1,0,1,0,0]) 10006 n) n (B1s [34] ((C5 a0).1) (Ax ((C5 a0).1):Int) 0) (A5 0 (C1 (B1 A20 n (A1 Ey [1,1,1,1,1])) (A9 A20 Tryz.f156.results.toList)))))else none:=by
 kernel_rfl
theorem D7V(n:Nat)(x6:Aa)(fP:Aa)(eV:Int)(eB:Int)(K:Ex->S6->Ad):lbC A20 (A1 Ey [1,1,1,1,0,1,0,0]) 10006 n (B1s x6 fP eV eB) K=
  bif decide (eB<eV)then(match idx fP eB with|none=>none|some y1=>(bif A2 (Ax x6+12) 4&&D5 y1 then(K .normal (B1s (K6 x6 (wrF y1)) fP eV (Aw .i64 (eB+1))))else none))else(K (.exit 0) ⟨[(6,.one (.sl .i32 x6 (some 120))),(21,.one (.sl .i32 fP (some 1013))),(22,.one (.int .i64 eV)),(23,.one (.int .i64 eB)),(24,.one (.bool (decide (eB<eV))))],[120,1013]⟩):=by
 kernel_rfl
theorem C8a(n:Nat)(x6:Aa)(fP:Aa)(eV:Int)(eB:Int)(gV:Bool):(A5 0 (C1 (B1 A20 n (A1 Ey [1,1,1,1,1])) (A9 A20 Tryz.f156.results.toList))) (.exit 0) ⟨[(6,.one (.sl .i32 x6 (some 120))),(21,.one (.sl .i32 fP (some 1013))),(22,.one (.int .i64 eV)),(23,.one (.int .i64 eB)),(24,.one (.bool gV))],[120,1013]⟩=
  bif A2 (Ax x6+1) 4 then(bif D3 (x6++[34])then(some (.tup [.str ((J4 (x6++[34])).1),.int .i64 0]))else none)else none:=by
 kernel_rfl
def B3d:T6:=λf ls=>match f with
 |52=>S223 ls
 |202=>B6U ls
 |_=>none
def A0x:Env Ty6 A4:=mk6 B3d noC (lkE [(0,[2,3]),(1,[9,10,11,12,13,14]),(2,[0,5,15,16,17]),(3,[4,18]),(4,[18]),(6,[19,20,21]),(7,[23,24]),(8,[22,25,26,27,28,29]),(9,[8,30,31,32]),(10,[4,6,7,22,33,34])]) 35
def B1K(x4:Aa)(x6:Ab)(x7:Int):S6:=⟨[(4,.one (.sl .i32 x4 (some 1012))),(6,.one (.str x6)),(7,.one (.int .i64 x7))],[1012]⟩
theorem B3t(n:Nat)(a0:Ab):A3 A0x n Ew [.str a0]=
  bif A2 (Ax a0) 1 then(bif isB (Cj (λ(c:UInt8)=>(c.toNat:Int)) a0)&&smL (Cj (λ(c:UInt8)=>(c.toNat:Int)) a0)then(bif(((C5 (toB (Cj (λ(c:UInt8)=>(c.toNat:Int)) a0))).2:Nat):Int) !=(Ax a0:Int)then(some (.tup [.str [],.int .i64 1]))else(D1 (lbC A0x (A1 Ew [1,1,1,1,0,1,0,0]) 10006 n) n (B1K ((C5 (toB (Cj (λ(c:UInt8)=>(c.toNat:Int)) a0))).1) [34] 0) (A5 0 (C1 (B1 A0x n (A1 Ew [1,1,1,1,1])) (A9 A0x Tryz.f164.results.toList)))))else none)else none:=by
 kernel_rfl
theorem D3I(n:Nat)(x4:Aa)(x6:Ab)(x7:Int)(K:Ex->S6->Ad):lbC A0x (A1 Ew [1,1,1,1,0,1,0,0]) 10006 n (B1K x4 x6 x7) K=
  bif decide (x7<(Ax x4:Int))then(match idx x4 x7 with|none=>none|some y1=>(bif D5 y1 then(bif decide (Ax x6+Ax (B2 (wrF y1))<=9223372036854775807)then(K .normal (B1K x4 (x6++(B2 (wrF y1))) (Aw .i64 (x7+1))))else none)else none))else(K (.exit 0) ⟨[(4,.one (.sl .i32 x4 (some 1012))),(6,.one (.str x6)),(7,.one (.int .i64 x7)),(22,.one (.bool (decide (x7<(Ax x4:Int)))))],[1012]⟩):=by
 kernel_rfl
theorem C8T(n:Nat)(x4:Aa)(x6:Ab)(x7:Int)(eV:Bool):(A5 0 (C1 (B1 A0x n (A1 Ew [1,1,1,1,1])) (A9 A0x Tryz.f164.results.toList))) (.exit 0) ⟨[(4,.one (.sl .i32 x4 (some 1012))),(6,.one (.str x6)),(7,.one (.int .i64 x7)),(22,.one (.bool eV))],[1012]⟩=
  bif decide (Ax x6+Ax [34]<=9223372036854775807)then(some (.tup [.str (x6++[34]),.int .i64 0]))else none:=by
 kernel_rfl
end Go.Aev.Bv
namespace Go.Aev.Bv
open Go.Lib
theorem A9G{l:Ab}:X3 l=true↔((Az l).1=65533/\(Az l).2=1):=by simp[X3]
theorem B6h(l:Ab):D5 ((Az l).1:Int)=true:=by
 rw[decodeL_N];have h:=decodeN_valid l.length (l.getD 0 0).toNat (l.getD 1 0).toNat (l.getD 2 0).toNat (l.getD 3 0).toNat (UInt8.toNat_lt _);rw[V2];omega
theorem C6A{c:Int}(h:D5 c=true):encodeRune c=toB (u8F c):=by
 rw[V2]at h;unfold encodeRune toB u8F;by_cases h1:c<128
 ·rw[encodeRuneZ_one (by omega) (by omega),Au h1]
 rw[At h1];by_cases h2:c<2048
 ·rw[encodeRuneZ_two (by omega) (by omega),Au h2]
 rw[At h2];by_cases h3:c<65536
 ·rw[encodeRuneZ_three (by omega),Au h3]
 ·rw[encodeRuneZ_four (by omega) (by omega),At h3]
theorem B9e{l:Ab}(av:l≠[])(hv:X3 l=false):toB (u8F ((Az l).1:Int))=l.take (Az l).2:=by
 rw[<-C6A (B6h l)];refine encode_decode l av (λh=>?_);rw[A9G.2 h]at hv;cases hv
theorem C2x(a b:Aa):toB (a++b)=toB a++toB b:=by simp[toB]
theorem A0n(c:Int)(cs:Aa):B2 (c::cs)=toB (u8F c)++B2 cs:=by unfold B2;rw[Ca,C2x]
theorem A8B:B2 []=[]:=rfl
theorem A0j(l:Aa):(toB l).length=l.length:=by simp[toB]
theorem A0N{k:Nat}(h:k<256):(Dq k).toNat=k:=by simp[Nat.mod_eq_of_lt h]
theorem C2A{c:Int}(h:D5 c=true)(t:Ab):Az (toB (u8F c)++t)=(c.toNat,(u8F c).length)/\X3 (toB (u8F c)++t)=false:=by
 rw[V2]at h;have bG:Az (toB (u8F c)++t)=(c.toNat,(u8F c).length):=by
  rw[decodeL_N];unfold u8F;by_cases h1:c<128
  ·rw[Au h1];simp only[toB,Ci,Gb,Cn,Dk,Gc,Be,Bw];rw[A0N (by omega),decodeN_ascii _ _ _ _ _ (by omega)]
  rw[At h1];by_cases h2:c<2048
  ·rw[Au h2];simp only[toB,Ci,Gb,Cn,Dk,Gc,Hh,Be,Bw];rw[A0N (by omega),A0N (by omega)];unfold decodeN;rw[At (by omega),Au (by omega),Au (by omega)];exact Ha (by simp only;omega) rfl
  rw[At h2];by_cases h3:c<65536
  ·rw[Au h3];simp only[toB,Ci,Gb,Cn,Dk,Gc,Hh,Be,Bw];rw[A0N (by omega),A0N (by omega),A0N (by omega)];unfold decodeN;rw[At (by omega),At (by omega),Au (by omega),Au (by omega)];exact Ha (by simp only;omega) rfl
  ·rw[At h3];simp only[toB,Ci,Gb,Cn,Dk,Gc,Hh,Be,Bw];rw[A0N (by omega),A0N (by omega),A0N (by omega),A0N (by omega)];unfold decodeN;rw[At (by omega),At (by omega),At (by omega),Au (by omega),Au (by omega)];exact Ha (by simp only;omega) rfl
 refine⟨bG,?_⟩;cases hb:X3 (toB (u8F c)++t)with
 |false=>rfl
 |true=>
  have:=A9G.1 hb;rw[bG]at this;dsimp only at this;have hl:(u8F c).length≠1:=by
   unfold u8F;rw[At (by omega)];split
   ·simp
   ·split<;>simp
  exact absurd this.2 hl
theorem D0L:∀(n m:Nat)(l:Ab),l.length<=n->l.length<=m->A14 n l=A14 m l:=by
 intro n
 induction n with
 |zero=>
  intro m l h1 h2;have:l=[]:=Fc (by omega);subst this;cases m<;>simp[A14]
 |succ n ih=>
  intro m l h1 h2;cases m with
  |zero=>
   have:l=[]:=Fc (by omega);subst this;simp[A14]
  |succ m=>
   unfold A14;by_cases av:l=[]
   ·rw[Au av,Au av]
   ·have hw:=Do l;have hl:0<l.length:=Dl.2 av;rw[At av,At av,ih m (l.drop (Az l).2) (by rw[Bb];omega) (by rw[Bb];omega)]
theorem A9D:C5 []=([],0):=rfl
theorem B5C{l:Ab}(h:X3 l=true):C5 l=([],0):=by
 unfold C5;cases hl:l.length with
 |zero=>rfl
 |succ n=>
  unfold A14;rw[Au h];split<;>rfl
theorem A9e{l:Ab}(av:l≠[])(h:X3 l=false):C5 l=(((Az l).1:Int)::(C5 (l.drop (Az l).2)).1,(Az l).2+(C5 (l.drop (Az l).2)).2):=by
 have hl:0<l.length:=Dl.2 av;have hw:=Do l;obtain⟨n,hn⟩:∃n,l.length=n+1:=⟨l.length - 1,by omega⟩
 conv=>lhs;unfold C5
 rw[hn];unfold A14;rw[At av,h];unfold C5;rw[D0L n (l.drop (Az l).2).length _ (by rw[Bb];omega) (Bg _)];rfl
theorem decF_enc:∀(n:Nat)(l:Ab),l.length<=n->B2 (C5 l).1=l.take (C5 l).2/\(C5 l).1.all D5=true/\(C5 l).2<=l.length/\(C5 l).1.length<=(C5 l).2:=by
 intro n
 induction n with
 |zero=>
  intro l hl;have:l=[]:=Fc (by omega);subst this;simp[A9D,A8B]
 |succ n ih=>
  intro l hl;by_cases av:l=[]
  ·subst av;simp[A9D,A8B]
  ·cases hb:X3 l with
   |true=>rw[B5C hb];simp[A8B]
   |false=>
    have hw:=Do l;have aZ:=Fs l av;have cH:0<l.length:=Dl.2 av;obtain⟨i1,i2,i3,i4⟩:=ih (l.drop (Az l).2) (by rw[Bb];omega);rw[Bb]at i3;rw[A9e av hb];dsimp only;refine⟨?_,?_,by omega,by simp;omega⟩
    ·rw[A0n,B9e av hb,i1,List.take_add]
    ·rw[By,B6h,i2];rfl
theorem B8p:∀(cs:Aa),cs.all D5=true->C5 (B2 cs)=(cs,(B2 cs).length)
 |[],_=>rfl
 |c::cs,h=>by
  rw[By]at h;simp only[Bn]at h;have ih:=B8p cs h.2;obtain⟨d1,d2⟩:=C2A h.1 (B2 cs);have hu:=A8Z c;rw[A0n];have av:toB (u8F c)++B2 cs≠[]:=by
   intro e;have:=congrArg Ax e;rw[Bo,A0j,Bw]at this;omega
  have qp:(toB (u8F c)++B2 cs).drop (u8F c).length=B2 cs:=by
   rw[List.drop_append_of_le_length (by rw[A0j];omega),List.drop_of_length_le (by rw[A0j];omega)];rfl
  rw[A9e av d2,d1];dsimp only;rw[qp,ih];have hc:=(V2.1 h.1);rw[Bo,A0j];have:((c.toNat:Nat):Int)=c:=by omega
  rw[this]
theorem C6w(cs:Aa):cs.length<=(B2 cs).length:=by
 induction cs with
 |nil=>simp
 |cons c cs ih=>have:=A8Z c;rw[A0n,Bo,A0j];simp;omega
end Go.Aev.Bv
namespace Go.Aev.Bv
open Go.Proofs Go.Lib
theorem A6a{s:Ab}:smS s=true↔s.length<=67108864:=by simp[smS]
theorem D2z(s:Ab)(i:Nat)(h:i<s.length):dgF (s.drop i)=(((Az (s.drop i)).1:Int),((Az (s.drop i)).2:Int)):=by
 unfold dgF decodeGoB Az;have:¬(ByteArray.mk (s.drop i).toArray).size=0:=by simp[ByteArray.size];omega
 rw[At this]
def A0s(out:Aa)(i:Nat)(r:Aa×Nat):Ad:=some (.tup [.sl .i32 (out++r.1) (some 1),.int .i64 ((i+r.2:Nat):Int)])
theorem D4s(s:Ab)(hs:smS s=true)(n:Nat)(hn:s.length<n):A3 A2w n Es [.str s]=some (.tup [.sl .i32 (C5 s).1 (some 1),.int .i64 ((C5 s).2:Nat)]):=by
 have aj:=A6a.1 hs;rw[C7d];refine(H9 (λp:Aa×Nat=>A7Q s p.1 s p.2) (λp=>p.1.length<=p.2/\p.2<=s.length) (λp=>s.length - p.2) (λp=>A0s p.1 p.2 (C5 (s.drop p.2))) ?_ n ([],0) (by simp) (by simp only;omega)).trans (by simp[A0s]);rintro⟨out,i⟩ ⟨h1,h2⟩ K a8 bH aU;dsimp only at h1 h2 aU ⊢;rw[D02];by_cases h:i<s.length
 ·have av:s.drop i≠[]:=by
   intro e;have:=congrArg Ax e;rw[Bb,Bw]at this;omega
  have hd:Dp ⟨s.toArray⟩ i=Az (s.drop i):=by rw[<-decodeL_drop]
  have hw:=Do (s.drop i);have aZ:=Fs (s.drop i) av;rw[Bb]at aZ;rw[Ar h,Ap,hd,A80 (by omega)];dsimp only;rw[D2z s i h,G9.2 (by omega)];cases hb:X3 (s.drop i)with
  |true=>
   obtain⟨b1,b2⟩:=A9G.1 hb;rw[beqT (by omega:((Az (s.drop i)).1:Int)=65533)];dsimp only;rw[beqT (by omega:((Az (s.drop i)).2:Int)=1),B5C hb];refine(bH _).trans ?_;simp only[A0s,Bx,Jf];rfl
  |false=>
   have bm:=aU (out++[((Az (s.drop i)).1:Int)],i+(Az (s.drop i)).2) ⟨by simp;omega,by simp only;omega⟩ (by simp only;omega);dsimp only at bm;have dZ:A0s (out++[((Az (s.drop i)).1:Int)]) (i+(Az (s.drop i)).2) (C5 (s.drop (i+(Az (s.drop i)).2)))=A0s out i (C5 (s.drop i)):=by
    rw[A9e av hb,Dm];unfold A0s;simp[He]
   rw[dZ]at bm;by_cases b1:(Az (s.drop i)).1=65533
   ·have b2:(Az (s.drop i)).2≠1:=λb2=>by rw[A9G.2 ⟨b1,b2⟩]at hb;cases hb
    rw[beqT (by omega:((Az (s.drop i)).1:Int)=65533)];dsimp only;rw[beqF (by omega:((Az (s.drop i)).2:Int)≠1)];exact bm
   ·rw[beqF (by omega:((Az (s.drop i)).1:Int)≠65533)];exact bm
 ·rw[As h,Aq,a8,D2G,Bi (by omega),A9D];have:i=s.length:=by omega
  subst this;simp[A0s]
theorem D05(a b:Aa)(ha:A2 a.length 1=true)(hb:A2 b.length 1=true)(n:Nat)(hn:a.length<n):A3 A2J n Eu [.sl .u8 a none,.sl .u8 b none]=some (.one (.bool (eqI a b))):=by
 have h1:=G9.1 ha;rw[C7K];by_cases hl:a.length=b.length
 ·rw[A0i (by omega:(a.length:Int)=(b.length:Int)),Aq];refine(H9 (λi:Nat=>B1V a b i) (λi=>i<=a.length) (λi=>a.length - i) (λi=>(some (.one (.bool (a.drop i==b.drop i))):Ad)) ?_ n 0 (Bh _) (by omega)).trans (by simp[eqI]);intro i hi K a8 bH aU;rw[D0o];by_cases h:i<a.length
  ·have h2:i<b.length:=by omega
   rw[Ar (by omega:(i:Int)<(a.length:Int)),Ap,D9 h,D9 h2];dsimp only;rw[Bz h,Bz h2,I9 (by omega)];by_cases he:a[i]=b[i]
   ·rw[A0i he,Aq,aU (i+1) (by omega) (by omega),Ju,he,BEq.rfl,Hl]
   ·rw[U7 he,Ap];refine(bH _).trans ?_;have:(a[i]::a.drop (i+1)==b[i]::b.drop (i+1))=false:=by rw[Ju,beq_false_of_ne he];rfl
    rw[this];rfl
  ·rw[As (by omega:¬(i:Int)<(a.length:Int)),Aq,a8,C95,Bi (by omega),Bi (by omega)];rfl
 ·rw[U7 (by omega:(a.length:Int)≠(b.length:Int)),Ap];have:eqI a b=false:=by
   unfold eqI;exact beq_false_of_ne λe=>hl (by rw[e])
  rw[this]
theorem A15{l:Aa}:isB l=true↔∀x∈l,0<=x/\x<=255:=by simp[isB]
def A41:Int->Aa->Int
 |n,[]=>n
 |n,c::r=>A41 (n*64+c % 64) r
theorem C7F:∀(l:Aa)(h1:1<=l.length)(h4:l.length<=4)(hB:∀x∈l,0<=x/\x<=255)(q:Int)(hq:q=match l.length with|1=>128|2=>32|3=>16|_=>8),
  A41 (l[0] % q) (l.drop 1)=I6 l/\0<=I6 l/\I6 l<16777216
 |[a],_,_,hB,q,hq=>by subst hq;have:=hB a (by simp);simp[A41,I6];omega
 |[a,b],_,_,hB,q,hq=>by subst hq;have:=hB a (by simp);simp[A41,I6];omega
 |[a,b,c],_,_,hB,q,hq=>by subst hq;have:=hB a (by simp);simp[A41,I6];omega
 |[a,b,c,d],_,_,hB,q,hq=>by subst hq;have:=hB a (by simp);simp[A41,I6];omega
 |_::_::_::_::_::_,_,h4,_,_,_=>by simp at h4
theorem D4D(l:Aa)(hb:isB l=true)(h1:1<=l.length)(h4:l.length<=4)(n:Nat)(hn:4<n):A3 A2n n Ev [.sl .u8 l none]=some (.one (.int .i32 (I6 l))):=by
 have hB:=A15.1 hb;have hm:∀(i:Nat)(h:i<l.length),0<=l[i]/\l[i]<=255:=λi h=>hB _ (Bp h);have io:idx l 0=some l[0]:=D9 (i:=0) (by omega);rw[D5m,io];dsimp only;obtain⟨q,hq,zy,wa⟩:∃q:Int,idx [0,128,32,16,8] (l.length:Int)=some q/\8<=q/\q=(match l.length with|1=>128|2=>32|3=>16|_=>8):=by
  have:l.length=1\/l.length=2\/l.length=3\/l.length=4:=by omega
  rcases this with h|h|h|h<;>rw[h]<;>exact⟨_,rfl,by decide,rfl⟩
 have mz:=hm 0 (by omega);rw[hq];dsimp only;rw[As (by omega:¬q=0),P3 (by omega) (by omega),Ff (by omega)];show D1 _ n _ _=_;have my:∀j:Nat,j<=4->(64:Int)^j<=64^4:=λj hj=>by
  have:j=0\/j=1\/j=2\/j=3\/j=4:=by omega
  rcases this with rfl|rfl|rfl|rfl|rfl<;>decide
 refine(H9 (λp:Int×Nat=>A9f l p.1 p.2) (λp=>1<=p.2/\p.2<=l.length/\0<=p.1/\p.1<4*64^p.2) (λp=>l.length - p.2) (λp=>(some (.one (.int .i32 (Aw .i32 (A41 p.1 (l.drop p.2))))):Ad)) ?_ n (l[0] % q,1) ?_ (by simp only;omega)).trans ?_
 ·rintro⟨a,j⟩ ⟨j1,j2,a1,a2⟩ K a8 bH aU;dsimp only at j1 j2 a1 a2 aU ⊢;have hp:=my j (by omega);rw[D7O];by_cases h:j<l.length
  ·have hj:=hm j h;rw[Ar (by omega:(j:Int)<(l.length:Int)),Ap,D9 h];dsimp only;rw[P3 (n:=l[j]) (by omega) (by omega),Ff (by omega),P3 (n:=a*64) (by omega) (by omega),P3 (by omega) (by omega),I9 (by omega),S2 h];refine aU (a*64+l[j] % 64,j+1) ⟨by simp only;omega,by simp only;omega,by simp only;omega,?_⟩ (by simp only;omega);show a*64+l[j] % 64<4*64^(j+1);rw[Hj];omega
  ·rw[As (by omega:¬(j:Int)<(l.length:Int)),Aq,a8,C9r,Bi (by omega)];rfl
 ·refine⟨Bg _,h1,by simp only;exact Fg _ (by omega),?_⟩;have:l[0] % q<q:=Fh _ (by omega);have lQ:q<=128:=by
   rw[wa];split<;>decide
  simp only;omega
 ·have wb:l.length=1\/l.length=2\/l.length=3\/l.length=4:=by omega
  have dZ:=C7F l h1 h4 hB q wa;dsimp only;rw[dZ.1,w32 (by omega) (by omega)]
theorem D3H{c:Int}(h:D5 c=true):isB (u8F c)=true:=by
 rw[V2]at h;rw[A15];intro x hx;unfold u8F at hx;split at hx
 ·simp at hx;omega
 ·split at hx
  ·simp at hx;omega
  ·split at hx
   ·simp at hx;omega
   ·simp at hx;omega
theorem C3j:∀{a b:Aa},isB a=true->isB b=true->toB a=toB b->a=b
 |[],[],_,_,_=>rfl
 |[],_::_,_,_,h=>by simp[toB]at h
 |_::_,[],_,_,h=>by simp[toB]at h
 |x::a,y::b,ha,hb,h=>by
  rw[A15]at ha hb;have hx:=ha x (by simp);have hy:=hb y (by simp);simp only[toB,Ci,Bm]at h;have h1:=congrArg Cq h.1;rw[A0N (by omega),A0N (by omega)]at h1;rw[C3j (A15.2 λz hz=>ha z (by simp[hz])) (A15.2 λz hz=>hb z (by simp[hz])) h.2,show x=y by omega]
theorem C6j{c:Int}(h:D5 c=true):I6 (u8F c)=c:=by
 rw[V2]at h;unfold u8F;by_cases h1:c<128
 ·rw[Au h1];simp only[I6];omega
 rw[At h1];by_cases h2:c<2048
 ·rw[Au h2];simp only[I6];omega
 rw[At h2];by_cases h3:c<65536
 ·rw[Au h3];simp only[I6];omega
 ·rw[At h3];simp only[I6];omega
theorem C1N{l:Aa}(h:isB l=true)(k:Nat):isB (l.take k)=true:=A15.2 λx hx=>A15.1 h x (List.mem_of_mem_take hx)
theorem C6E{l:Aa}(h:isB l=true)(k:Nat):isB (l.drop k)=true:=A15.2 λx hx=>A15.1 h x (Jo hx)
theorem D5q(l:Aa)(k:Nat):toB (l.take k)=(toB l).take k:=by simp[toB,List.map_take]
theorem C7g(l:Aa)(k:Nat):toB (l.drop k)=(toB l).drop k:=by simp[toB,Hg]
theorem D6Q{l:Aa}:toB l=[]↔l=[]:=by simp[toB]
def hit(l:Aa)(k:Nat):Prop:=O2 (I6 (l.take k))=l.take k
theorem D4C{l:Aa}{k:Nat}(h1:1<=k)(hk:k<=l.length)(h:hit l k):X3 (toB l)=false/\Az (toB l)=((I6 (l.take k)).toNat,k)/\0<=I6 (l.take k):=by
 unfold hit at h;have aj:(l.take k).length=k:=by rw[Ck];omega
 have hv:D5 (I6 (l.take k))=true:=by
  cases hv:D5 (I6 (l.take k))with
  |true=>rfl
  |false=>
   unfold O2 at h;rw[hv]at h;have:=congrArg Ax h;rw[aj]at this;simp at this;omega
 have hp:O2 (I6 (l.take k))=u8F (I6 (l.take k)):=by unfold O2;rw[hv];rfl
 rw[hp]at h;have hs:toB l=toB (u8F (I6 (l.take k)))++toB (l.drop k):=by rw[h, <-C2x,Fz]
 obtain⟨d1,d2⟩:=C2A hv (toB (l.drop k));have eU:(u8F (I6 (l.take k))).length=k:=by rw[h,aj]
 rw[<-hs]at d1 d2;rw[eU]at d1;exact⟨d2,d1,by have:=V2.1 hv;omega⟩
theorem D2N{l:Aa}(hB:isB l=true)(av:l≠[])(hb:X3 (toB l)=false):hit l (Az (toB l)).2/\1<=(Az (toB l)).2/\(Az (toB l)).2<=4/\(Az (toB l)).2<=l.length:=by
 have qu:toB l≠[]:=λe=>av (D6Q.1 e);have hv:=B6h (toB l);have he:=B9e qu hb;have hw:=Do (toB l);have aZ:=Fs (toB l) qu;rw[A0j]at aZ;rw[<-D5q]at he;have dN:=C3j (D3H hv) (C1N hB _) he;have hu:=A8Z ((Az (toB l)).1:Int);have hl:(l.take (Az (toB l)).2).length=(Az (toB l)).2:=by rw[Ck];omega
 rw[dN,hl]at hu;refine⟨?_,hw,by omega,aZ⟩;unfold hit;rw[<-dN,C6j hv];unfold O2;rw[Au hv]
theorem C9x(l:Aa)(hB:isB l=true)(h1:1<=l.length)(hr:A2 l.length 1=true)(n:Nat)(hn:5<n):A3 A07 n Di [.sl .u8 l none]=some (.tup [.int .i32 (P4 l).1,.int .i64 (P4 l).2]):=by
 have aj:=G9.1 hr;have av:l≠[]:=λe=>by subst e;simp at h1
 rw[D08];refine(H9 (λk:Nat=>A6q l k) (λk=>1<=k/\k<=5/\k<=l.length+1/\∀j,1<=j->j<k->¬hit l j) (λk=>5 - k) (λk=>(some (.tup [.int .i32 (P4 l).1,.int .i64 (P4 l).2]):Ad)) ?_ n 1 ⟨Bg _,by omega,by omega,λj h1 h2=>by omega⟩ (by omega));intro k ⟨k1,k2,k3,cY⟩ K a8 bH aU;rw[D5s];have qv:l.length<k\/4<k->P4 l=(0,0):=λh=>by
  unfold P4;cases hb:X3 (toB l)with
  |true=>rfl
  |false=>
   obtain⟨g1,g2,g3,g4⟩:=D2N hB av hb;exact absurd g1 (cY _ g2 (by omega))
 by_cases h4:k<=4
 ·rw[Ar (by omega:(k:Int)<=4)];by_cases hk:k<=l.length
  ·have hs:sub l 0 (k:Int)=some (l.take k):=by
    have:=A6V (l:=l) (lo:=0) (hi:=k) (Bh _) hk;simpa using this
   have fb:(l.take k).length=k:=by rw[Ck];omega
   rw[Ar (by omega:(k:Int)<=(l.length:Int)),hs];dsimp only;rw[C1N hB k,Ar (by rw[fb];exact k1:1<=(l.take k).length),Ar (by rw[fb];exact h4:(l.take k).length<=4),I9 (by omega)];have cU:¬hit l k->K .normal (A6q l ((k+1:Nat):Int))=some (.tup [.int .i32 (P4 l).1,.int .i64 (P4 l).2]):=λxS=>
    aU (k+1) ⟨by omega,by omega,by omega,λj j1 j2=>by
     by_cases hj:j=k
     ·subst hj;exact xS
     ·exact cY j j1 (by omega)⟩ (by omega)
   by_cases iI:(O2 (I6 (l.take k))).length=k
   ·rw[beqT (by omega:((O2 (I6 (l.take k))).length:Int)=(k:Int)),G9.2 (by omega),G9.2 (by omega)];by_cases hh:hit l k
    ·obtain⟨g1,g2,g3⟩:=D4C k1 hk hh;have he:eqI (O2 (I6 (l.take k))) (l.take k)=true:=by unfold eqI;rw[show O2 (I6 (l.take k))=l.take k from hh];exact BEq.rfl
     rw[he];refine(bH _).trans ?_;unfold P4;rw[g1,g2];dsimp only;have:(((I6 (l.take k)).toNat:Nat):Int)=I6 (l.take k):=by omega
     rw[this];rfl
    ·have he:eqI (O2 (I6 (l.take k))) (l.take k)=false:=by unfold eqI;exact beq_false_of_ne hh
     rw[he];exact cU hh
   ·rw[beqF (by omega:((O2 (I6 (l.take k))).length:Int)≠(k:Int))];exact cU (λhh=>iI (by rw[show O2 (I6 (l.take k))=l.take k from hh,fb]))
  ·rw[As (by omega:¬(k:Int)<=(l.length:Int)),qv (.inl (by omega))];exact(a8 _ _).trans (D03 n l k _)
 ·rw[As (by omega:¬(k:Int)<=4),qv (.inr (by omega))];exact(a8 _ _).trans (D4B n l k)
theorem D7H(l:Aa)(hB:isB l=true)(hl:smL l=true)(n:Nat)(hn:l.length<n):A3 A05 n Df [.sl .u8 l none]=some (.tup [.sl .i32 (C5 (toB l)).1 (some 1),.int .i64 ((C5 (toB l)).2:Nat)]):=by
 have aj:=Z5 hl;rw[C7r];refine(H9 (λp:Aa×Nat=>A74 l p.1 p.2) (λp=>p.1.length<=p.2/\p.2<=l.length) (λp=>l.length - p.2) (λp=>A0s p.1 p.2 (C5 (toB (l.drop p.2)))) ?_ n ([],0) (by simp) (by simp only;omega)).trans (by simp[A0s]);rintro⟨out,i⟩ ⟨h1,h2⟩ K a8 bH aU;dsimp only at h1 h2 aU ⊢;rw[D5n];by_cases h:i<l.length
 ·have dl:(l.drop i).length=l.length - i:=Bb;have av:toB (l.drop i)≠[]:=λe=>by
   have:=congrArg Ax e;rw[A0j,dl,Bw]at this;omega
  rw[Ar (by omega:(i:Int)<(l.length:Int)),Ap,A80 (by omega)];dsimp only;rw[C6E hB i,Ar (by omega:1<=(l.drop i).length),G9.2 (by omega),G9.2 (by omega)];have hw:=Do (toB (l.drop i));have aZ:=Fs (toB (l.drop i)) av;rw[A0j,dl]at aZ;cases hb:X3 (toB (l.drop i))with
  |true=>
   have:P4 (l.drop i)=(0,0):=by unfold P4;rw[hb];rfl
   rw[this,B5C hb];refine Cm (a8 _ _) ((C6L n l out i 0 0 true).trans ?_);simp[A0s]
  |false=>
   have:P4 (l.drop i)=(((Az (toB (l.drop i))).1:Int),((Az (toB (l.drop i))).2:Int)):=by unfold P4;rw[hb];rfl
   rw[this];dsimp only;rw[beqF (by omega:((Az (toB (l.drop i))).2:Int)≠0),A04 (by omega)];refine Cm (b:=K .normal (A74 l (out++[((Az (toB (l.drop i))).1:Int)]) ((i+(Az (toB (l.drop i))).2:Nat):Int))) rfl ?_;refine(aU (out++[((Az (toB (l.drop i))).1:Int)],i+(Az (toB (l.drop i))).2) ⟨by simp;omega,by simp only;omega⟩ (by simp only;omega)).trans ?_;dsimp only;rw[A9e av hb, <-C7g,Dm];unfold A0s;simp[He]
 ·rw[As (by omega:¬(i:Int)<(l.length:Int)),Aq,a8,D4i,Bi (by omega),show toB []=[]from rfl,A9D];simp[A0s]
theorem D4f(x:Nat)(h:x<2147483648):bits .and .i32 (x:Int) 1023=((x % 1024:Nat):Int):=by
 show IntKind.i32.wrap ((Gi 32 (x:Int)&&& Gi 32 ((1023:Nat):Int)).toNat:Int)=_;rw[Kb,ofInt_u32 x (by omega),ofInt_u32 1023 (by omega),show(1023:Nat)=2^10 - 1 from rfl,Je];exact wrap_i32_small _ (by omega)
theorem C9J(x:Nat)(h:x<2147483648):bits .and .i64 (x:Int) 15=((x % 16:Nat):Int):=by
 show IntKind.i64.wrap ((Gi 64 (x:Int)&&& Gi 64 ((15:Nat):Int)).toNat:Int)=_;rw[Kb,ofInt_u64 x (by omega),ofInt_u64 15 (by omega),show(15:Nat)=2^4 - 1 from rfl,Je];exact wrap_i64_small _ (by omega)
theorem B4R{c:Int}(h1:65536<=c)(h2:c<=1114111):E0 c=(55296+(c - 65536) / 1024,56320+(c - 65536) % 1024,true):=by
 unfold E0;rw[As (by omega:¬c<65536),As (by omega:¬1114111<c)];rfl
theorem A56{c:Int}(h:c<65536\/1114111<c):E0 c=(0,0,false):=by
 unfold E0;rcases h with h|h
 ·rw[Ar h];rfl
 ·rw[Ar h,Bool.or_true];rfl
theorem C8x(c:Int)(n:Nat):A3 B2p n Tryz.f222 [.int .i32 c]=some (.tup [.int .i32 (E0 c).1,.int .i32 (E0 c).2.1,.bool (E0 c).2.2]):=by
 rw[D2a];by_cases h1:c<65536
 ·rw[Ar h1,A56 (.inl h1)];rfl
 ·rw[As h1];by_cases h2:1114111<c
  ·rw[Ar (show c>1114111 from h2),A56 (.inr h2)];rfl
  ·rw[As (show¬c>1114111 from h2),B4R (by omega) (by omega),w32 (n:=c - 65536) (by omega) (by omega)];have e:c - 65536=(((c - 65536).toNat:Nat):Int):=by omega
   have e2:bits .and .i32 (c - 65536) 1023=(c - 65536) % 1024:=by
    rw[e,D4f _ (by omega)];omega
   have e3:(c - 65536) / 2^(Ay 10)=(c - 65536) / 1024:=rfl;rw[e2,e3,w32 (n:=55296+_) (by omega) (by omega),w32 (n:=56320+_) (by omega) (by omega)];rfl
theorem D36(c:Int)(n:Nat):A3 B27 n Tryz.f227 [.int .i32 c]=some (.tup [.int .i32 (E0 c).1,.int .i32 (E0 c).2.1,.bool (E0 c).2.2]):=by
 rw[C9a];by_cases h1:c<65536
 ·rw[Ar h1,A56 (.inl h1)];rfl
 ·rw[As h1];by_cases h2:1114111<c
  ·rw[Ar (show c>1114111 from h2),A56 (.inr h2)];rfl
  ·rw[As (show¬c>1114111 from h2),B4R (by omega) (by omega),w32 (n:=c - 65536) (by omega) (by omega)];rw[Gg (by omega),Ff (by omega),w32 (n:=(c - 65536) / 1024) (by omega) (by omega),w32 (n:=55296+_) (by omega) (by omega),w32 (n:=56320+_) (by omega) (by omega)];rfl
def digT:Ab:=[48,49,50,51,52,53,54,55,56,57,65,66,67,68,69,70]
theorem D71:∀i:Fin 16,((digT[i.1]'i.2).toNat:Int)=Q4 i.1:=by decide
def Y6(c:Int):Aa:=[Q4 (c / 4096 % 16),Q4 (c / 256 % 16),Q4 (c / 16 % 16),Q4 (c % 16)]
theorem C1I(c:Int):H6 c=[92,117]++Y6 c:=rfl
theorem B8H{c:Int}(h0:0<=c)(h1:c<=65535)(j:Nat)(hj:j<4):(Y6 c)[j]'(by simpa [Y6]using hj)=Q4 (c / 2^(12 - 4*j) % 16):=by
 have:j=0\/j=1\/j=2\/j=3:=by omega
 rcases this with rfl|rfl|rfl|rfl
 ·rfl
 ·rfl
 ·rfl
 ·show Q4 (c % 16)=Q4 (c / 2^0 % 16);rw[Int.pow_zero,Int.ediv_one]
theorem D4l(k:Nat):(0:Int)<2^k:=Jx (by omega)
theorem B94{c:Int}(h0:0<=c)(h1:c<=65535)(k:Nat):0<=c / 2^k/\c / 2^k<=65535:=by
 have hp:=D4l k;exact⟨Int.ediv_nonneg h0 (by omega),Int.le_trans (Int.ediv_le_self _ h0) h1⟩
theorem C5t{c:Int}(h0:0<=c)(h1:c<=65535)(k:Nat):∃d:Nat,∃hd:d<16,bits .and .i32 (c / 2^k) 15=(d:Int)/\bits .and .i64 (c / 2^k) 15=(d:Int)/\((digT[d]'hd).toNat:Int)=Q4 (c / 2^k % 16):=by
 obtain⟨b0,b1⟩:=B94 h0 h1 k;have e:c / 2^k=(((c / 2^k).toNat:Nat):Int):=by omega
 refine⟨(c / 2^k).toNat % 16,Nat.mod_lt _ (by omega),?_,?_,?_⟩
 ·rw[e,and15_i32 _ (by omega)];rfl
 ·rw[e,C9J _ (by omega)];rfl
 ·rw[D71 ⟨(c / 2^k).toNat % 16,Nat.mod_lt _ (by omega)⟩];dsimp only
  congr 1
  omega
theorem C7f(l:Aa)(c:Int)(hr:A2 (l.length+6) 4=true)(h0:0<=c)(h1:c<=65535)(n:Nat)(hn:5<n):A3 A2E n Ei [.sl .i32 l (some 0),.int .i32 c]=some (.one (.sl .i32 (K6 l (H6 c)) (some 0))):=by
 have aj:=G9.1 hr;rw[D5I,A4q hr (by omega:l.length+2<=l.length+6),Ap];have hD:(Y6 c).length=4:=rfl;have cO:A54 (l++[92,117]) c 12=A54 (l++[92,117]++(Y6 c).take 0) c (12 - 4*((0:Nat):Int)):=by rw[Jh,Bx];rfl
 rw[cO];refine(H9 (λj:Nat=>A54 (l++[92,117]++(Y6 c).take j) c (12 - 4*(j:Int))) (λj=>j<=4) (λj=>4 - j) (λj=>(some (.one (.sl .i32 (K6 l (H6 c)) (some 0))):Ad)) ?_ n 0 (Bh _) (by omega));intro j hj K a8 bH aU;rw[D2k];by_cases h:j<4
 ·obtain⟨d,hd,e1,_,e3⟩:=C5t h0 h1 (12 - 4*j);have gK:(12 - 4*(j:Int)).toNat=12 - 4*j:=by omega
  have hb:=A3B (digT[d]'hd);rw[Ar (by omega:12 - 4*(j:Int)>=0),Ar (by omega:12 - 4*(j:Int)<=31),gK,e1,show idx [48,49,50,51,52,53,54,55,56,57,65,66,67,68,69,70] (d:Int)=some (digT[d]'hd)from D9 (l:=digT) hd];dsimp only;have hl:(l++[92,117]++(Y6 c).take j).length=l.length+2+j:=by simp[hD];omega
  have hw:Aw .i64 (12 - 4*(j:Int) - 4)=12 - 4*((j+1:Nat):Int):=by rw[P3 (by omega) (by omega)];omega
  rw[hl,G9.2 (by omega),w32 (by omega) (by omega),hw,e3, <-B8H h0 h1 j h];refine Cm ?_ (aU (j+1) (by omega) (by omega));rw[Cc (by omega:j<(Y6 c).length), <-Fe];rfl
 ·have:j=4:=by omega
  subst this;rw[As (by decide:¬(12:Int) - 4*((4:Nat):Int)>=0),Aq,a8,C7B,Bq (by omega)];unfold K6;rw[C1I,Fe]
theorem C3r{d:Int}(h0:0<=d)(h1:d<16):48<=Q4 d/\Q4 d<=70:=by unfold Q4;split<;>omega
theorem D2T{x:Int}(h:x<128):toB (u8F x)=[Dq x.toNat]:=by unfold u8F;rw[Au h];rfl
theorem C5N{x:Int}(h:x<128):B2 [x]=[Dq x.toNat]:=by rw[A0n,D2T h,A8B];rfl
theorem D7M(c:Int)(h0:0<=c)(h1:c<=65535)(n:Nat)(hn:5<n):A3 A17 n Eh [.int .i32 c]=some (.one (.str (B2 (H6 c)))):=by
 rw[C6B];have hD:(Y6 c).length=4:=rfl;refine(H9 (λj:Nat=>B19 c digT ([92,117]++B2 ((Y6 c).take j)) (12 - 4*(j:Int))) (λj=>j<=4) (λj=>4 - j) (λj=>(some (.one (.str (B2 (H6 c)))):Ad)) ?_ n 0 (Bh _) (by omega));intro j hj K a8 bH aU;rw[D15];by_cases h:j<4
 ·obtain⟨d,hd,_,e2,e3⟩:=C5t h0 h1 (12 - 4*j);obtain⟨b0,b1⟩:=B94 h0 h1 (12 - 4*j);have gK:(12 - 4*(j:Int)).toNat=12 - 4*j:=by omega
  have hs:sub digT (d:Int) ((d+1:Nat):Int)=some [digT[d]'hd]:=by
   rw[A6V (by omega) (by have:digT.length=16:=rfl;omega)];have:d+1 - d=1:=by omega
   rw[this,Bz (l:=digT) hd];rfl
  have zz:=C3r (d:=c / 2^(12 - 4*j) % 16) (Fg _ (by omega)) (Fh _ (by omega));have aW:B2 [Q4 (c / 2^(12 - 4*j) % 16)]=[digT[d]'hd]:=by
   rw[C5N (by omega), <-e3];simp
  rw[Ar (by omega:12 - 4*(j:Int)>=0),Ar (by omega:12 - 4*(j:Int)<=31),gK,P3 (n:=c / _) (by omega) (by omega),e2,I9 (by omega),hs];dsimp only;have eU:=A3n ((Y6 c).take j);have xT:((Y6 c).take j).length<=4:=by rw[Ck];omega
  have hw:Aw .i64 (12 - 4*(j:Int) - 4)=12 - 4*((j+1:Nat):Int):=by rw[P3 (by omega) (by omega)];omega
  have dl:decide ((([92,117]:Ab)++B2 ((Y6 c).take j)).length+[digT[d]'hd].length<=9223372036854775807)=true:=by
   refine Ar ?_;rw[Bo];simp only[Be,Bw];omega
  rw[dl,hw];refine Cm ?_ (aU (j+1) (by omega) (by omega));rw[Cc (by omega:j<(Y6 c).length),A2e,B8H h0 h1 j h,aW, <-Fe];rfl
 ·have:j=4:=by omega
  subst this;rw[As (by decide:¬(12:Int) - 4*((4:Nat):Int)>=0),Aq,a8,D4h,Bq (by omega),C1I,A2e];rfl
theorem A45(c:Int):(H6 c).length=6:=rfl
theorem C4M{c:Int}(h:(E0 c).2.2=true):(0<=(E0 c).1/\(E0 c).1<=65535)/\(0<=(E0 c).2.1/\(E0 c).2.1<=65535)/\65536<=c/\c<=1114111:=by
 by_cases h1:c<65536\/1114111<c
 ·rw[A56 h1]at h;cases h
 ·rw[B4R (by omega) (by omega)];dsimp only;omega
theorem B8K{c:Int}(h:c<65536):(E0 c).2.2=false:=by rw[A56 (.inl h)]
theorem B7w{c:Int}(h:c≠34/\c≠92/\c≠8/\c≠9/\c≠10/\c≠12/\c≠13):wrF c=if(E0 c).2.2 then H6 (E0 c).1++H6 (E0 c).2.1 else if c<32\/c=127 then H6 c else [c]:=by
 obtain⟨h1,h2,h3,h4,h5,h6,h7⟩:=h;unfold wrF;rw[At (by omega),At h3,At h4,At h5,At h6,At h7]
theorem A7Y(c:Int):1<=(wrF c).length/\(wrF c).length<=12:=by
 unfold wrF
 repeat' split
 all_goals simp[A45]
theorem B3v{c:Int}:(H6 c).all D5=true:=by
 have hd:∀x:Int,0<=x->x<16->D5 (Q4 x)=true:=λx h0 h1=>by
  have:=C3r h0 h1;rw[V2];omega
 unfold H6;simp only[By,List.all_nil,Jz];rw[hd _ (Fg _ (by omega)) (Fh _ (by omega)),hd _ (Fg _ (by omega)) (Fh _ (by omega)),hd _ (Fg _ (by omega)) (Fh _ (by omega)),hd _ (Fg _ (by omega)) (Fh _ (by omega))];decide
theorem D1g{c:Int}(h:D5 c=true):(wrF c).all D5=true:=by
 unfold wrF;split
 ·rename_i h1;rcases h1 with rfl|rfl<;>decide
 ·split
  ·decide
  ·split
   ·decide
   ·split
    ·decide
    ·split
     ·decide
     ·split
      ·decide
      ·split
       ·rw[Cf,B3v,B3v];rfl
       ·split
        ·exact B3v
        ·simp[h]
theorem C77(l:Aa)(c:Int)(hr:A2 (l.length+12) 4=true)(hv:D5 c=true)(n:Nat):A3 B4a n Tryz.f197 [.sl .i32 l (some 0),.int .i32 c]=some (.one (.sl .i32 (K6 l (wrF c)) (some 0))):=by
 have h:=V2.1 hv;rw[C97,A4q hr (by omega:l.length+2<=l.length+12),A4q hr (by omega:l.length+6<=l.length+12),A4q hr (by omega:l.length+1<=l.length+12)];by_cases c1:c=34
 ·subst c1;rfl
 rw[beqF c1];by_cases c2:c=92
 ·subst c2;rfl
 rw[beqF c2];by_cases c3:c=8
 ·subst c3;rfl
 rw[beqF c3];by_cases c4:c=9
 ·subst c4;rfl
 rw[beqF c4];by_cases c5:c=10
 ·subst c5;rfl
 rw[beqF c5];by_cases c6:c=12
 ·subst c6;rfl
 rw[beqF c6];by_cases c7:c=13
 ·subst c7;rfl
 rw[beqF c7,B7w ⟨c1,c2,c3,c4,c5,c6,c7⟩];cases hs:(E0 c).2.2 with
 |true=>
  obtain⟨⟨s1,s2⟩,⟨s3,s4⟩,_⟩:=C4M hs;have hl:(K6 l (H6 (E0 c).1)).length+6=l.length+12:=by unfold K6;rw[Bo,A45]
  rw[Ar s1,Ar s2,Ar s3,Ar s4,hl,hr,Au rfl];show some _=some _;unfold K6;rw[Fe]
 |false=>
  rw[At (by simp)];by_cases c8:c<32
  ·rw[Ar c8,Ar (by omega:0<=c),Ar (by omega:c<=65535),Au (.inl c8)];rfl
  ·rw[As c8];by_cases c9:c=127
   ·rw[beqT c9,Ar (by omega:0<=c),Ar (by omega:c<=65535),Au (.inr c9)];rfl
   ·rw[beqF c9,At (by omega)];rfl
def wnT:Ab:=[34,92,98,102,110,114,116]
def wmT:Ab:=[34,92,8,12,10,13,9]
theorem D4p:∀i:Fin 7,B2 (wrF ((wmT[i.1]'i.2).toNat:Int))=[92,wnT[i.1]'i.2]:=by decide+kernel
theorem D6G(c:Int)(hv:D5 c=true)(n:Nat)(hn:7<n):A3 A2z n Ek [.int .i32 c]=some (.one (.str (B2 (wrF c)))):=by
 have cT:=V2.1 hv;rw[C6M];have hM:wmT.length=7:=rfl;refine(H9 (λi:Nat=>A97 c wnT wmT i) (λi=>i<=7/\∀j:Nat,∀hj:j<7,j<i->((wmT[j]'hj).toNat:Int)≠c) (λi=>7 - i) (λi=>(some (.one (.str (B2 (wrF c)))):Ad)) ?_ n 0 ⟨Bh _,λj _ h=>absurd h (Hc _)⟩ (by omega));intro i ⟨hi,hb⟩ K a8 bH aU;rw[C6N];by_cases h:i<7
 ·have h1:=A3B (wmT[i]'h);have ht:=D4p ⟨i,h⟩;have hs:sub wnT (i:Int) ((i+1:Nat):Int)=some [wnT[i]'h]:=by
   rw[A6V (by omega) (by have:wnT.length=7:=rfl;omega)];have:i+1 - i=1:=by omega
   rw[this,Bz (l:=wnT) h];rfl
  rw[Ar (by omega:(i:Int)<(wmT.length:Int)),Ap,D9 (l:=wmT) h,I9 (by omega),hs];dsimp only;rw[w32 (by omega) (by omega)];cases hc:((wmT[i]'h).toNat:Int)==c with
  |true=>
   simp only[beq_iff_eq]at hc;rw[<-hc,ht];exact(bH _).trans rfl
  |false=>
   rw[Aq];refine aU (i+1) ⟨by omega,λj hj dP=>?_⟩ (by omega);by_cases kg:j<i
   ·exact hb j hj kg
   ·have:j=i:=by omega
    subst this;exact λe=>by simp[e]at hc
 ·have g0:(34:Int)≠c:=hb 0 (by omega) (by omega);have g1:(92:Int)≠c:=hb 1 (by omega) (by omega);have g2:(8:Int)≠c:=hb 2 (by omega) (by omega);have g3:(12:Int)≠c:=hb 3 (by omega) (by omega);have g4:(10:Int)≠c:=hb 4 (by omega) (by omega);have g5:(13:Int)≠c:=hb 5 (by omega) (by omega);have g6:(9:Int)≠c:=hb 6 (by omega) (by omega);rw[As (by omega:¬(i:Int)<(wmT.length:Int)),Aq,a8,D8l,B7w ⟨by omega,by omega,by omega,by omega,by omega,by omega,by omega⟩];by_cases c8:c<32
  ·rw[Ar c8,Ar (by omega:0<=c),Ar (by omega:c<=65535),B8K (by omega),At (by simp),Au (.inl c8)];rfl
  ·rw[As c8];by_cases c9:c=127
   ·rw[beqT c9,Ar (by omega:0<=c),Ar (by omega:c<=65535),B8K (by omega),At (by simp),Au (.inr c9)];rfl
   ·rw[beqF c9];cases hs:(E0 c).2.2 with
    |true=>
     obtain⟨⟨s1,s2⟩,⟨s3,s4⟩,_⟩:=C4M hs;have l1:=A3n (H6 (E0 c).1);have l2:=A3n (H6 (E0 c).2.1);rw[A45]at l1 l2;rw[Ar s1,Ar s2,Ar s3,Ar s4,Ar (by omega:(B2 (H6 (E0 c).1)).length+(B2 (H6 (E0 c).2.1)).length<=9223372036854775807),Au rfl,A2e];rfl
    |false=>
     rw[At (by simp),At (by omega),A8e (by simp[hv])];rfl
theorem D4v(cs:Aa):(cs.flatMap wrF).length<=12*cs.length:=by
 induction cs with
 |nil=>simp
 |cons c cs ih=>have:=A7Y c;rw[Ca,Bo,Be];omega
theorem D1X{cs:Aa}(h:cs.all D5=true):(cs.flatMap wrF).all D5=true:=by
 induction cs with
 |nil=>rfl
 |cons c cs ih=>
  simp only[By,Bn]at h;rw[Ca,Cf,D1g h.1,ih h.2];rfl
theorem D7Q{cs:Aa}(h:cs.all D5=true):(qtC cs).all D5=true:=by
 unfold qtC;rw[Cf,By,D1X h];decide
theorem B5c{cs:Aa}{p:Int->Bool}(h:cs.all p=true){i:Nat}(hi:i<cs.length):p cs[i]=true:=Ce.1 h _ (Bp hi)
theorem D5e(s:Ab)(hs:smS s=true)(n:Nat)(hn:s.length<n):A3 A20 n Ey [.str s]=some (.tup [.str (qtF s).1,.int .i64 (qtF s).2]):=by
 have aj:=A6a.1 hs;obtain⟨d1,d2,d3,d4⟩:=decF_enc _ s (Bg _);rw[D6l,hs,Ap];unfold qtF;by_cases h:(C5 s).2<s.length
 ·rw[Ar (by omega:(((C5 s).2:Nat):Int)<(s.length:Int)),Au h];rfl
 ·rw[As (by omega:¬(((C5 s).2:Nat):Int)<(s.length:Int)),At h,Aq];generalize ct:(C5 s).1=cs at d2 d4;refine(H9 (λi:Nat=>B1s (34::(cs.take i).flatMap wrF) cs (cs.length:Int) i) (λi=>i<=cs.length) (λi=>cs.length - i) (λi=>(some (.tup [.str (B2 (qtC cs)),.int .i64 0]):Ad)) ?_ n 0 (Bh _) (by omega));intro i hi K a8 bH aU;have cS:=D4v (cs.take i);have fb:(cs.take i).length<=i:=Fk _ _;rw[D7V];by_cases h2:i<cs.length
  ·rw[Ar (by omega:(i:Int)<(cs.length:Int)),Ap,D9 h2];dsimp only;rw[G9.2 (by rw[Be];omega),B5c d2 h2,I9 (by omega)];refine Cm ?_ (aU (i+1) (by omega) (by omega));unfold K6;rw[Cc h2,Fo];simp
  ·rw[As (by omega:¬(i:Int)<(cs.length:Int)),Aq,a8,C8a,Bq (by omega)];rw[Bq (by omega)]at cS;rw[G9.2 (by rw[Be];omega),T9.2 (by rw[Bo,Be];simp only[Be,Bw];omega),A8e (show((34::cs.flatMap wrF)++[34]).all D5=true from D7Q d2)];rfl
theorem C0Q(s:Ab):toB (s.map λc=>(c.toNat:Int))=s:=by
 unfold toB;rw[List.map_map];have:((λn:Int=>Dq n.toNat)∘λc:UInt8=>(c.toNat:Int))=id:=by
  funext c
  simp
 rw[this,List.map_id]
theorem B9m(s:Ab):isB (s.map λc=>(c.toNat:Int))=true:=by
 rw[A15];intro x hx;obtain⟨c,_,rfl⟩:=List.mem_map.1 hx;exact A3B c
theorem D2m(cs:Aa):B2 (cs.flatMap wrF)=cs.flatMap λc=>B2 (wrF c):=by
 induction cs with
 |nil=>rfl
 |cons c cs ih=>rw[Ca,Ca,A2e,ih]
theorem D0n(cs:Aa):(cs.flatMap λc=>B2 (wrF c)).length<=48*cs.length:=by
 induction cs with
 |nil=>simp
 |cons c cs ih=>have:=A7Y c;have h2:=A3n (wrF c);rw[Ca,Bo,Be];omega
theorem D3t(s:Ab)(hs:smS s=true)(n:Nat)(hn:s.length<n):A3 A0x n Ew [.str s]=some (.tup [.str (qtF s).1,.int .i64 (qtF s).2]):=by
 have aj:=A6a.1 hs;obtain⟨d1,d2,d3,d4⟩:=decF_enc _ s (Bg _);rw[B3t,G9.2 (by omega),C0Q,B9m,A8G.2 (by rw[Fl];omega)];unfold qtF;by_cases h:(C5 s).2<s.length
 ·rw[U7 (by omega:(((C5 s).2:Nat):Int)≠(s.length:Int)),Au h];rfl
 ·rw[A0i (by omega:(((C5 s).2:Nat):Int)=(s.length:Int)),At h];show D1 _ n _ _=_;generalize ct:(C5 s).1=cs at d2 d4;refine(H9 (λi:Nat=>B1K cs (34::(cs.take i).flatMap λc=>B2 (wrF c)) i) (λi=>i<=cs.length) (λi=>cs.length - i) (λi=>(some (.tup [.str (B2 (qtC cs)),.int .i64 0]):Ad)) ?_ n 0 (Bh _) (by omega));intro i hi K a8 bH aU;have cS:=D0n (cs.take i);have fb:(cs.take i).length<=i:=Fk _ _;rw[D3I];by_cases h2:i<cs.length
  ·have hw:=A7Y cs[i];have mW:=A3n (wrF cs[i]);rw[Ar (by omega:(i:Int)<(cs.length:Int)),Ap,D9 h2];dsimp only;have dl:decide ((34::(cs.take i).flatMap λc=>B2 (wrF c)).length+(B2 (wrF cs[i])).length<=9223372036854775807)=true:=Ar (by rw[Be];omega);rw[B5c d2 h2,dl,I9 (by omega)];refine Cm ?_ (aU (i+1) (by omega) (by omega));rw[Cc h2,Fo];simp
  ·rw[As (by omega:¬(i:Int)<(cs.length:Int)),Aq,a8,C8T,Bq (by omega)];rw[Bq (by omega)]at cS;have dl:decide ((34::cs.flatMap λc=>B2 (wrF c)).length+([34]:Aj).length<=9223372036854775807)=true:=Ar (by rw[Be];simp only[Be,Bw];omega);rw[dl,Ap];unfold qtC;rw[A2e,A0n,D2m];rfl
end Go.Aev.Bv
namespace Go.Aev.Bv
open Go.Proofs
def E41:Env Ty6 A4:=mk6 noT noC (lkE [(0,[2]),(1,[0,3,4,5,6,7,8])]) 9
theorem D7d(n:Nat)(a0:Int):A3 E41 n Tryz.f194 [.int .i32 a0]=
  bif(a0==9)==false then(some (.one (.bool (a0==32))))else(some (.one (.bool true))):=by
 kernel_rfl
def T28:T6:=λf ls=>match f with
 |194=>S41 ls
 |_=>none
def E28:Env Ty6 A4:=mk6 T28 noC (lkE [(0,[2]),(2,[4,5,6,7,8,9,10,11,12,13]),(3,[14,15,16]),(4,[0,3,14,17])]) 18
def B16(x0:Aa)(x3:Int):S6:=⟨[(0,.one (.sl .i32 x0 none)),(3,.one (.int .i64 x3))],[]⟩
theorem C8p(n:Nat)(a0:Aa):A3 E28 n Dg [.sl .i32 a0 none]=
  D1 (lbC E28 (A1 Dg [1,1,0,0,0]) 10002 n) n (B16 a0 0) (A5 0 (C1 (B1 E28 n (A1 Dg [1,1,1])) (A9 E28 Tryz.f237.results.toList))):=by
 kernel_rfl
theorem D1a(n:Nat)(x0:Aa)(x3:Int)(K:Ex->S6->Ad):lbC E28 (A1 Dg [1,1,0,0,0]) 10002 n (B16 x0 x3) K=
  bif(decide (x3<(Ax x0:Int)))==true then(match idx x0 x3 with|none=>none|some y1=>(bif K4 y1 then(K .normal (B16 x0 (Aw .i64 (x3+1))))else(K (.exit 0) ⟨[(0,.one (.sl .i32 x0 none)),(3,.one (.int .i64 x3)),(14,.one (.bool (K4 y1)))],[]⟩)))else(K (.exit 0) ⟨[(0,.one (.sl .i32 x0 none)),(3,.one (.int .i64 x3)),(14,.one (.bool false))],[]⟩):=by
 kernel_rfl
theorem D5t(n:Nat)(x0:Aa)(x3:Int)(bB:Bool):(A5 0 (C1 (B1 E28 n (A1 Dg [1,1,1])) (A9 E28 Tryz.f237.results.toList))) (.exit 0) ⟨[(0,.one (.sl .i32 x0 none)),(3,.one (.int .i64 x3)),(14,.one (.bool bB))],[]⟩=
  some (.one (.int .i64 x3)):=by
 kernel_rfl
theorem C6D(n:Nat)(x0:Aa)(x3:Int):(A5 0 (C1 (B1 E28 n (A1 Dg [1,1,1])) (A9 E28 Tryz.f237.results.toList))) (.exit 0) ⟨[(0,.one (.sl .i32 x0 none)),(3,.one (.int .i64 x3)),(14,.one (.bool false))],[]⟩=
  some (.one (.int .i64 x3)):=by
 kernel_rfl
def T27:T6:=λf ls=>match f with
 |237=>S28 ls
 |_=>none
def E27:Env Ty6 A4:=mk6 T27 noC (lkE [(0,[2]),(1,[0,3,4,5,6,7])]) 8
theorem B3J(n:Nat)(a0:Aa):A3 E27 n Tryz.f219 [.sl .i32 a0 none]=
  bif D3 a0 then(some (.one (.bool ((G6 a0)==(Ax a0:Int)))))else none:=by
 kernel_rfl
def E56:Env Ty6 A4:=mk6 noT noC (lkE [(0,[2]),(1,[0,3,4,5,6,7,8])]) 9
theorem B2E(n:Nat)(a0:Int):A3 E56 n Tryz.f200 [.int .i32 a0]=
  bif(a0==9)==false then(some (.one (.bool (a0==32))))else(some (.one (.bool true))):=by
 kernel_rfl
def T42:T6:=λf ls=>match f with
 |200=>S56 ls
 |_=>none
def E42:Env Ty6 A4:=mk6 T42 noC (lkE [(0,[2]),(2,[4,5,6,7,8,9,10,11,12,13]),(3,[14,15,16]),(4,[0,3,14,17])]) 18
def A9M(x0:Aa)(x3:Int):S6:=⟨[(0,.one (.sl .i32 x0 none)),(3,.one (.int .i64 x3))],[]⟩
theorem C9H(n:Nat)(a0:Aa):A3 E42 n Dh [.sl .i32 a0 none]=
  D1 (lbC E42 (A1 Dh [1,1,0,0,0]) 10002 n) n (A9M a0 0) (A5 0 (C1 (B1 E42 n (A1 Dh [1,1,1])) (A9 E42 Tryz.f225.results.toList))):=by
 kernel_rfl
theorem D8F(n:Nat)(x0:Aa)(x3:Int)(K:Ex->S6->Ad):lbC E42 (A1 Dh [1,1,0,0,0]) 10002 n (A9M x0 x3) K=
  bif(decide (x3<(Ax x0:Int)))==true then(match idx x0 x3 with|none=>none|some y1=>(bif K4 y1 then(K .normal (A9M x0 (Aw .i64 (x3+1))))else(K (.exit 0) ⟨[(0,.one (.sl .i32 x0 none)),(3,.one (.int .i64 x3)),(14,.one (.bool (K4 y1)))],[]⟩)))else(K (.exit 0) ⟨[(0,.one (.sl .i32 x0 none)),(3,.one (.int .i64 x3)),(14,.one (.bool false))],[]⟩):=by
 kernel_rfl
theorem D4Q(n:Nat)(x0:Aa)(x3:Int)(bB:Bool):(A5 0 (C1 (B1 E42 n (A1 Dh [1,1,1])) (A9 E42 Tryz.f225.results.toList))) (.exit 0) ⟨[(0,.one (.sl .i32 x0 none)),(3,.one (.int .i64 x3)),(14,.one (.bool bB))],[]⟩=
  some (.one (.int .i64 x3)):=by
 kernel_rfl
theorem C94(n:Nat)(x0:Aa)(x3:Int):(A5 0 (C1 (B1 E42 n (A1 Dh [1,1,1])) (A9 E42 Tryz.f225.results.toList))) (.exit 0) ⟨[(0,.one (.sl .i32 x0 none)),(3,.one (.int .i64 x3)),(14,.one (.bool false))],[]⟩=
  some (.one (.int .i64 x3)):=by
 kernel_rfl
def T30:T6:=λf ls=>match f with
 |225=>S42 ls
 |_=>none
def E30:Env Ty6 A4:=mk6 T30 noC (lkE [(0,[2]),(1,[0,3,4,5,6,7])]) 8
theorem B3X(n:Nat)(a0:Aa):A3 E30 n Tryz.f224 [.sl .i32 a0 none]=
  bif D3 a0 then(some (.one (.bool ((G6 a0)==(Ax a0:Int)))))else none:=by
 kernel_rfl
def T29:T6:=λf ls=>match f with
 |225=>S42 ls
 |_=>none
def E29:Env Ty6 A4:=mk6 T29 noC (lkE [(0,[2]),(3,[6,7,8]),(4,[5,10,11,32]),(5,[9,12,13,14,15,16]),(6,[17,18,19,20,21,22,23,24,25,26,27,28,29,30,31]),(7,[5,32,33]),(8,[0,4,9,34]),(9,[3,35]),(10,[3,35,36])]) 37
def A5x(x0:Am)(x3:Int)(x4:Int):S6:=⟨[(0,.one (.sl .rs x0 none)),(3,.one (.int .i64 x3)),(4,.one (.int .i64 x4))],[]⟩
theorem C88(n:Nat)(a0:Am):A3 E29 n Ee [.sl .rs a0 none]=
  D1 (lbC E29 (A1 Ee [1,1,0,1,0,0]) 10003 n) n (A5x a0 (-1) 1) (A5 0 (C1 (B1 E29 n (A1 Ee [1,1,1])) (A9 E29 Tryz.f240.results.toList))):=by
 kernel_rfl
theorem C6J(n:Nat)(x0:Am)(x3:Int)(x4:Int)(K:Ex->S6->Ad):lbC E29 (A1 Ee [1,1,0,1,0,0]) 10003 n (A5x x0 x3 x4) K=
  bif decide (x4<(Ax x0:Int))then(match idx x0 x4 with|none=>none|some y1=>(bif D3 y1 then(match idx x0 x4 with|none=>none|some y2=>(bif(decide ((G6 y1)<(Ax y2:Int)))==true then(bif(decide (x3<0))==false then(bif decide ((G6 y1)<x3)then(K .normal (A5x x0 (G6 y1) (Aw .i64 (x4+1))))else(K .normal (A5x x0 x3 (Aw .i64 (x4+1)))))else(K .normal (A5x x0 (G6 y1) (Aw .i64 (x4+1)))))else(K .normal (A5x x0 x3 (Aw .i64 (x4+1))))))else none))else(K (.exit 0) ⟨[(0,.one (.sl .rs x0 none)),(3,.one (.int .i64 x3)),(4,.one (.int .i64 x4)),(9,.one (.bool (decide (x4<(Ax x0:Int)))))],[]⟩):=by
 kernel_rfl
theorem D2S(n:Nat)(x0:Am)(x3:Int)(x4:Int)(x9:Bool):(A5 0 (C1 (B1 E29 n (A1 Ee [1,1,1])) (A9 E29 Tryz.f240.results.toList))) (.exit 0) ⟨[(0,.one (.sl .rs x0 none)),(3,.one (.int .i64 x3)),(4,.one (.int .i64 x4)),(9,.one (.bool x9))],[]⟩=
  bif decide (x3<0)then(some (.one (.int .i64 0)))else(some (.one (.int .i64 x3))):=by
 kernel_rfl
theorem D1o(c:Int)(n:Nat):A3 E41 n Tryz.f194 [.int .i32 c]=some (.one (.bool (K4 c))):=by
 rw[D7d];unfold K4;cases h:c==9<;>simp[h]
theorem D18(c:Int)(n:Nat):A3 E56 n Tryz.f200 [.int .i32 c]=some (.one (.bool (K4 c))):=by
 rw[B2E];unfold K4;cases h:c==9<;>simp[h]
theorem A5G(x:Int)(l:Aa):L9 (x::l)=if K4 x then L9 l+1 else 0:=by
 unfold L9;rw[Jl];split<;>simp
theorem C0Y{l:Aa}{i:Nat}(h:i<l.length):i+L9 (l.drop i)=if K4 l[i]then(i+1)+L9 (l.drop (i+1))else i:=by
 rw[Bz h,A5G];split<;>omega
theorem D4O(l:Aa):L9 l<=l.length:=by
 induction l with
 |nil=>simp[L9]
 |cons x l ih=>rw[A5G];split<;>simp<;>omega
theorem A9u(l:Aa):(G6 l==(l.length:Int))=B4 l:=by
 have h:L9 l=l.length↔B4 l=true:=by
  induction l with
  |nil=>simp[L9,B4]
  |cons x l ih=>
   rw[A5G];unfold B4 at ih ⊢;cases hx:K4 x with
   |true=>simp[hx, <-ih]
   |false=>simp[hx]
 unfold G6;cases hb:B4 l with
 |true=>rw[h.2 hb];simp
 |false=>
  have:L9 l≠l.length:=λe=>by rw[h.1 e]at hb;cases hb
  simp;omega
theorem D8o(l:Aa)(hl:D3 l=true)(n:Nat)(hn:l.length<n):A3 E28 n Dg [.sl .i32 l none]=some (.one (.int .i64 (G6 l))):=by
 have aj:=A5q hl;rw[C8p];refine(H9 (λi:Nat=>B16 l i) (λi=>i<=l.length) (λi=>l.length - i) (λi=>some (.one (.int .i64 ((i+L9 (l.drop i):Nat):Int)))) ?_ n 0 (Bh _) (by omega)).trans (by simp[G6]);intro i hi K a8 bH hn;rw[D1a];simp only[bT,Cs];by_cases h:i<l.length
 ·rw[Au (by omega),D9 h,C0Y h];dsimp only;cases hw:K4 l[i]with
  |true=>
   simp only[Ap,if_true];rw[I9 (by omega),hn (i+1) (by omega) (by omega)]
  |false=>simp only[Aq,a8,D5t];rfl
 ·rw[At (by omega),a8,C6D,Bi (by omega)];rfl
theorem D3l(l:Aa)(hl:D3 l=true)(n:Nat)(hn:l.length<n):A3 E42 n Dh [.sl .i32 l none]=some (.one (.int .i64 (G6 l))):=by
 have aj:=A5q hl;rw[C9H];refine(H9 (λi:Nat=>A9M l i) (λi=>i<=l.length) (λi=>l.length - i) (λi=>some (.one (.int .i64 ((i+L9 (l.drop i):Nat):Int)))) ?_ n 0 (Bh _) (by omega)).trans (by simp[G6]);intro i hi K a8 bH hn;rw[D8F];simp only[bT,Cs];by_cases h:i<l.length
 ·rw[Au (by omega),D9 h,C0Y h];dsimp only;cases hw:K4 l[i]with
  |true=>
   simp only[Ap,if_true];rw[I9 (by omega),hn (i+1) (by omega) (by omega)]
  |false=>simp only[Aq,a8,D4Q];rfl
 ·rw[At (by omega),a8,C94,Bi (by omega)];rfl
theorem C9w(l:Aa)(hl:D3 l=true)(n:Nat):A3 E27 n Tryz.f219 [.sl .i32 l none]=some (.one (.bool (B4 l))):=by
 rw[B3J,hl,A9u];rfl
theorem D6f(l:Aa)(hl:D3 l=true)(n:Nat):A3 E30 n Tryz.f224 [.sl .i32 l none]=some (.one (.bool (B4 l))):=by
 rw[B3X,hl,A9u];rfl
def T16:T6:=λf ls=>match f with
 |224=>S30 ls
 |240=>S29 ls
 |_=>none
def E16:Env Ty6 A4:=mk6 T16 noC (lkE [(0,[2]),(1,[10,11]),(4,[12,13,14]),(5,[16,17]),(6,[15,18,19,20,21]),(7,[22,23,24,25,26,27,28]),(8,[29]),(9,[29,30]),(10,[31,32,33,34]),(11,[31]),(12,[6,35,36,37]),(13,[7,38,39,40,41]),(14,[0,3,5,15]),(15,[42,43,44,45,46,47,48,49,50,51]),(16,[52,53,54]),(17,[52,55,56]),(18,[57,58,59,60,61,62,63,64,65,66]),(19,[67,68,69]),(20,[4,8,9,67,70,71,72,73])]) 74
def A2c(x0:Am)(x3:Int)(x4:Am)(x5:Int):S6:=⟨[(0,.one (.sl .rs x0 none)),(3,.one (.int .i64 x3)),(4,.one (.sl .rs x4 (some 104))),(5,.one (.int .i64 x5))],[104]⟩
def A84(x4:Am)(x8:Int):S6:=⟨[(4,.one (.sl .rs x4 (some 104))),(8,.one (.int .i64 x8))],[104]⟩
def A65(x4:Am)(x8:Int)(x9:Int):S6:=⟨[(4,.one (.sl .rs x4 (some 104))),(8,.one (.int .i64 x8)),(9,.one (.int .i64 x9))],[104]⟩
theorem C7E(n:Nat)(a0:Am):A3 E16 n Bj [.sl .rs a0 none]=
  bif L3 a0 then(D1 (lbC E16 (A1 Bj [1,1,1,0,1,0,0]) 10004 n) n (A2c a0 (U3 a0) [] 0) (A5 0 (C1 (B1 E16 n (A1 Bj [1,1,1,1])) (A9 E16 Tryz.f234.results.toList))))else none:=by
 kernel_rfl
theorem D55(n:Nat)(x0:Am)(x3:Int)(x4:Am)(x5:Int)(K:Ex->S6->Ad):lbC E16 (A1 Bj [1,1,1,0,1,0,0]) 10004 n (A2c x0 x3 x4 x5) K=
  bif decide (x5<(Ax x0:Int))then(match idx x0 x5 with|none=>none|some y1=>(bif(decide (x5>0))==true then(bif decide ((Ax y1:Int)<=x3)then(bif A2 (0+0) 4 then(bif A2 (Ax x4+1) 24 then(K .normal (A2c x0 x3 (x4++[[]]) (Aw .i64 (x5+1))))else none)else none)else(bif decide (x5>0)then(match sub y1 x3 (Ax y1:Int)with|none=>none|some y2=>(bif A2 (0+Ax y2) 4 then(bif A2 (Ax x4+1) 24 then(K .normal (A2c x0 x3 (x4++[y2]) (Aw .i64 (x5+1))))else none)else none))else(bif A2 (0+Ax y1) 4 then(bif A2 (Ax x4+1) 24 then(K .normal (A2c x0 x3 (x4++[y1]) (Aw .i64 (x5+1))))else none)else none)))else(bif decide (x5>0)then(match sub y1 x3 (Ax y1:Int)with|none=>none|some y3=>(bif A2 (0+Ax y3) 4 then(bif A2 (Ax x4+1) 24 then(K .normal (A2c x0 x3 (x4++[y3]) (Aw .i64 (x5+1))))else none)else none))else(bif A2 (0+Ax y1) 4 then(bif A2 (Ax x4+1) 24 then(K .normal (A2c x0 x3 (x4++[y1]) (Aw .i64 (x5+1))))else none)else none))))else(K (.exit 0) ⟨[(0,.one (.sl .rs x0 none)),(3,.one (.int .i64 x3)),(4,.one (.sl .rs x4 (some 104))),(5,.one (.int .i64 x5)),(15,.one (.bool (decide (x5<(Ax x0:Int)))))],[104]⟩):=by
 kernel_rfl
theorem D8W(n:Nat)(x0:Am)(x3:Int)(x4:Am)(x5:Int)(cu:Bool):(A5 0 (C1 (B1 E16 n (A1 Bj [1,1,1,1])) (A9 E16 Tryz.f234.results.toList))) (.exit 0) ⟨[(0,.one (.sl .rs x0 none)),(3,.one (.int .i64 x3)),(4,.one (.sl .rs x4 (some 104))),(5,.one (.int .i64 x5)),(15,.one (.bool cu))],[104]⟩=
  D1 (lbC E16 (A1 Bj [1,1,1,1,1,0,0,0]) 10015 n) n (A84 x4 0) (A5 2 (C1 (B1 E16 n (A1 Bj [1,1,1,1,1,1])) (A9 E16 Tryz.f234.results.toList))):=by
 kernel_rfl
theorem D0t(n:Nat)(x4:Am)(x8:Int)(K:Ex->S6->Ad):lbC E16 (A1 Bj [1,1,1,1,1,0,0,0]) 10015 n (A84 x4 x8) K=
  bif(decide (x8<(Ax x4:Int)))==true then(match idx x4 x8 with|none=>none|some y4=>(bif D3 y4 then(bif B4 y4 then(K .normal (A84 x4 (Aw .i64 (x8+1))))else(K (.exit 2) ⟨[(4,.one (.sl .rs x4 (some 104))),(8,.one (.int .i64 x8)),(52,.one (.bool (B4 y4)))],[104]⟩))else none))else(K (.exit 2) ⟨[(4,.one (.sl .rs x4 (some 104))),(8,.one (.int .i64 x8)),(52,.one (.bool false))],[104]⟩):=by
 kernel_rfl
theorem D38(n:Nat)(x4:Am)(x8:Int)(xU:Bool):(A5 2 (C1 (B1 E16 n (A1 Bj [1,1,1,1,1,1])) (A9 E16 Tryz.f234.results.toList))) (.exit 2) ⟨[(4,.one (.sl .rs x4 (some 104))),(8,.one (.int .i64 x8)),(52,.one (.bool xU))],[104]⟩=
  D1 (lbC E16 (A1 Bj [1,1,1,1,1,1,1,0,0,0]) 10018 n) n (A65 x4 x8 (Ax x4:Int)) (A5 4 (C1 (B1 E16 n (A1 Bj [1,1,1,1,1,1,1,1])) (A9 E16 Tryz.f234.results.toList))):=by
 kernel_rfl
theorem C9m(n:Nat)(x4:Am)(x8:Int):(A5 2 (C1 (B1 E16 n (A1 Bj [1,1,1,1,1,1])) (A9 E16 Tryz.f234.results.toList))) (.exit 2) ⟨[(4,.one (.sl .rs x4 (some 104))),(8,.one (.int .i64 x8)),(52,.one (.bool false))],[104]⟩=
  D1 (lbC E16 (A1 Bj [1,1,1,1,1,1,1,0,0,0]) 10018 n) n (A65 x4 x8 (Ax x4:Int)) (A5 4 (C1 (B1 E16 n (A1 Bj [1,1,1,1,1,1,1,1])) (A9 E16 Tryz.f234.results.toList))):=by
 kernel_rfl
theorem C7e(n:Nat)(x4:Am)(x8:Int)(x9:Int)(K:Ex->S6->Ad):lbC E16 (A1 Bj [1,1,1,1,1,1,1,0,0,0]) 10018 n (A65 x4 x8 x9) K=
  bif(decide (x9>x8))==true then(match idx x4 (Aw .i64 (x9 - 1))with|none=>none|some y5=>(bif D3 y5 then(bif B4 y5 then(K .normal (A65 x4 x8 (Aw .i64 (x9 - 1))))else(K (.exit 4) ⟨[(4,.one (.sl .rs x4 (some 104))),(8,.one (.int .i64 x8)),(9,.one (.int .i64 x9)),(67,.one (.bool (B4 y5)))],[104]⟩))else none))else(K (.exit 4) ⟨[(4,.one (.sl .rs x4 (some 104))),(8,.one (.int .i64 x8)),(9,.one (.int .i64 x9)),(67,.one (.bool false))],[104]⟩):=by
 kernel_rfl
theorem D2g(n:Nat)(x4:Am)(x8:Int)(x9:Int)(xV:Bool):(A5 4 (C1 (B1 E16 n (A1 Bj [1,1,1,1,1,1,1,1])) (A9 E16 Tryz.f234.results.toList))) (.exit 4) ⟨[(4,.one (.sl .rs x4 (some 104))),(8,.one (.int .i64 x8)),(9,.one (.int .i64 x9)),(67,.one (.bool xV))],[104]⟩=
  match sub x4 x8 x9 with|none=>none|some y6=>(some (.one (.sl .rs y6 none))):=by
 kernel_rfl
theorem D1t(n:Nat)(x4:Am)(x8:Int)(x9:Int):(A5 4 (C1 (B1 E16 n (A1 Bj [1,1,1,1,1,1,1,1])) (A9 E16 Tryz.f234.results.toList))) (.exit 4) ⟨[(4,.one (.sl .rs x4 (some 104))),(8,.one (.int .i64 x8)),(9,.one (.int .i64 x9)),(67,.one (.bool false))],[104]⟩=
  match sub x4 x8 x9 with|none=>none|some y7=>(some (.one (.sl .rs y7 none))):=by
 kernel_rfl
theorem C5A(l:Aa):decide (G6 l<(l.length:Int))= !B4 l:=by
 rw[<-A9u];have:=D4O l;unfold G6;by_cases h:L9 l=l.length
 ·rw[h];simp
 ·have h1:((L9 l:Int)==(l.length:Int))=false:=by simp;omega
  rw[h1];simp;omega
theorem B23(m:Int)(l:Aa)(r:Am):T3 m (l::r)=T3 (if !B4 l&&(decide (m<0)||decide (G6 l<m))then G6 l else m) r:=rfl
theorem D8G(ls:Am)(hl:L3 ls=true)(n:Nat)(hn:ls.length<n):A3 E29 n Ee [.sl .rs ls none]=some (.one (.int .i64 (U3 ls))):=by
 have aj:=A6x hl;rw[C88];refine(H9 (λp:Int×Nat=>A5x ls p.1 p.2) (λp=>1<=p.2) (λp=>ls.length - p.2) (λp=>some (.one (.int .i64 (if T3 p.1 (ls.drop p.2)<0 then 0 else T3 p.1 (ls.drop p.2))))) ?_ n (-1,1) (Bg _) (by simp only;omega)).trans rfl;rintro⟨m,i⟩ hi K a8 bH hn;dsimp only at hi hn ⊢;rw[C6J];simp only[bT,Cs];by_cases h:i<ls.length
 ·rw[Au (by omega),D9 h,Bz h,B23];dsimp only;rw[A0K hl (Bp h)];simp only[Ap,Cs];have hb:=C5A ls[i];have hw:Aw .i64 ((i:Int)+1)=((i+1:Nat):Int):=I9 (by omega);rw[hw];have h1:=λm'=>hn (m',i+1) (by simp) (by dsimp only;omega);dsimp only at h1;simp only[h1,bF];by_cases c1:G6 ls[i]<(ls[i].length:Int)
  ·rw[Au c1];rw[Ar c1]at hb;rw[<-hb];by_cases c2:m<0
   ·simp[c2]
   ·by_cases c3:G6 ls[i]<m<;>simp[c2,c3]
  ·rw[At c1];rw[As c1]at hb;rw[<-hb];simp
 ·rw[At (by omega),a8,D2S,Bi (by omega)];simp only[T3,Cs];by_cases hm:m<0<;>simp[hm]
section
variable {α:Type}(p:α->Bool)
def tw(l:List α):Nat:=(l.takeWhile p).length
def rt(l:List α):Nat:=(l.reverse.dropWhile p).length
theorem B0k(x:α)(l:List α):tw p (x::l)=if p x then tw p l+1 else 0:=by
 unfold tw;rw[Jl];split<;>simp
theorem D1C{l:List α}{i:Nat}(h:i<l.length):i+tw p (l.drop i)=if p l[i]then(i+1)+tw p (l.drop (i+1))else i:=by
 rw[Bz h,B0k];split<;>omega
theorem C7A{l:List α}{i:Nat}(h:i<l.length):rt p (l.take (i+1))=if p l[i]then rt p (l.take i)else i+1:=by
 unfold rt;rw[<-Jk h,Jn,List.reverse_singleton,List.singleton_append,Ge];split
 ·rfl
 ·simp;omega
theorem D5R(l:List α):l.drop (tw p l)=l.dropWhile p:=by
 induction l with
 |nil=>simp[tw]
 |cons x l ih=>
  rw[B0k,Ge];cases h:p x<;>simp[ih]
theorem D1T(l:List α):l.take (rt p l)=(l.reverse.dropWhile p).reverse:=by
 have h:l.reverse=l.reverse.takeWhile p++l.reverse.dropWhile p:=(List.takeWhile_append_dropWhile ..).symm;have h2:l=(l.reverse.dropWhile p).reverse++(l.reverse.takeWhile p).reverse:=by
  have h3:=congrArg List.reverse h;rw[Jm,Jn]at h3;exact h3
 unfold rt;have h4:(l.reverse.dropWhile p).length=(l.reverse.dropWhile p).reverse.length:=by simp
 rw[h4];generalize (l.reverse.dropWhile p).reverse=a at*;generalize (l.reverse.takeWhile p).reverse=b at*;subst h2;rw[List.take_left'];rfl
theorem C42{β:Type}(q:β->Bool):∀{l:List α}{m:List β},l.map p=m.map q->tw p l=tw q m
 |[],[],_=>rfl
 |[],_::_,h=>by simp at h
 |_::_,[],h=>by simp at h
 |x::l,y::m,h=>by
  simp only[Ci,Bm]at h;rw[B0k,B0k,h.1,C42 q h.2]
theorem C1u{β:Type}(q:β->Bool):∀{l:List α}{m:List β},l.map p=m.map q->(l.dropWhile p).length=(m.dropWhile q).length
 |[],[],_=>rfl
 |[],_::_,h=>by simp at h
 |_::_,[],h=>by simp at h
 |x::l,y::m,h=>by
  have h0:=h;simp only[Ci,Bm]at h;rw[Ge,Ge,h.1];cases q y with
  |true=>exact C1u q h.2
  |false=>simpa using congrArg Ax h0
theorem D2E{β:Type}(q:β->Bool){l:List α}{m:List β}(h:l.map p=m.map q):rt p l=rt q m:=by
 unfold rt;exact C1u p q (by rw[Jp,Jp,h])
end
theorem D39{l m:Am}(h:m.map B4=l.map B4):(l.drop (tw B4 m)).take (rt B4 (m.drop (tw B4 m)))=R0 l:=by
 rw[C42 B4 B4 h];rw[D2E B4 B4 (l:=m.drop (tw B4 l)) (m:=l.drop (tw B4 l)) (by rw[Hg,Hg,h])];rw[D1T,D5R];rfl
theorem B6M:∀(ls:Am)(m:Int),(0<=m->0<=T3 m ls/\T3 m ls<=m)/\(∀l∈ls,B4 l=false->0<=T3 m ls/\T3 m ls<=G6 l)
 |[],m=>⟨λh=>⟨h,Int.le_refl _⟩,λl hl=>by cases hl⟩
 |x::ls,m=>by
  rw[B23];have hx:0<=G6 x:=by unfold G6;omega
  by_cases hb:B4 x=true
  ·have h1:(if !B4 x&&(decide (m<0)||decide (G6 x<m))then G6 x else m)=m:=by simp[hb]
   rw[h1];obtain⟨a,b⟩:=B6M ls m;refine⟨a,λl hl cQ=>?_⟩;rcases Ga.1 hl with rfl|hl
   ·rw[hb]at cQ;cases cQ
   ·exact b l hl cQ
  ·have aY:B4 x=false:=by simpa using hb
   generalize hm:(if !B4 x&&(decide (m<0)||decide (G6 x<m))then G6 x else m)=m';have h0:0<=m'/\m'<=G6 x/\(0<=m->m'<=m):=by
    rw[aY]at hm;by_cases c1:m<0
    ·simp[c1]at hm;omega
    ·by_cases c2:G6 x<m
     ·simp[c2]at hm;omega
     ·simp[c1,c2]at hm;omega
   obtain⟨a,b⟩:=B6M ls m';have a':=a h0.1;refine⟨λh=>⟨a'.1,by have:=h0.2.2 h;omega⟩,λl hl cQ=>?_⟩;rcases Ga.1 hl with rfl|hl
   ·exact⟨a'.1,by omega⟩
   ·exact b l hl cQ
theorem D2j{l:Aa}{n:Nat}(h:B4 l=false->n<=L9 l):B4 (l.drop n)=B4 l:=by
 cases hb:B4 l with
 |true=>
  unfold B4 at hb ⊢;simp only[Ce]at hb ⊢;exact λx hx=>hb x (Jo hx)
 |false=>
  have hn:=h hb;have de:B4 l=(B4 (l.take n)&&B4 (l.drop n)):=by
   unfold B4;rw[<-Cf,Fz]
  have gq:B4 (l.take n)=true:=by
   clear de hb h
   induction l generalizing n with
   |nil=>simp[B4]
   |cons x l ih=>
    cases n with
    |zero=>rfl
    |succ n=>
     rw[A5G]at hn;cases hw:K4 x with
     |false=>rw[hw]at hn;simp at hn
     |true=>
      rw[hw]at hn;simp only[if_true]at hn;have:=ih (n:=n) (by omega);unfold B4 at this ⊢;simp[hw,this]
  rw[gq,hb]at de;simpa using de.symm
def A02(c:Int)(ls:Am):Am:=ls.take 1++(ls.drop 1).map λl=>l.drop c.toNat
theorem B1f(ls:Am):M6 ls=A02 (T3 (-1) (ls.drop 1)) ls:=by
 unfold M6 A02 U3;have:(if T3 (-1) (ls.drop 1)<0 then(0:Int)else T3 (-1) (ls.drop 1)).toNat=(T3 (-1) (ls.drop 1)).toNat:=by split<;>omega
 simp only[this]
theorem A85(c:Int)(ls:Am):(A02 c ls).length=ls.length:=by
 unfold A02;simp;omega
theorem C2R{c:Int}{ls:Am}{i:Nat}(h:i<ls.length):(A02 c ls)[i]'(by rw[A85];exact h)=if 0<i then ls[i].drop c.toNat else ls[i]:=by
 unfold A02;by_cases hi:0<i
 ·rw[Au hi,List.getElem_append_right (by simp;omega)];simp
  congr 2
  omega
 ·have:i=0:=by omega
  subst this;rw[At hi,List.getElem_append_left (by simp;omega)];simp
theorem D5y{c:Int}{ls:Am}(h:L3 ls=true):L3 (A02 c ls)=true:=by
 unfold L3;rw[A85];have h0:=h;simp only[L3,Bn]at h;rw[h.1,Hl,Ce];intro x hx;obtain⟨i,hi,rfl⟩:=List.getElem_of_mem hx;have co:i<ls.length:=by rw[A85]at hi;exact hi
 rw[C2R co];have:=T9.1 (A0K h0 (Bp co));split
 ·rw[T9,Bb];omega
 ·exact A0K h0 (Bp co)
theorem C0N(ls:Am)(hl:L3 ls=true)(f:Nat)(hf:f<=ls.length)(n:Nat)(hn:ls.length<n):
  D1 (lbC E16 (A1 Bj [1,1,1,1,1,1,1,0,0,0]) 10018 n) n (A65 ls f (ls.length:Int)) (A5 4 (C1 (B1 E16 n (A1 Bj [1,1,1,1,1,1,1,1])) (A9 E16 Tryz.f234.results.toList)))=
   some (.one (.sl .rs ((ls.drop f).take (rt B4 (ls.drop f))) none)):=by
 have aj:=A6x hl;have e0:(ls.length:Int)=((f+(ls.length - f):Nat):Int):=by omega
 rw[e0];refine(H9 (λt:Nat=>A65 ls f ((f+t:Nat):Int)) (λt=>f+t<=ls.length) (λt=>t) (λt=>(some (.one (.sl .rs ((ls.drop f).take (rt B4 ((ls.drop f).take t))) none)):Ad)) ?_ n (ls.length - f) (by omega) (by omega)).trans (by rw[show(ls.drop f).take (ls.length - f)=ls.drop f from Bq (by simp)]);intro t ht K a8 bH aU;have bZ:∀t,f+t<=ls.length->sub ls (f:Int) ((f+t:Nat):Int)=some ((ls.drop f).take t):=λt ht=>by
  rw[A6V (by omega) ht];have:f+t - f=t:=by omega
  rw[this]
 rw[C7e];simp only[bT,Cs];cases t with
 |zero=>
  rw[At (by omega),a8,D1t,bZ 0 ht];rfl
 |succ t=>
  rw[Au (by omega)];have e:((f+(t+1):Nat):Int)=((f+t+1:Nat):Int):=by omega
  have ap:f+t<ls.length:=by omega
  have iq:t<(ls.drop f).length:=by simp;omega
  rw[e,D1x (by omega),D9 ap];dsimp only;rw[A0K hl (Bp ap),Ap,C7A B4 iq];have hg:(ls.drop f)[t]=ls[f+t]:=by simp
  rw[hg];cases hb:B4 ls[f+t]with
  |true=>
   simp only[Ap,if_true];exact aU t (by omega) (by omega)
  |false=>
   simp only[Aq];have h2:=bZ (t+1) ht;rw[<-He]at h2;rw[a8,D2g,h2];rfl
theorem C85(ls:Am)(hl:L3 ls=true)(n:Nat)(hn:ls.length<n):
  D1 (lbC E16 (A1 Bj [1,1,1,1,1,0,0,0]) 10015 n) n (A84 ls 0) (A5 2 (C1 (B1 E16 n (A1 Bj [1,1,1,1,1,1])) (A9 E16 Tryz.f234.results.toList)))=
   some (.one (.sl .rs (R0 ls) none)):=by
 have aj:=A6x hl;refine(H9 (λi:Nat=>A84 ls i) (λi=>i<=ls.length) (λi=>ls.length - i) (λi=>(some (.one (.sl .rs ((ls.drop (i+tw B4 (ls.drop i))).take (rt B4 (ls.drop (i+tw B4 (ls.drop i))))) none)):Ad)) ?_ n 0 (Bh _) (by omega)).trans ?_
 ·intro i hi K a8 bH aU;rw[D0t];simp only[bT,Cs];by_cases h:i<ls.length
  ·rw[Au (by omega),D9 h];dsimp only;rw[A0K hl (Bp h),Ap,D1C B4 h];cases hb:B4 ls[i]with
   |true=>
    simp only[Ap,if_true];rw[I9 (by omega)];exact aU (i+1) (by omega) (by omega)
   |false=>
    simp only[Aq];rw[a8,D38];exact C0N ls hl i hi n hn
  ·rw[At (by omega),a8,C9m];have h2:tw B4 (ls.drop i)=0:=by rw[Bi (by omega)];rfl
   rw[h2];exact C0N ls hl i hi n hn
 ·have h0:0+tw B4 (ls.drop 0)=tw B4 ls:=by simp
  rw[h0];exact congrArg (λx:Am=>(some (.one (.sl .rs x none)):Ad)) (D39 rfl)
theorem D5S(ls:Am):0<=U3 ls:=by
 unfold U3;dsimp only;split<;>omega
theorem D78(ls:Am)(hl:L3 ls=true)(n:Nat)(hn:ls.length<n):A3 E16 n Bj [.sl .rs ls none]=some (.one (.sl .rs (J7 ls) none)):=by
 have aj:=A6x hl;rw[C7E,hl,Ap];have kq:∀{i:Nat}(h:i<ls.length),(M6 ls)[i]'(by rw[B1f,A85];exact h)=if 0<i then ls[i].drop (U3 ls).toNat else ls[i]:=by
  intro i h;have h1:M6 ls=A02 (U3 ls) ls:=rfl;simp only[h1];exact C2R h
 have cX:(M6 ls).length=ls.length:=by rw[B1f,A85]
 have fh:=D5S ls;refine(H9 (λi:Nat=>A2c ls (U3 ls) ((M6 ls).take i) i) (λi=>i<=ls.length) (λi=>ls.length - i) (λi=>(some (.one (.sl .rs (J7 ls) none)):Ad)) ?_ n 0 (Bh _) (by omega));intro i hi K a8 bH aU;rw[D55];simp only[bT,Cs];by_cases h:i<ls.length
 ·rw[Au (by omega),D9 h];dsimp only;have wb:=T9.1 (A0K hl (Bp h));have hr:A2 (((M6 ls).take i).length+1) 24=true:=G9.2 (by rw[Ck];omega);have hw:Aw .i64 ((i:Int)+1)=((i+1:Nat):Int):=I9 (by omega);have bm:∀y:Aa,y=(M6 ls)[i]'(by rw[cX];exact h)->K .normal (A2c ls (U3 ls) ((M6 ls).take i++[y]) ((i+1:Nat):Int))=some (.one (.sl .rs (J7 ls) none)):=by
   intro y hy;rw[hy,Jk (by rw[cX];exact h)];exact aU (i+1) (by omega) (by omega)
  have aL:=kq h;have jA:∀k:Nat,k<=ls[i].length->A2 (0+k) 4=true:=λk hk=>G9.2 (by omega);rw[hr,hw];simp only[Ap];by_cases h0:0<i
  ·rw[Au h0]at aL;rw[Au (by omega)];by_cases h1:(ls[i].length:Int)<=U3 ls
   ·rw[Au h1,jA 0 (Bh _),Ap];refine bm [] ?_;rw[aL,Bi (by omega)]
   ·rw[At h1,Au (by omega)];have h2:U3 ls=((U3 ls).toNat:Int):=by omega
    rw[h2,A80 (by omega), <-h2];dsimp only;rw[jA _ (by simp),Ap];exact bm _ aL.symm
  ·rw[At h0]at aL;rw[At (by omega),At (by omega),jA _ (Bg _),Ap];exact bm _ aL.symm
 ·rw[At (by omega),a8,D8W,Bq (by omega)];have tI:L3 (M6 ls)=true:=D5y hl;exact C85 (M6 ls) tI n (by omega)
end Go.Aev.Bv
namespace Go.Aev.Bv
open Go.Proofs Go.Lib
theorem C59{l:Aa}(h:B4 l=false)(h0:0<l.length):decide (G6 l=0)= !K4 l[0]:=by
 match l,h0 with
 |x::r,_=>
  show decide (G6 (x::r)=0)= !K4 x;unfold G6;rw[A5G];cases K4 x<;>simp;omega
theorem C65{l:Aa}(h:B4 l=false):0<l.length:=by
 cases l with
 |nil=>cases h
 |cons=>simp
def A0t(l:Aa):Bool:= !B4 l&&decide (G6 l=0)
theorem C9z(l:Aa):A0t l=(decide (G6 l=0)&&decide (0<(l.length:Int))):=by
 have hb:=A9u l;unfold A0t;rw[<-hb];by_cases h0:G6 l=0
 ·rw[h0];by_cases h1:l.length=0
  ·rw[h1];rfl
  ·rw[beqF (by omega:(0:Int)≠(l.length:Int)),Ar (by omega:0<(l.length:Int))];rfl
 ·rw[As h0,Bool.and_false,Bool.false_and]
theorem C0n{ls:Am}(h:0<ls.length):S5 ls=(!B4 ls[0]&&(!B4 (ls[ls.length - 1]'(by omega))&&(decide (ls.length=1)||ls.any A0t))):=by
 have h1:ls.headD []=ls[0]:=by
  cases ls with
  |nil=>simp at h
  |cons a r=>rfl
 have h2:ls.getLastD []=ls[ls.length - 1]'(by omega):=by
  have av:ls≠[]:=λe=>by subst e;simp at h
  rw[List.getLastD_eq_getLast?,List.getLast?_eq_getElem?,Cd (by omega)];rfl
 unfold S5;rw[h1,h2];rfl
theorem C3i{ls:Am}{i:Nat}(h:i<ls.length):(ls.drop i).any A0t=(A0t ls[i]||(ls.drop (i+1)).any A0t):=by
 rw[Bz h,Hi]
theorem D3r(ls:Am)(hl:L3 ls=true)(h1:1<=ls.length)(n:Nat)(hn:ls.length<n):A3 A2F n Ep [.sl .rs ls none]=some (.one (.bool (S5 ls))):=by
 have aj:=A6x hl;have io:idx ls 0=some ls[0]:=D9 (i:=0) (by omega);have jr:idx ls ((ls.length - 1:Nat):Int)=some (ls[ls.length - 1]'(by omega)):=D9 (by omega);have hw:Aw .i64 ((ls.length:Int) - 1)=((ls.length - 1:Nat):Int):=by rw[P3 (by omega) (by omega)];omega
 rw[D8s,io,hw,jr,C0n (by omega)];dsimp only;rw[A0K hl (Bp _),A0K hl (Bp _)];cases mz:B4 ls[0]with
 |true=>rfl
 |false=>
  cases oP:B4 (ls[ls.length - 1]'(by omega))with
  |true=>rfl
  |false=>
   by_cases aW:ls.length=1
   ·rw[beqT (by omega:(ls.length:Int)=1),Ar aW];rfl
   ·rw[beqF (by omega:(ls.length:Int)≠1),As aW];show D1 _ n _ _=_;refine(H9 (λi:Nat=>A7H ls (ls.length:Int) i) (λi=>i<=ls.length) (λi=>ls.length - i) (λi=>(some (.one (.bool ((ls.drop i).any A0t))):Ad)) ?_ n 0 (Bh _) (by omega)).trans rfl;intro i hi K a8 bH aU;rw[C8r];by_cases h:i<ls.length
    ·rw[Ar (by omega:(i:Int)<(ls.length:Int)),Ap,D9 h,I9 (by omega),C3i h];dsimp only;rw[A0K hl (Bp h)];have bm:=aU (i+1) (by omega) (by omega);unfold A0t;cases hb:B4 ls[i]with
     |true=>exact bm
     |false=>
      have hp:=C65 hb;have hy:idx ls[i] 0=some ls[i][0]:=D9 (i:=0) hp;rw[hy,C59 hb hp];dsimp only;cases zA:K4 ls[i][0]with
      |true=>exact bm
      |false=>exact(bH _).trans rfl
    ·rw[As (by omega:¬(i:Int)<(ls.length:Int)),Aq,a8,C7U,Bi (by omega)];rfl
theorem D1z(ls:Am)(hl:L3 ls=true)(h1:1<=ls.length)(n:Nat)(hn:ls.length<n):A3 A2m n Em [.sl .rs ls none]=some (.one (.bool (S5 ls))):=by
 have aj:=A6x hl;have io:idx ls 0=some ls[0]:=D9 (i:=0) (by omega);have jr:idx ls ((ls.length - 1:Nat):Int)=some (ls[ls.length - 1]'(by omega)):=D9 (by omega);have hw:Aw .i64 ((ls.length:Int) - 1)=((ls.length - 1:Nat):Int):=by rw[P3 (by omega) (by omega)];omega
 rw[C7G,io,hw,jr,C0n (by omega)];dsimp only;rw[A0K hl (Bp _),A0K hl (Bp _)];cases mz:B4 ls[0]with
 |true=>rfl
 |false=>
  cases oP:B4 (ls[ls.length - 1]'(by omega))with
  |true=>rfl
  |false=>
   show D1 _ n _ _=_;refine(H9 (λi:Nat=>A82 ls i) (λi=>i<=ls.length) (λi=>ls.length - i) (λi=>(some (.one (.bool ((ls.drop i).any A0t||decide (ls.length=1)))):Ad)) ?_ n 0 (Bh _) (by omega)).trans (by rw[List.drop_zero,Bool.or_comm];rfl);intro i hi K a8 bH aU;rw[D0k];by_cases h:i<ls.length
   ·rw[Ar (by omega:(i:Int)<(ls.length:Int)),Ap,D9 h,I9 (by omega),C3i h];dsimp only;rw[A0K hl (Bp h),C9z];have bm:=aU (i+1) (by omega) (by omega);by_cases c0:G6 ls[i]=0
    ·rw[beqT c0,Ar c0];by_cases c1:0<(ls[i].length:Int)
     ·rw[Ar (show(ls[i].length:Int)>0 from c1)];exact(bH _).trans rfl
     ·rw[As (show¬(ls[i].length:Int)>0 from c1)];exact bm
    ·rw[beqF c0,As c0];exact bm
   ·rw[As (by omega:¬(i:Int)<(ls.length:Int)),Aq,a8,D1s,Bi (by omega)];by_cases aW:ls.length=1
    ·rw[beqT (by omega:(ls.length:Int)=1),Ar aW];rfl
    ·rw[beqF (by omega:(ls.length:Int)≠1),As aW];rfl
theorem B3j(r:Aa):maskF (34::34::34::r)=92::34::34::34::maskF r:=rfl
theorem B06{c:Int}{r:Aa}(h:J9 (c::r)=false):maskF (c::r)=c::maskF r:=by
 conv=>lhs;unfold maskF
 split
 ·rename_i bN;rw[bN]at h;cases h
 ·rename_i bN;cases bN;rfl
 ·rename_i bN;cases bN
theorem A9J(l:Aa):(maskF l).length<=2*l.length:=by
 fun_induction maskF l with
 |case1 r ih=>simp;omega
 |case2 c r h ih=>simp;omega
 |case3=>simp
theorem B8W{p:Int->Bool}(xW:p 92=true)(l:Aa)(h:l.all p=true):(maskF l).all p=true:=by
 fun_induction maskF l with
 |case1 r ih=>
  simp only[By,Bn]at h ⊢;exact⟨xW,h.1,h.2.1,h.2.2.1,ih h.2.2.2⟩
 |case2 c r av ih=>
  simp only[By,Bn]at h ⊢;exact⟨h.1,ih h.2⟩
 |case3=>rfl
theorem C71{c:Int}{r b:Aa}(h:J9 (c::r)=false):J9 (c::r++10::b)=false:=by
 cases hq:J9 (c::r++10::b)with
 |false=>rfl
 |true=>
  obtain⟨z,hz⟩:=A1V.1 hq
  match r,hz with
  |[],hz=>simp at hz
  |[x],hz=>simp at hz
  |x::y::r',hz=>
   simp only[Cn,Bm]at hz;obtain⟨rfl,rfl,rfl,_⟩:=hz;cases h
theorem D1O(a b:Aa):maskF (a++10::b)=maskF a++10::maskF b:=by
 fun_induction maskF a with
 |case1 r ih=>rw[Cn,Cn,Cn,B3j,ih];rfl
 |case2 c r av ih=>
  have hq:J9 (c::r)=false:=by
   cases hq:J9 (c::r)with
   |false=>rfl
   |true=>
    obtain⟨z,hz⟩:=A1V.1 hq;simp only[Bm]at hz;exact absurd hz.2 (λe=>av z hz.1 e)
  have:=C71 (b:=b) hq;rw[Cn]at this ⊢;rw[B06 this,ih];rfl
 |case3=>rw[Dk,B06 (by
   cases hq:J9 (10::b)with
   |false=>rfl
   |true=>obtain⟨z,hz⟩:=A1V.1 hq;simp at hz)];rfl
theorem B2S(m cur:Aa):I3 cur m≠[]:=by
 induction m generalizing cur with
 |nil=>simp[I3]
 |cons c r ih=>
  rw[V8];split
  ·simp
  ·split
   ·exact ih _
   ·exact ih _
theorem B0D{l:Aa}{ls:Am}(h:ls≠[]):I8 (l::ls)=l++10::I8 ls:=by
 match ls,h with
 |x::r,_=>simp[I8]
def A8J(c:Int):Bool:= !(c==13)
theorem B3a:∀(m cur:Aa),m.all A8J=true->I8 (I3 cur m)=cur++m
 |[],cur,_=>by simp[I3,I8]
 |c::r,cur,h=>by
  simp only[By,Bn]at h;have hc:c≠13:=λe=>by have:=h.1;rw[e]at this;cases this
  rw[V8,A4Z];by_cases fg:c=10
  ·rw[Au fg];simp only[if_true];rw[B0D (B2S r []),B3a r [] h.2,fg];rfl
  ·rw[At fg,At hc];simp only[Fq,if_false];rw[At hc,B3a r _ h.2];simp
theorem C2O{m:Aa}(h:m.all A8J=true):I8 (B3 m)=m:=B3a m [] h
theorem C0t:∀(ls:Am),ls≠[]->maskF (I8 ls)++[10]=ls.flatMap λl=>maskF l++[10]
 |[l],_=>by simp[I8]
 |l::x::r,_=>by
  rw[B0D (by simp),D1O,Ca, <-C0t (x::r) (by simp)];simp
theorem C89{m:Aa}(h:m.all A8J=true):maskF m++[10]=(B3 m).flatMap λl=>maskF l++[10]:=by
 rw[<-C0t (B3 m) (B2S m []),C2O h]
theorem B0l{p:Int->Bool}:∀(m cur:Aa),cur.all p=true->m.all p=true->∀l∈I3 cur m,l.all p=true
 |[],cur,hc,_,l,hl=>by simp[I3]at hl;rw[hl];exact hc
 |c::r,cur,hc,hm,l,hl=>by
  simp only[By,Bn]at hm;rw[V8]at hl;split at hl
  ·rcases Ga.1 hl with rfl|hl
   ·exact hc
   ·exact B0l r [] rfl hm.2 l hl
  ·split at hl
   ·exact B0l r cur hc hm.2 l hl
   ·exact B0l r _ (by rw[Cf,hc];simp[hm.1]) hm.2 l hl
theorem D81(l:Aa)(hl:smL l=true)(n:Nat)(hn:l.length<n):A3 A2C n El [.sl .i32 l none]=some (.one (.sl .i32 (maskF l) (some 1))):=by
 have aj:=Z5 hl;rw[D2n];refine(H9 (λp:Aa×Nat=>A2y l p.1 p.2) (λp=>p.1.length<=2*p.2/\p.2<=l.length) (λp=>l.length - p.2) (λp=>(some (.one (.sl .i32 (p.1++maskF (l.drop p.2)) (some 1))):Ad)) ?_ n ([],0) (by simp) (by simp only;omega)).trans (by simp);rintro⟨out,i⟩ ⟨h1,h2⟩ K a8 bH aU;dsimp only at h1 h2 aU ⊢;rw[C6W];by_cases h:i<l.length
 ·have hd:=S2 h;rw[Ar (by omega:(i:Int)<(l.length:Int)),Ap,show(2:Int)=((2:Nat):Int)from rfl,A04 (by omega),show(3:Int)=((3:Nat):Int)from rfl,A04 (by omega),I9 (by omega),D9 h,G9.2 (by omega),G9.2 (by omega)];have fD:J9 (l.drop i)=false->K .normal (A2y l (out++[l[i]]) ((i+1:Nat):Int))=some (.one (.sl .i32 (out++maskF (l.drop i)) (some 1))):=λhq=>by
   refine(aU (out++[l[i]],i+1) ⟨by simp;omega,by simp only;omega⟩ (by simp only;omega)).trans ?_;rw[hd]at hq ⊢;rw[B06 hq];simp
  by_cases h3:i+2<l.length
  ·have lQ:J9 (l.drop i)=(l[i]==34&&(l[i+1]==34&&l[i+2]==34)):=by
    rw[B5S (by rw[Bb];omega)];simp
   rw[Ar (by omega:((i+2:Nat):Int)<(l.length:Int)),D9 (by omega),D9 (by omega)];dsimp only;by_cases c0:l[i]=34
   ·rw[beqT c0]at lQ ⊢;by_cases c1:l[i+1]=34
    ·rw[beqT c1]at lQ ⊢;by_cases c2:l[i+2]=34
     ·rw[beqT c2];refine(aU (out++[92,34,34,34],i+3) ⟨by simp;omega,by simp only;omega⟩ (by simp only;omega)).trans ?_;rw[hd,S2 (i:=i+1) (by omega),S2 (i:=i+1+1) (by omega),c0,c1,show l[i+1+1]=34 from c2,B3j];simp
     ·rw[beqF c2]at lQ ⊢;exact fD lQ
    ·rw[beqF c1]at lQ ⊢;exact fD lQ
   ·rw[beqF c0]at lQ ⊢;exact fD lQ
  ·rw[As (by omega:¬((i+2:Nat):Int)<(l.length:Int))];exact fD (C5b (by rw[Bb];omega))
 ·rw[As (by omega:¬(i:Int)<(l.length:Int)),Aq,a8,C6t,Bi (by omega)];exact congrArg (λz:Aa=>(some (.one (.sl .i32 z (some 1))):Ad)) (Bx out).symm
def okC(c:Int):Bool:=L8 c&& !(c==13)
theorem B6x{cs:Aa}(h:cs.all okC=true):cs.all A8J=true:=Ce.2 λx hx=>by
 have:=Ce.1 h x hx;unfold okC at this;simp only[Bn]at this;exact this.2
theorem B2B{cs:Aa}(h:cs.all okC=true):cs.all D5=true:=Ce.2 λx hx=>by
 have:=Ce.1 h x hx;unfold okC at this;simp only[Bn]at this;exact B8D this.1
theorem B0z(s:Ab):btF s=if s=[]then([34,34,34,34,34,34],true)else if(C5 s).2<s.length then([],false)else if !(C5 s).1.all okC then([],false)else if !S5 (B3 (C5 s).1)then([],false)else(B2 (btC (C5 s).1),true):=rfl
theorem B9h{s:Ab}(av:s≠[])(h:¬(C5 s).2<s.length):(C5 s).1≠[]:=λe=>by
 obtain⟨d1,d2,d3,d4⟩:=decF_enc _ s (Bg _);rw[e,A8B,Bq (by omega)]at d1;exact av d1.symm
theorem C2u{cs:Aa}{p:Int->Bool}{i:Nat}(h:i<cs.length):(cs.take (i+1)).all p=((cs.take i).all p&&p cs[i]):=by
 rw[Cc h,Cf];simp
theorem B0b{cs:Aa}{p:Int->Bool}{i:Nat}(h:i<cs.length)(hp:p cs[i]=false):cs.all p=false:=by
 cases ha:cs.all p with
 |false=>rfl
 |true=>rw[B5c ha h]at hp;cases hp
theorem B8q{cs:Aa}(hl:smL cs=true){pre:Aa}(fe:pre.length<=4)(hv:cs.all okC=true)(xX:pre.all D5=true)(n:Nat)(hn:cs.length<n):
  D1 (lbC K3 (A1 Bu [1,1,1,1,1,1,1,1,1,0,1,0,0]) 10019 n) n (A3R cs pre 0) (A5 2 (C1 (B1 K3 n (A1 Bu [1,1,1,1,1,1,1,1,1,1])) (A9 K3 Tryz.f155.results.toList)))=
   some (.tup [.str (B2 (pre++maskF cs++[10,34,34,34])),.bool true]):=by
 have aj:=Z5 hl;refine(H9 (λp:Aa×Nat=>A3R cs p.1 p.2) (λp=>p.1.length<=4+2*p.2/\p.2<=cs.length/\p.1++maskF (cs.drop p.2)=pre++maskF cs) (λp=>cs.length - p.2) (λp=>(some (.tup [.str (B2 (pre++maskF cs++[10,34,34,34])),.bool true]):Ad)) ?_ n (pre,0) ⟨by simp only;omega,by simp,rfl⟩ (by simp only;omega));rintro⟨out,i⟩ ⟨h1,h2,h3⟩ K a8 bH aU;dsimp only at h1 h2 h3 aU ⊢;rw[C8I];by_cases h:i<cs.length
 ·have hd:=S2 h;have hw:Aw .i64 (Aw .i64 ((i:Int)+2)+1)=((i+3:Nat):Int):=by
   rw[P3 (n:=(i:Int)+2) (by omega) (by omega),P3 (by omega) (by omega)];omega
  rw[Ar (by omega:(i:Int)<(cs.length:Int)),Ap,A80 (by omega),D9 h,I9 (by omega),G9.2 (by omega),G9.2 (by omega),hw];dsimp only;rw[D4j (A8T hl)];cases hq:J9 (cs.drop i)with
  |true=>
   obtain⟨r,hr⟩:=A1V.1 hq;have fm:cs.drop (i+3)=r:=by
    have:=congrArg (Ba 3) hr;simpa using this
   have oK:i+3<=cs.length:=by
    have:=congrArg Ax hr;rw[Bb]at this;simp at this;omega
   refine aU (out++[92,34,34,34],i+3) ⟨by simp;omega,by simp only;omega,?_⟩ (by simp only;omega);dsimp only;rw[fm, <-h3,hr,B3j];simp
  |false=>
   refine aU (out++[cs[i]],i+1) ⟨by simp;omega,by simp only;omega,?_⟩ (by simp only;omega);dsimp only;rw[<-h3];rw[hd]at hq ⊢;rw[B06 hq];simp
 ·rw[Bi (by omega),show maskF []=[]from rfl,Bx]at h3;rw[As (by omega:¬(i:Int)<(cs.length:Int)),Aq,a8,D2H];have bh:(out++[10,34,34,34]).all D5=true:=by
   rw[h3,Cf,Cf,xX,B8W (by decide) cs (B2B hv)];decide
  rw[G9.2 (by omega),T9.2 (by rw[Bo];simp only[Be,Bw];omega),A8e bh,h3];rfl
theorem B7l{s:Ab}(hs:smS s=true):smL (C5 s).1=true:=by
 have aj:=A6a.1 hs;obtain⟨d1,d2,d3,d4⟩:=decF_enc _ s (Bg _);exact A8G.2 (by omega)
theorem B5i{cs:Aa}(hl:smL cs=true):L3 (B3 cs)=true/\1<=(B3 cs).length:=by
 have aj:=Z5 hl;have ht:=A8D cs;refine⟨C0i (by omega) (by omega),?_⟩;have:=B2S cs [];have h0:0<(B3 cs).length:=Dl.2 this;omega
theorem D8I(s:Ab)(hs:smS s=true)(n:Nat)(hn:s.length<n):A3 K3 n Bu [.str s]=some (.tup [.str (btF s).1,.bool (btF s).2]):=by
 have aj:=A6a.1 hs;obtain⟨d1,d2,d3,d4⟩:=decF_enc _ s (Bg _);rw[B4K,hs,B0z];by_cases av:s=[]
 ·subst av;rfl
 have lx:(s==[])=false:=by simp[av]
 rw[lx,At av];by_cases hd:(C5 s).2<s.length
 ·rw[Ar (by omega:(((C5 s).2:Nat):Int)<(s.length:Int)),Au hd];rfl
 ·rw[As (by omega:¬(((C5 s).2:Nat):Int)<(s.length:Int)),At hd];show D1 _ n _ _=_;have ir:=B9h av hd;have fC:=B7l hs;obtain⟨fV,iK⟩:=B5i fC;generalize (C5 s).1=cs at d2 d4 ir fC fV iK;refine(H9 (λi:Nat=>A51 cs cs (cs.length:Int) i) (λi=>i<=cs.length/\(cs.take i).all okC=true) (λi=>cs.length - i) (λi=>(some (.tup [.str (if !cs.all okC then([],false)else if !S5 (B3 cs)then([],false)else(B2 (btC cs),true)).1,.bool (if !cs.all okC then(([]:Ab),false)else if !S5 (B3 cs)then([],false)else(B2 (btC cs),true)).2]):Ad)) ?_ n 0 ⟨Bh _,rfl⟩ (by omega));intro i ⟨hi,bQ⟩ K a8 bH aU;rw[D2p];by_cases h:i<cs.length
  ·rw[Ar (by omega:(i:Int)<(cs.length:Int)),Ap,D9 h,I9 (by omega)];dsimp only;cases cv:L8 cs[i]with
   |false=>
    rw[B0b (p:=okC) h (by unfold okC;rw[cv];rfl)];exact(bH _).trans rfl
   |true=>
    by_cases itq:cs[i]=13
    ·rw[beqT itq,B0b (p:=okC) h (by unfold okC;rw[cv,beqT itq];rfl)];exact(bH _).trans rfl
    ·rw[beqF itq];exact aU (i+1) ⟨by omega,by rw[C2u h,bQ];unfold okC;rw[cv,beqF itq];rfl⟩ (by omega)
  ·rw[Bq (by omega)]at bQ;rw[As (by omega:¬(i:Int)<(cs.length:Int)),Aq,a8,D5M,fC,fV,Ar iK,bQ];cases hf:S5 (B3 cs)with
   |false=>rfl
   |true=>
    have fh:0<cs.length:=Dl.2 ir;have io:idx cs 0=some cs[0]:=D9 (i:=0) fh;have qw:cs.headD 0=cs[0]:=by
     cases cs with
     |nil=>exact absurd rfl ir
     |cons=>rfl
    have lR:=B8q fC (pre:=[34,34,34]++[10]) (by simp) bQ (by decide) n (by omega);have jY:=B8q fC (pre:=[34,34,34]) (by simp) bQ (by decide) n (by omega);rw[io];dsimp only;rw[show A2 (3+1) 4=true from rfl,lR,jY];have cr:B2 (btC cs)=if decide (1<(B3 cs).length)|| !K4 cs[0]then B2 ([34,34,34]++[10]++maskF cs++[10,34,34,34])else B2 ([34,34,34]++maskF cs++[10,34,34,34]):=by
     unfold btC;rw[qw];split
     ·rfl
     ·rfl
    rw[cr];by_cases eU:1<(B3 cs).length
    ·rw[Ar (by omega:((B3 cs).length:Int)>1),Ar eU];rfl
    ·rw[As (by omega:¬((B3 cs).length:Int)>1),As eU];cases K4 cs[0]<;>rfl
theorem C5h{cs:Aa}(hl:smL cs=true)(hv:cs.all okC=true){pre:Ab}(fe:pre.length<=4)(n:Nat)(hn:cs.length+2<n):
  D1 (lbC L2 (A1 Br [1,1,1,1,1,1,1,1,1,1,1,0,1,0,0]) 10021 n) n (A2j [34,34,34] (B3 cs) pre 0) (A5 2 (C1 (B1 L2 n (A1 Br [1,1,1,1,1,1,1,1,1,1,1,1])) (A9 L2 Tryz.f163.results.toList)))=
   some (.tup [.str (pre++((B3 cs).flatMap λl=>B2 (maskF l)++[10])++[34,34,34]),.bool true]):=by
 have aj:=Z5 hl;obtain⟨fV,iK⟩:=B5i hl;have ht:=A8D cs;have ce:∀l∈B3 cs,l.all okC=true:=λl hm=>B0l cs [] rfl hv l hm;have cS:∀(ls:Am),(ls.flatMap λl=>B2 (maskF l)++[10]).length<=8*K8 ls+ls.length:=by
  intro ls
  induction ls with
  |nil=>simp
  |cons l r ih=>
   have h1:=A3n (maskF l);have h2:=A9J l;rw[Ca,Bo,Bo,A2a,Be];simp only[Be,Bw];omega
 have cO:A2j [34,34,34] (B3 cs) pre 0=A2j [34,34,34] (B3 cs) (pre++((B3 cs).take 0).flatMap λl=>B2 (maskF l)++[10]) ((0:Nat):Int):=by rw[Jh,List.flatMap_nil,Bx];rfl
 rw[cO];refine(H9 (λi:Nat=>A2j [34,34,34] (B3 cs) (pre++((B3 cs).take i).flatMap λl=>B2 (maskF l)++[10]) i) (λi=>i<=(B3 cs).length) (λi=>(B3 cs).length - i) (λi=>(some (.tup [.str (pre++((B3 cs).flatMap λl=>B2 (maskF l)++[10])++[34,34,34]),.bool true]):Ad)) ?_ n 0 (Bh _) (by omega))
 ·intro i hi K a8 bH aU;have hf:=cS ((B3 cs).take i);have vI:=B1M (Jj i (B3 cs));have fb:((B3 cs).take i).length<=i:=Fk _ _;rw[D8v];by_cases h:i<(B3 cs).length
  ·have hm:=B1m (Bp h);have dW:=A9J (B3 cs)[i];have e8:=B8W (p:=D5) (by decide) _ (B2B (ce _ (Bp h)));have dN:=A3n (maskF (B3 cs)[i]);rw[Ar (by omega:(i:Int)<((B3 cs).length:Int)),Ap,D9 h,I9 (by omega)];dsimp only;have ma:decide ((pre++((B3 cs).take i).flatMap λl=>B2 (maskF l)++[10]).length+(B2 (maskF (B3 cs)[i])).length<=9223372036854775807)=true:=Ar (by rw[Bo];omega);have fj:decide (((pre++((B3 cs).take i).flatMap λl=>B2 (maskF l)++[10])++B2 (maskF (B3 cs)[i])).length+([10]:Aj).length<=9223372036854775807)=true:=Ar (by rw[Bo,Bo];simp only[Be,Bw];omega);rw[A8G.2 (by omega),T9.2 (by omega),A8e e8];dsimp only;rw[ma,fj];refine Cm ?_ (aU (i+1) (by omega) (by omega));rw[Cc h,Fo];simp
  ·rw[As (by omega:¬(i:Int)<((B3 cs).length:Int)),Aq,a8,D6W];rw[Bq (by omega)]at hf ⊢;have ma:decide ((pre++(B3 cs).flatMap λl=>B2 (maskF l)++[10]).length+([34,34,34]:Ab).length<=9223372036854775807)=true:=Ar (by rw[Bo];simp only[Be,Bw];omega);rw[ma];rfl
theorem D21{α:Type}(f:α->Aa)(ls:List α):B2 (ls.flatMap f)=ls.flatMap λl=>B2 (f l):=by
 induction ls with
 |nil=>rfl
 |cons l r ih=>rw[Ca,Ca,A2e,ih]
theorem C4C{cs:Aa}(h:cs.all A8J=true)(pre:Aa):B2 (pre++maskF cs++[10,34,34,34])=B2 pre++((B3 cs).flatMap λl=>B2 (maskF l)++[10])++[34,34,34]:=by
 have e:pre++maskF cs++[10,34,34,34]=pre++(maskF cs++[10])++[34,34,34]:=by simp
 rw[e,A2e,A2e,C89 h,D21];have h1:B2 [34,34,34]=[34,34,34]:=by decide+kernel
 have h2:(λl=>B2 (maskF l++[10]))=λl=>B2 (maskF l)++[10]:=by
  funext l
  rw[A2e];rfl
 rw[h1,h2]
theorem D1M(s:Ab)(hs:smS s=true)(n:Nat)(hn:s.length+2<n):A3 L2 n Br [.str s]=some (.tup [.str (btF s).1,.bool (btF s).2]):=by
 have aj:=A6a.1 hs;obtain⟨d1,d2,d3,d4⟩:=decF_enc _ s (Bg _);rw[B4w,G9.2 (by omega),C0Q,B9m,A8G.2 (by rw[Fl];omega),B0z];by_cases hd:(C5 s).2<s.length
 ·have av:s≠[]:=λe=>by subst e;simp at hd
  rw[U7 (by omega:(((C5 s).2:Nat):Int)≠(s.length:Int)),At av,Au hd];rfl
 ·rw[A0i (by omega:(((C5 s).2:Nat):Int)=(s.length:Int)),At hd];show D1 _ n _ _=_;by_cases av:s=[]
  ·subst av;rw[Au rfl];show D1 _ n (A70 [] [] 0) _=_;obtain⟨m,rfl⟩:∃m,n=m+1:=⟨n - 1,by omega⟩;rw[B22,C2E];rw[show decide ((0:Int)<(([]:Aa).length:Int))=false from rfl,Aq];exact(C5j (m+1) [] [] 0 false).trans rfl
  rw[At av];have ir:=B9h av hd;have fC:=B7l hs;obtain⟨fV,iK⟩:=B5i fC;generalize (C5 s).1=cs at d2 d4 ir fC fV iK;refine(H9 (λi:Nat=>A70 s cs i) (λi=>i<=cs.length/\(cs.take i).all okC=true) (λi=>cs.length - i) (λi=>(some (.tup [.str (if !cs.all okC then([],false)else if !S5 (B3 cs)then([],false)else(B2 (btC cs),true)).1,.bool (if !cs.all okC then(([]:Ab),false)else if !S5 (B3 cs)then([],false)else(B2 (btC cs),true)).2]):Ad)) ?_ n 0 ⟨Bh _,rfl⟩ (by omega));intro i ⟨hi,bQ⟩ K a8 bH aU;rw[C2E];by_cases h:i<cs.length
  ·rw[Ar (by omega:(i:Int)<(cs.length:Int)),Ap,D9 h,I9 (by omega)];dsimp only;cases cv:L8 cs[i]with
   |false=>
    rw[B0b (p:=okC) h (by unfold okC;rw[cv];rfl)];exact(bH _).trans rfl
   |true=>
    by_cases itq:cs[i]=13
    ·rw[beqT itq,B0b (p:=okC) h (by unfold okC;rw[cv,beqT itq];rfl)];exact(bH _).trans rfl
    ·rw[beqF itq];exact aU (i+1) ⟨by omega,by rw[C2u h,bQ];unfold okC;rw[cv,beqF itq];rfl⟩ (by omega)
  ·rw[Bq (by omega)]at bQ;have lx:(s==[])=false:=by simp[av]
   rw[As (by omega:¬(i:Int)<(cs.length:Int)),Aq,a8,C5j,fC,fV,Ar iK,bQ,lx];cases hf:S5 (B3 cs)with
   |false=>rfl
   |true=>
    have fh:0<cs.length:=Dl.2 ir;have qw:cs.headD 0=cs[0]:=by
     cases cs with
     |nil=>exact absurd rfl ir
     |cons=>rfl
    have lR:=C5h fC bQ (pre:=[34,34,34]++[10]) (by simp) n (by omega);have jY:=C5h fC bQ (pre:=[34,34,34]) (by simp) n (by omega);have xY:B2 ([34,34,34]++[10])=[34,34,34]++[10]:=by decide+kernel
    have e3:B2 [34,34,34]=[34,34,34]:=by decide+kernel
    have fg:=C4C (B6x bQ) ([34,34,34]++[10]);have h3:=C4C (B6x bQ) [34,34,34];rw[xY]at fg;rw[e3]at h3;have cr:B2 (btC cs)=if decide (1<(B3 cs).length)|| !K4 cs[0]then B2 ([34,34,34]++[10]++maskF cs++[10,34,34,34])else B2 ([34,34,34]++maskF cs++[10,34,34,34]):=by
     unfold btC;rw[qw];split
     ·rfl
     ·rfl
    rw[cr,fg,h3];by_cases eU:1<(B3 cs).length
    ·rw[Ar (by omega:((B3 cs).length:Int)>1),Ar eU];exact lR
    ·have aW:B3 cs=[cs]:=by
      have hj:=C2O (B6x bQ)
      match cX:B3 cs,iK,eU with
      |[x],_,_=>
       rw[cX]at hj;simp[I8]at hj;rw[hj]
      |x::y::r,_,h2=>simp at h2
     have io:idx (B3 cs) 0=some cs:=by rw[aW];rfl
     have bX:idx cs 0=some cs[0]:=D9 (i:=0) fh;rw[As (by omega:¬((B3 cs).length:Int)>1),As eU,io];dsimp only;rw[bX];dsimp only;cases K4 cs[0]with
     |true=>exact jY
     |false=>exact lR
end Go.Aev.Bv
