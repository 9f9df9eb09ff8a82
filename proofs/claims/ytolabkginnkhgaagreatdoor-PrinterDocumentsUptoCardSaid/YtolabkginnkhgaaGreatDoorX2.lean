/- Proved here: lemmas that the claim's text uses. Conditions: those that each lemma states. -/
import Derived.OrdersHeld
import Derived.Deep.LoopGhost
import Derived.Shelf.Strings.Builder1
import Derived.Shelf.Strings.Builder2
import Derived.Shelf.Small.Utf8
import Derived.Shelf.Strings.BuilderF
import Derived.Shelf.Strings.BuilderK
import Derived.Shelf.Utf8.AppendRune
import Derived.Shelf.Utf8.RuneCount
import Derived.Shelf.Strings.Builder2Cap
import Derived.Shelf.Strings.Search1
import Derived.Shelf.Strings.Search2
import Derived.Shelf.Strings.Search3
import Derived.Shelf.Strings.Count
import Derived.Shelf.LaysM
import Derived.Shelf.Strings.Shaped
import Derived.Shelf.Strings.Prefix
import Derived.Shelf.Strings.Split
import Derived.Shelf.Unicode.Decode
import Derived.Shelf.Strings.RuneCount
import Derived.Shelf.Bits.Mul64
import Derived.Shelf.Strings.Repeat
import Derived.Shelf.Unicode.DecodeSlow
import Derived.Shelf.Unicode.DecodeAny
import Derived.Test.YtolabkginnkhgaaGreatDoorProg
import Derived.IntWalk
import Derived.Lib.MapLaws
import Derived.Lib.TrimUEq
import Derived.Lib.QuoteLoop
import Derived.Lib.QuoteBits
import Derived.Test.YtolabkginnkhgaaGreatDoorX1
set_option maxRecDepth 100000
set_option linter.unusedVariables false
set_option linter.unusedSimpArgs false
set_option linter.defProp false
open Go.IntKind renaming wrap→Ew,i32→Kw
open List renaming length→Ey,drop→Fg,length_drop→Fh,drop_eq_nil_of_le→Fl,length_cons→Fm,getElem_mem→Ft,append_nil→Fu,getElem?_eq_getElem→Fw,all_cons→Fx,take_of_length_le→Ga,drop_eq_getElem_cons→Gb,length_append→Gc,map_cons→Gg,length_take→Gi,map→Gk,length_nil→Gl,take_succ_eq_append_getElem→Gq,flatMap_cons→Gr,cons_append→Gt,all_eq_true→Gu,eq_nil_of_length_eq_zero→Ha,all_append→Hb,nil_append→Ia,drop_drop→Ib,mem_cons→Jp,append_assoc→Jq,map_nil→Jy,length_pos_iff→Jz,getElem?_drop→Ka,getD_eq_getElem?_getD→Kb,take_append_drop→Kp,length_take_le→Kq,length_map→Kr,getElem?_eq_none→Ks,getD_cons_zero→Kt,flatMap_append→Ku,dropWhile_cons→Kv,nil_prefix→Me,map_drop→Mf,getD_cons_succ→Mg,any_cons→Mh,take_succ_cons→Oe,take_append_getElem→Of,takeWhile_cons→Og,reverse_reverse→Oh,reverse_append→Oi,mem_singleton→Oj,mem_of_mem_drop→Ol,map_reverse→Om,getElem_of_mem→On,getElem?_map→Oo,getElem?_eq_some_iff→Oq,getElem?_cons_succ→Ot,drop_succ_cons→Ou,dropWhile_sublist→Ov,cons_beq_cons→Ox
open Int renaming toNat→Ez,tmod→Ge,tdiv→Gm,toNat_natCast→Gv,tmod_eq_emod_of_nonneg→Jr,emod_nonneg→Js,emod_lt_of_pos→Jt,tdiv_eq_ediv_of_nonneg→Kx,pow_succ→Mi,pow_pos→Pb
open Go renaming execOp→Fa,TypeId→Fc,Operand→Fe,run_underlying→Fk,Program→Fq,FuncId→Gn,sizeOf→Gw,IntKind→Hc,typeInfo→Hg,wpAnyH→Ic,storeCells→Ie,wpList→Ju,liesAt→Jv,loadBytes→Lb,eqGuard_at_string→Mo
open Go.Lib renaming decodeL→Fb,decodeL_width→If,decodeL_le→Kg,run_unsafeString_none→Oy,decodeGo→Oz
open Nat renaming le_refl→Ff,zero_le→Fi,blt→Gf,mul_le_mul_right→Hy,lt_of_lt_of_le→Hz,lt_or_ge→Kn,beq→Ko,zero_add→Ly,not_lt_zero→Lz,le_trans→Ma,add_zero→Mb,add_mul→Mc,add_assoc→Md,and_two_pow_sub_one_eq_mod→Oc,add_sub_cancel→Od
open Go.Proofs.Tryz renaming prog→Fj,f234→Fo,f163→Fy,f155→Fz,f212→Gj,zeroValue9→Hh,zeroValue5→Hi,zeroValue3→Hj,underlying9→Hk,underlying5→Hl,underlying3→Hm,sizeOf9→Hn,sizeOf5→Ho,sizeOf3→Hp,isAgg9→Hq,isAgg5→Hr,isAgg3→Hs,f52→Ht,f237→Hu,f225→Hv,f120→Hw,zeroValue4→Ii,zeroValue0→Ij,underlying4→Ik,underlying0→Il,sizeOf4→Im,sizeOf0→Io,isAgg4→Ip,isAgg0→Iq,f245→Ir,f243→Is,f242→It,f240→Iu,f233→Iv,f232→Iw,f226→Ix,f223→Iy,f214→Iz,f202→Ja,f201→Jb,f199→Jc,f198→Jd,f196→Je,f193→Jf,f192→Jg,f190→Jh,f174→Ji,f173→Jj,f171→Jk,f164→Jl,f156→Jm,f125→Jn,f122→Jo,zeroValue203→Kh,underlying203→Ki,sizeOf203→Kj,isAgg203→Kk,zeroValue22→Le,zeroValue107→Lg,zeroValue105→Lh,underlying22→Li,underlying107→Lj,underlying105→Lk,sizeOf22→Ll,sizeOf107→Lm,sizeOf105→Ln,isAgg22→Lo,isAgg107→Lp,isAgg105→Lq,zeroValue319→Mq,zeroValue318→Mr,zeroValue281→Ms,zeroValue265→Mt,zeroValue264→Mu,zeroValue21→Mv,zeroValue20→Mw,zeroValue172→Mx,underlying319→My,underlying318→Mz,underlying316→Na,underlying281→Nb,underlying265→Nc,underlying264→Nd,underlying21→Nf,underlying20→Ng,underlying172→Nh,sizeOf319→Ni,sizeOf318→Nj,sizeOf316→Nk,sizeOf281→Nl,sizeOf265→Nm,sizeOf264→Nn,sizeOf21→No,sizeOf20→Np,sizeOf172→Nq,isAgg319→Nr,isAgg318→Ns,isAgg316→Nt,isAgg281→Nu,isAgg265→Nv,isAgg264→Nw,isAgg21→Nx,isAgg20→Ny,isAgg172→Nz
open List.cons renaming injEq→Fp
open Bool renaming and_eq_true→Fs,cond_decide→He,false_eq_true→Kf,true_and→Ml,and_true→Ph
open Go.World renaming cell?_of_block→Fv,cell?→Gp,shape?→Lc,setCell→Ld,frozen?→Mp
open Go.Shelf renaming Ren→Gx
open Eq renaming trans→Gy
open UInt8 renaming toNat→Gz,ofNat→Ih
open Go.Addr renaming add_lit→Hf,mk→La
open Option.some renaming inj→Hx,injEq→Lv
open Go.Utf8 renaming decode→Ig
open Option renaming map_eq_some_iff→Jw,map_some→Oa
open Go.Op renaming intCmp→Jx
open Go.Instr renaming sureAddr→Kc,storeAt→Pc,loadAt→Pd
open Go.Proofs.Builder renaming Extra→Ke
open Go.Result renaming andThen→Kl
open Go.Region renaming wanted→Km,ready→Lr
open BitVec renaming ofInt→Ky,toNat_and→Pl
open Array renaming getElem?_eq_some_iff→Kz,getElem?_push→Mn,size_push→Pn,getElem?_modify→Po,getElem?_eq_getElem→Pp
open Prod.mk renaming injEq→Ls
open Prod renaming ext→Lu
open Go.Oper renaming wp→Lw,upon_value→Lx,upon_skip→Ob
open Go.Builtin renaming unsafeSliceData_→Mj,firstCells→Mk,unsafeString_→Pe,append_→Pf
open BEq renaming comm→Mm
open Go.Proofs.Body renaming n169_ntmps→Pj
open Go.Value.tuple renaming injEq→Pq
open Go.Value.slice renaming injEq→Pr
open Go.Proofs.Lays renaming n260→Pt,n197→Pu,n169→Pw,n165→Px,n138→Py,n105→Pz,n101→Qa
open Go.Extern.AbiNoEscape renaming same→Qb
section
open Go.Lib
namespace Go.Aev
variable {Ty:Type}{den:Ty->Type}
def ArrN(w:World)(sz:Nat)(v:Value)(n:Nat)(xs:Ea):Prop:=
 xs.length=n*sz/\∃a cap,v=.slice a n cap/\n<=cap/\(cap=0\/∃b c e fz,a=some ⟨b,0,none⟩/\w.heap[b]?=some (.cells c e fz)/\cap*sz<=c.size/\
  fz.2=0/\∀(j:Nat) x,xs[j]?=some x->c[j]?=some x)
def H4(v:Value):Ed:=
 match v with
 | .slice (some a) _ cap=>if cap=0 then none else some a.block
 |_=>none
def A0b{b off len cap:Nat}(h:cap≠0):H4 (.slice (some ⟨b,off,none⟩) len cap)=some b:=by simp[H4,h]
def B3q{a:Option Addr}{n m cap:Nat}:H4 (.slice a n cap)=H4 (.slice a m cap):=by cases a<;>rfl
structure KM(w:World)(m:Nat->Nat)(w':World)(m':Nat->Nat)(S:Nat->Prop):Prop where
 os:w'.os=w.os
 tape:w'.tape=w.tape
 output:w'.output=w.output
 size:w.heap.size<=w'.heap.size
 heap:∀b,b<w.heap.size->¬S b->w'.heap[b]?=w.heap[b]? /\m' b=m b
 ext:Ext w m w' m'
 zero:∀b,w'.heap.size<=b->m' b=0
section
variable {w w' sH:World}{v:Value}{xs:Ea}{S T:Nat->Prop}{m m' zg:Nat->Nat}{sz n:Nat}
def KM.refl(w:World)(m:Nat->Nat)(S:Nat->Prop)(hz:∀b,w.heap.size<=b->m b=0):KM w m w m S:=⟨rfl,rfl,rfl,Ff _,λ_ _ _=>⟨rfl,rfl⟩,Ext.refl _ _,hz⟩
def KM.mono(k:KM w m w' m' S)(h:∀b,b<w.heap.size->S b->T b):KM w m w' m' T:=
 ⟨k.os,k.tape,k.output,k.size,λb hb hs=>k.heap b hb λe=>hs (h b hb e),k.ext,k.zero⟩
def KM.trans(k:KM w m w' m' S)(l:KM w' m' sH zg T)(h:∀b,b<w.heap.size->T b->S b):KM w m sH zg S:=
 ⟨l.os.trans k.os,l.tape.trans k.tape,l.output.trans k.output,Ma k.size l.size,λb hb hs=>by
  have h1:=k.heap b hb hs;have h2:=l.heap b (Hz hb k.size) λe=>hs (h b hb e);exact⟨h2.1.trans h1.1,h2.2.trans h1.2⟩,k.ext.trans l.ext,l.zero⟩
def ArrN.frame(h:ArrN w sz v n xs)(hf:∀b,H4 v=some b->w'.heap[b]?=w.heap[b]?):ArrN w' sz v n xs:=by
 obtain⟨hl,a,cap,hv,bh,hc⟩:=h;refine⟨hl,a,cap,hv,bh,?_⟩;by_cases h0:cap=0
 ·exact .inl h0
 obtain⟨b,c,e,fz,ha,hb,h1,h2,h3⟩:=hc.resolve_left h0;exact .inr ⟨b,c,e,fz,ha,by rw[hf b (by rw[hv,ha];exact A0b h0)];exact hb,h1,h2,h3⟩
def ArrN.lt(h:ArrN w sz v n xs){b:Nat}(hs:H4 v=some b):b<w.heap.size:=by
 obtain⟨hl,a,cap,hv,bh,hc⟩:=h;by_cases h0:cap=0
 ·rw[hv,h0]at hs;cases a<;>simp[H4]at hs
 obtain⟨b',c,e,fz,ha,hb,_⟩:=hc.resolve_left h0;rw[hv,ha,A0b h0]at hs;cases hs;exact(Kz.1 hb).1
def KM.arr(k:KM w m w' m' S)(h:ArrN w sz v n xs)(hS:∀b,H4 v=some b->¬S b):ArrN w' sz v n xs:=
 h.frame λb hb=>(k.heap b (h.lt hb) (hS b hb)).1
def KM.mark(k:KM w m w' m' S){b:Nat}(hb:b<w.heap.size)(hs:¬S b):m' b=m b:=(k.heap b hb hs).2
def ArrN.len(h:ArrN w sz v n xs):∃a cap,v=.slice a n cap:=by
 obtain⟨_,a,cap,hv,_⟩:=h;exact⟨a,cap,hv⟩
def ArrN.nil:ArrN w sz (.slice none 0 0) 0 []:=⟨Eo,none,0,rfl,Ff _,.inl rfl⟩
def ArrN.at(h:ArrN w sz v n xs){j:Nat}{x:Value}(hj:xs[j]?=some x):∃b cap,v=.slice (some ⟨b,0,none⟩) n cap/\cap≠0/\H4 v=some b/\
  w.cell? ⟨b,j,none⟩=some x/\w.frozen? ⟨b,j,none⟩=false:=by
 have bC:=(Oq.1 hj).1;obtain⟨hl,a,cap,hv,bh,hc⟩:=h;have h0:cap≠0:=by
  intro h0;have:n=0:=Du
  rw[hl,this]at bC;simp at bC
 obtain⟨b,c,e,fz,ha,hb,h1,h2,h3⟩:=hc.resolve_left h0;refine⟨b,cap,by rw[hv,ha],h0,by rw[hv,ha];exact A0b h0,?_,?_⟩
 ·simp[Gp,hb,h3 j x hj]
 ·have aH:j<cap*sz:=Hz (by rw[<-hl];exact bC) (Hy _ bh);simp only[Mp,hb];simp;omega
def ArrN.blk(h:ArrN w sz v n xs)(hn:0<n):∃b cap,v=.slice (some ⟨b,0,none⟩) n cap/\cap≠0/\H4 v=some b/\n<=cap/\∀(j:Nat) x,xs[j]?=some x->w.cell? ⟨b,j,none⟩=some x/\w.frozen? ⟨b,j,none⟩=false:=by
 obtain⟨hl,a,cap,hv,bh,hc⟩:=id h;have h0:cap≠0:=Du
 obtain⟨b,c,e,fz,ha,hb,h1,h2,h3⟩:=hc.resolve_left h0;refine⟨b,cap,by rw[hv,ha],h0,by rw[hv,ha];exact A0b h0,bh,λj x hj=>?_⟩;obtain⟨b',fx,dt,_,_,h4,h5⟩:=h.at hj;rw[hv,ha]at dt;cases dt;exact⟨h4,h5⟩
def ArrN.first(P:Fq)(h:ArrN w sz v n xs):∀w':World,w'.heap=w.heap->(Mk sz n v).run P w'=.ok xs.toArray w':=by
 intro w' ek;obtain⟨hl,a,cap,rfl,bh,hc⟩:=h;by_cases h0:cap=0
 ·have h1:n=0:=Du
  subst h1;have h2:xs=[]:=Ha (by simpa using hl);subst h2;cases a<;>simp[Mk,loadCells,loadCellsFrom]
 obtain⟨b,c,e,fz,rfl,hb,h1,h2,h3⟩:=hc.resolve_left h0;refine run_firstCells_some w' sz n ⟨b,0,none⟩ n cap xs hl (λj u hu=>?_);rw[Hf];simp[Gp,ek,hb,h3 j u hu]
def ArrN.set(h:ArrN w sz v n xs){j b cap:Nat}(hj:j<n*sz)(hv:v=.slice (some ⟨b,0,none⟩) n cap)(x:Value):ArrN (w.setCell ⟨b,j,none⟩ x) sz v n (xs.set j x):=by
 obtain⟨hl,a,fx,dt,bh,hc⟩:=h;rw[hv]at dt;have h4:=dt;simp only[Pr]at h4;obtain⟨pw,_,rfl⟩:=h4;have h0:cap≠0:=by
  intro h0;have:n=0:=Du
  rw[this]at hj;simp at hj
 obtain⟨b',c,e,fz,ha,hb,h1,h2,h3⟩:=hc.resolve_left h0;rw[ha]at pw;cases pw;refine⟨by rw[List.length_set];exact hl,_,cap,hv,bh,.inr ⟨b,_,e,fz,rfl,A9r w b j x c e fz hb,by simpa using h1,h2,λi y hi=>?_⟩⟩;rw[Array.getElem?_setIfInBounds];rw[List.getElem?_set]at hi;by_cases cG:j=i
 ·subst cG;rw[El rfl,El Du]at hi;have aH:j<cap*sz:=Hz hj (Hy _ bh);rw[El rfl,El Du];exact hi
 ·rw[Ek cG]at hi;rw[Ek cG];exact h3 i y hi
def B88(w:World)(m:Nat->Nat){b off:Nat}(x:Value)(hm:m b=0)(hz:∀b,w.heap.size<=b->m b=0):KM w m (w.setCell ⟨b,off,none⟩ x) m (λk=>k=b):=by
 refine⟨rfl,rfl,rfl,by simp[Ld],λk _ hk=>⟨A8U w b off k x hk,rfl⟩,⟨?_,λk o ho=>?_,λ_=>Ff _⟩,λk hk=>hz k (by simpa [Ld]using hk)⟩
 ·intro k c e fz h;by_cases hk:k=b
  ·subst hk;exact⟨_,fz,A9r w k off x c e fz h⟩
  ·exact⟨c,fz,by rw[A8U w b off k x hk];exact h⟩
 ·have hk:k≠b:=λe=>by rw[e,hm]at ho;omega
  exact Fv (a:=⟨k,o,none⟩) (A8U w b off k x hk)
def A0r(w:World)(m:Nat->Nat)(o:Obj)(hz:∀b,w.heap.size<=b->m b=0):KM w m (w.alloc o) m (λ_=>False):=by
 have hh:∀b,b<w.heap.size->(w.alloc o).heap[b]?=w.heap[b]? :=λb hb=>by
  show(w.heap.push o)[b]?=_;rw[Mn,Ek Du]
 have az:(w.alloc o).heap.size=w.heap.size+1:=by show(w.heap.push o).size=_;rw[Pn]
 refine⟨rfl,rfl,rfl,Du,λb hb _=>⟨hh b hb,rfl⟩,⟨A1D rfl,λk o' ho=>Fv (a:=⟨k,o',none⟩) (hh k ?_),λ_=>Ff _⟩,λk hk=>hz k Du⟩;rcases Kn k w.heap.size with h|h
 ·exact h
 ·rw[hz k h]at ho;omega
def D3W(w:World)(m:Nat->Nat)(o:Obj)(hz:∀b,w.heap.size<=b->m b=0):KM w m (w.drew.alloc o) m (λ_=>False):=by
 have hh:∀b,b<w.heap.size->(w.drew.alloc o).heap[b]?=w.heap[b]? :=λb hb=>by
  show(w.heap.push o)[b]?=_;rw[Mn,Ek Du]
 have az:(w.drew.alloc o).heap.size=w.heap.size+1:=by show(w.heap.push o).size=_;rw[Pn]
 refine⟨rfl,rfl,rfl,Du,λb hb _=>⟨hh b hb,rfl⟩,⟨A1D rfl,λk o' ho=>Fv (a:=⟨k,o',none⟩) (hh k ?_),λ_=>Ff _⟩,λk hk=>hz k Du⟩;rcases Kn k w.heap.size with h|h
 ·exact h
 ·rw[hz k h]at ho;omega
def A4d{w1:World}{c:Array Value}{e:Fc}{cap:Nat}(hl:xs.length=n*sz)(hw:w1.heap=w.heap.push (.cells c e))(bh:n<=cap)(cE:cap*sz<=c.size)(hx:∀(j:Nat) x,xs[j]?=some x->c[j]?=some x):
  ArrN w1 sz (.slice (some ⟨w.heap.size,0,none⟩) n cap) n xs:=
 ⟨hl,_,cap,rfl,bh,.inr ⟨w.heap.size,c,e,(0,0),rfl,by rw[hw];simp,cE,rfl,hx⟩⟩
def ArrN.cut{a:Option Addr}{cap:Nat}(h:ArrN w sz (.slice a n cap) n xs){k:Nat}(hk:k<=n):ArrN w sz (.slice a k cap) k (xs.take (k*sz)):=by
 obtain⟨hl,a',fx,hv,bh,hc⟩:=h;cases hv;have:k*sz<=n*sz:=Hy _ hk;refine⟨by rw[Gi];omega,a,cap,rfl,Du,?_⟩;rcases hc with h0|⟨b,c,e,fz,ha,hb,h1,h2,h3⟩
 ·exact .inl h0
 ·refine .inr ⟨b,c,e,fz,ha,hb,h1,h2,λj x hj=>h3 j x ?_⟩;rw[List.getElem?_take]at hj;split at hj
  ·exact hj
  ·cases hj
def A9C{P:Fq}{t u ty e:Fc}(ht:P.underlying t=some (.slice e))(hu:A73 P u){i:TypeInfo}{z:Value}(hi:P.info? e=some i)(az:i.size=sz)(hz:i.zero=some z)(dx:z.cells.size=sz)
  {y:Value}{k:Nat}{ys:Ea}(h:ArrN w sz v n xs)(av:(Builtin.lenOf y).run P w=.ok k w)(wA:∀w':World,w'.heap=w.heap->(Mk sz k y).run P w'=.ok ys.toArray w')(iO:ys.length=k*sz)
  (a8:∀x∈ys,x.oneCell'=true)(hm:∀b,H4 v=some b->m b=0)(oe:∀b,w.heap.size<=b->m b=0)(bu:(n+k)*i.bytes<=140737488355328)(kt:0<i.bytes):
  ∃v' w',(Pf #[t,u] ty #[v,y]).run P w=.ok v' w'/\ArrN w' sz v' (n+k) (xs++ys)/\KM w m w' m (λb=>H4 v=some b)/\(∀b,H4 v'=some b->H4 v=some b\/w.heap.size<=b):=by
 have BI:=h.first P;have h0:=h;obtain⟨hl,a0,cap,rfl,bh,hc⟩:=h;have jc:n+k<=140737488355328:=Ma (Nat.le_mul_of_pos_right _ kt) bu;have im:(xs++ys).length=(n+k)*sz:=by rw[Gc,hl,iO,Mc]
 by_cases io:cap<n+k
 ·have ah:=B1B (P:=P) w t u ty e i z ht hu hi hz a0 n cap xs (by rw[az];exact BI) y k ys av (by rw[az];exact wA) io Du bu;have a7:n+k<=grownCap w (n+k) cap e:=grownCap_ge _ _ _ _;have hk:=D3W w m (.cells (xs.toArray++ys.toArray++Builtin.zeroCells z.cells (grownCap w (n+k) cap e - (n+k))) e) oe;refine⟨_,_,ah,?_,hk.mono λ_ _ h=>h.elim,λb hb=>?_⟩
  ·refine A4d (w:=w) im rfl a7 ?_ (λj x hj=>?_)
   ·simp only[Array.size_append,List.size_toArray,size_zeroCells,dx,hl,iO, <-Mc];exact Hy _ Du
   ·have aH:=(Oq.1 hj).1;rw[Array.getElem?_append_left (by simpa using aH)];simpa using hj
  ·right
   by_cases zh:grownCap w (n+k) cap e=0
   ·rw[zh]at hb;simp[H4]at hb
   ·rw[A0b zh]at hb;cases hb;exact Ff _
 ·by_cases fM:cap=0
  ·have gm:n=0:=Du
   have dU:k=0:=Du
   subst gm;subst dU;have BJ:ys=[]:=Ha (by simpa using iO);subst BJ;have ah:=A7R (P:=P) w t u ty e i ht hu hi a0 0 cap y 0 [] av (by rw[az];simpa using wA w rfl) w (λa1 _=>by simp[Ie]) (λ_=>rfl) Eo;refine⟨_,_,ah,by rw[Fu];exact h0,KM.refl _ _ _ oe,λb hb=>.inl ?_⟩;rw[fM]at hb;cases a0<;>simp[H4]at hb
  obtain⟨b,c,e',fz,rfl,hb,h1,h2,h3⟩:=hc.resolve_left fM;have dz:(n+k)*sz<=cap*sz:=Hy _ Du;rw[Mc]at dz;obtain⟨s1,⟨c',s2,s3,s4,s5⟩,s6,s7,s8,s9,jA⟩:=A3O P b e' fz ys (n*sz) w c hb Du (λj h5 h6=>Du) a8;have ah:=A7R (P:=P) w t u ty e i ht hu hi (some ⟨b,0,none⟩) n cap y k ys av (by rw[az];exact wA w rfl) (D5 w b (n*sz) ys)
   (λa1 iP=>by
    cases iP;rw[Hf,az,Ly];exact s1 ⟨b,n*sz,none⟩ 0 Eo (Fi _)) (λe=>by cases e) Du
  have kq:m b=0:=hm b (A0b fM);refine⟨_,_,ah,⟨im,_,cap,rfl,Du,.inr ⟨b,c',e',fz,rfl,s2,by rw[s3];exact h1,h2,λj x hj=>?_⟩⟩,
   ⟨s8,s9,jA,by rw[s6];exact Ff _,λk' _ hk=>⟨s7 k' (λe=>hk (by rw[e];exact A0b fM)),rfl⟩,⟨A6Y hb s2 s7,λk' o ho=>?_,λ_=>Ff _⟩,λk' eJ=>oe k' (by rw[s6]at eJ;exact eJ)⟩,λb' bH=>.inl ?_⟩
  ·by_cases bC:j<n*sz
   ·rw[List.getElem?_append_left Du]at hj;rw[s4 j (.inl bC)];exact h3 j x hj
   ·rw[List.getElem?_append_right Du]at hj;have:=s5 _ x hj;rw[show n*sz+(j - xs.length)=j from Du]at this;exact this
  ·have eJ:k'≠b:=λe=>by rw[e,kq]at ho;omega
   exact Fv (a:=⟨k',o,none⟩) (s7 k' eJ)
  ·rw[<-bH];exact B3q
def B0j{U:UO Ty den}(hU:U.Ok){t:Ty}{l:List (den t)}(h:ArrN w (U.size t) v n xs)(hn:l.length=n)(hx:∀(j:Nat)(lf:Leaf Ty den),(flat U t l)[j]?=some lf->∃u:Value,xs[j]?=some u/\CRep U w m lf u)(hm:∀b,H4 v=some b->m b=0)(oe:∀b,w.heap.size<=b->m b=0):
  ∃m',CRep U w m' (.sl t l none) v/\KM w m w m' (λb=>H4 v=some b):=by
 subst hn;obtain⟨hl,a,cap,hv,bh,hc⟩:=id h;by_cases h0:l=[]
 ·subst h0;exact⟨m,by rw[hv];exact .nil _ _ _ _,KM.refl _ _ _ oe⟩
 have hp:=Jz.2 h0;obtain⟨b,fx,dt,fM,hb,_,aL⟩:=h.blk hp;have aH:=h.lt hb;have kq:=hm b hb;have eb:Ext w m w (C6 m b (l.length*U.size t)):=by
  refine⟨λ_ c _ fz h=>⟨c,fz,h⟩,λ_ _ _=>rfl,λk=>?_⟩;unfold C6;by_cases hk:k=b
  ·rw[hk,kq];exact Fi _
  ·rw[Ek hk];exact Ff _
 refine⟨C6 m b (l.length*U.size t),?_,⟨rfl,rfl,rfl,Ff _,λk hk aC=>⟨rfl,?_⟩,eb,λk hk=>?_⟩⟩
 ·have eF:l.length<=fx:=by
   rw[hv]at dt;cases dt;exact bh
  rw[dt];refine .sl t l none b 0 fx (λj=>xs.getD j undef) eF (by rw[Ly];simp[C6]) (λj lf hj=>?_) (λj lf hj=>?_)
  ·obtain⟨u,hu,_⟩:=hx j lf hj;rw[Kb,hu,Ly];exact(aL j u hu).1
  ·obtain⟨u,hu,hr⟩:=hx j lf hj;rw[Kb,hu];exact hr.mono hU eb
 ·unfold C6;rw[Ek λe=>aC (by rw[e];exact hb)]
 ·unfold C6;rw[Ek Du];exact oe k hk
end
end Go.Aev
end
section
open Go.Lib
namespace Go.Aev
def W5:List (Nat×Value)->Nat->Option Value
 |[],_=>none
 |(j,v)::r,i=>bif Ko j i then some v else W5 r i
def evV(fr:List (Nat×Value)):Fe->Option Value
 | .tmp t=>W5 fr t
 | .const v=>some v
 |_=>none
structure Tm(a:Act)(n:Nat)(fr:List (Nat×Value)):Prop where
 size:a.tmps.size=n
 dfr:a.defers=[]
 get:∀i v,W5 fr i=some v->a.tmps.getD i undef=v
def B2X(fr:List (Nat×Value)):List (Nat×Value)->Prop
 |[]=>True
 |p::r=>W5 fr p.1=some p.2/\B2X fr r
def R0(P:Fq)(t:Fc):Option (Nat×Nat×Option Ea):=(P.info? t).map λi=>(i.size,i.bytes,i.zero.map λz=>z.cells.toList)
def A58(P:Fq)(t:Fc):Bool:=match P.underlying t with
 |some (.int _)=>true
 |some .bool=>true
 |some .string=>true
 |some (.slice _)=>true
 |_=>false
def A3t(P:Fq)(t:Fc):Bool:=match P.underlying t with
 |some (.struct _)=>true
 |_=>false
def A4B(P:Fq)(t:Fc)(i:Nat):Option (Nat×Nat):=match P.underlying t with
 |some (.struct fs)=>(fs[i]?).bind λf=>(P.info? f.type).map λj=>(f.offset,j.size)
 |_=>none
def D2s{P:Fq}{t:Fc}(h:A58 P t=true)(w:World):(isAgg t).run P w=.ok false w:=by
 unfold A58 at h;split at h<;>first
  |(rename_i h1;simp[isAgg,Fk h1];done)
  |cases h
def D3l{P:Fq}{t:Fc}(h:A3t P t=true)(w:World):(isAgg t).run P w=.ok true w:=by
 unfold A3t at h;split at h
 ·rename_i fs h1;simp[isAgg,Fk h1]
 ·cases h
def A1q{P:Fq}{t:Fc}{sz fZ:Nat}{zc:Ea}(h:R0 P t=some (sz,fZ,some zc)):∃i z,P.info? t=some i/\i.size=sz/\i.bytes=fZ/\i.zero=some z/\z.cells=zc.toArray:=by
 unfold R0 at h;obtain⟨i,h1,h2⟩:=Jw.1 h;simp only[Ls]at h2;obtain⟨h3,h4,h5⟩:=h2;obtain⟨z,h6,h7⟩:=Jw.1 h5;exact⟨i,z,h1,h3,h4,h6,by rw[<-h7]⟩
section
variable {P:Fq}{a:Act}{n:Nat}{fr wB:List (Nat×Value)}{w w':World}{o:Oper}{K:Act->World->Prop}{Q:Exit->Act->World->Prop}
def Tm.sub(tm:Tm a n fr)(h:B2X fr wB):Tm a n wB:=by
 refine⟨tm.size,tm.dfr,λi v hv=>tm.get i v ?_⟩
 induction wB with
 |nil=>cases hv
 |cons p r ih=>
  obtain⟨h1,h2⟩:=h;unfold W5 at hv;cases hb:Ko p.1 i with
  |true=>
   rw[hb]at hv;have:=(F2 _ _).1 hb;simp only[Eg,Lv]at hv;rw[<-this, <-hv];exact h1
  |false=>rw[hb]at hv;exact ih h2 hv
def Tm.ev(tm:Tm a n fr){x:Fe}{v:Value}(h:evV fr x=some v):a.eval x=v:=by
 cases x with
 |tmp t=>exact tm.get t v h
 |const c=>simp only[evV,Lv]at h;exact h
 |global g=>cases h
 |func f=>cases h
def Tm.put(tm:Tm a n fr){d:Nat}{v:Value}(hd:Gf d n=true):Tm (a.put (some d) v) n ((d,v)::fr):=by
 have dV:d<n:=by simpa [Nat.blt_eq]using hd
 refine⟨by rw[A0s];exact tm.size,by rw[B2N];exact tm.dfr,λi u hu=>?_⟩;have aH:d<a.tmps.size:=by rw[tm.size];exact dV
 have hg:(a.put (some d) v).tmps.getD i undef=if d=i then v else a.tmps.getD i undef:=B1S a d i v aH
 rw[hg];unfold W5 at hu;cases hb:Ko d i with
 |true=>
  rw[hb]at hu;simp only[Eg,Lv]at hu;rw[El ((F2 _ _).1 hb),hu]
 |false=>
  rw[hb]at hu;rw[Ek λe=>by rw[(F2 _ _).2 e]at hb;cases hb];exact tm.get i u hu
def Tm.none(tm:Tm a n fr){v:Value}:Tm (a.put none v) n fr:=tm
def A4K(tm:Tm a n fr){d:Nat}{v:Value}(aZ:o.dst=some d)(hd:Gf d n=true)(ah:(Fa a.eval o).run P w=.ok (.value v) w')(hk:∀a',Tm a' n ((d,v)::fr)->K a' w'):o.wp P a w K Q:=by
 refine O5 ah ?_;rw[aZ];exact hk _ (tm.put hd)
def A0Z(tm:Tm a n fr){x:Fe}{v:Value}(ai:o.op=.move x:=by rfl)(hx:evV fr x=some v:=by rfl):(Fa a.eval o).run P w=.ok (.value v) w:=by simp[Fa,ai,tm.ev hx]
def C61(tm:Tm a n fr){x:Fe}{v:Value}(ai:o.op=.assign x:=by rfl)(hx:evV fr x=some v:=by rfl):(Fa a.eval o).run P w=.ok (.value v) w:=by simp[Fa,ai,tm.ev hx]
def A9i(tm:Tm a n fr){x:Fe}{i:Nat}{v u:Value}{vs:Ea}(ai:o.op=.extract x i:=by rfl)(hx:evV fr x=some u:=by rfl)(hu:u=.tuple vs.toArray:=by rfl)(hi:vs[i]?=some v:=by rfl):(Fa a.eval o).run P w=.ok (.value v) w:=by
 subst hu;have h1:vs.toArray[i]?=some v:=by simpa using hi
 simp[Fa,ai,tm.ev hx,Instr.extract,hi]
def A1k(tm:Tm a n fr){x:Fe}{c:Call}{p:Option Addr}{l cp:Nat}{t e:Fc}(ht:P.underlying t=some (.slice e))(ai:o.op=.call c:=by rfl)(aA:c.callee=.builtin .len:=by rfl)(aD:c.args= #[x]:=by rfl)(eK:c.argTypes= #[t]:=by rfl){vx:Value}(hx:evV fr x=some vx:=by rfl)(hv:vx=.slice p l cp:=by rfl):
  (Fa a.eval o).run P w=.ok (.value (.int .i64 l)) w:=by
 simp[Fa,ai,resolve,aA,aD,eK,tm.ev hx,hv,invoke,builtin,Builtin.len_,Fk ht,goInt]
def A5t(tm:Tm a n fr){op:BinOp}{t yt:Fc}{x y:Fe}{k0:Hc}{i j:Int}{v:Value}(ai:o.op=.binOp op t x y yt)(hx:evV fr x=some (.int k0 i))(hy:evV fr y=some (.int k0 j))
  (hv:(binOp op t (.int k0 i) (.int k0 j)).run P w=.ok v w):(Fa a.eval o).run P w=.ok (.value v) w:=by
 simp[Fa,ai,tm.ev hx,tm.ev hy,eqGuard_at_int,hv]
def C0r(tm:Tm a n fr){t yt:Fc}{x y:Fe}{k0:Hc}{i j:Int}(ai:o.op=.binOp .lss t x y yt:=by rfl)(hx:evV fr x=some (.int k0 i):=by rfl)(hy:evV fr y=some (.int k0 j):=by rfl):(Fa a.eval o).run P w=.ok (.value (.bool (decide (i<j)))) w:=
 A5t tm ai hx hy (by simp[binOp,Jx])
def B06(tm:Tm a n fr){t yt:Fc}{x y:Fe}{k0:Hc}{i j:Int}(ai:o.op=.binOp .gtr t x y yt:=by rfl)(hx:evV fr x=some (.int k0 i):=by rfl)(hy:evV fr y=some (.int k0 j):=by rfl):(Fa a.eval o).run P w=.ok (.value (.bool (decide (j<i)))) w:=
 A5t tm ai hx hy (by simp[binOp,Jx])
def B4h(tm:Tm a n fr){t yt:Fc}{x y:Fe}{k0:Hc}{i j:Int}(ai:o.op=.binOp .geq t x y yt:=by rfl)(hx:evV fr x=some (.int k0 i):=by rfl)(hy:evV fr y=some (.int k0 j):=by rfl):(Fa a.eval o).run P w=.ok (.value (.bool (decide (j<=i)))) w:=
 A5t tm ai hx hy (by simp[binOp,Jx])
def D3t(tm:Tm a n fr){t yt:Fc}{x y:Fe}{k0:Hc}{i j:Int}(ai:o.op=.binOp .eql t x y yt:=by rfl)(hx:evV fr x=some (.int k0 i):=by rfl)(hy:evV fr y=some (.int k0 j):=by rfl):(Fa a.eval o).run P w=.ok (.value (.bool (i==j))) w:=
 A5t tm ai hx hy (by simp[binOp,Jx])
def D6Q(tm:Tm a n fr){t yt:Fc}{x y:Fe}{k0:Hc}{i j:Int}(ai:o.op=.binOp .neq t x y yt:=by rfl)(hx:evV fr x=some (.int k0 i):=by rfl)(hy:evV fr y=some (.int k0 j):=by rfl):(Fa a.eval o).run P w=.ok (.value (.bool (i !=j))) w:=
 A5t tm ai hx hy (by simp[binOp,Jx])
def A7c(tm:Tm a n fr){t yt:Fc}{x y:Fe}{i j:DT}(ai:o.op=.binOp .eql t x y yt)(hx:evV fr x=some (.string ⟨i.toArray⟩))(hy:evV fr y=some (.string ⟨j.toArray⟩)):(Fa a.eval o).run P w=.ok (.value (.bool (i==j))) w:=by
 have h:(binOp .eql t (.string ⟨i.toArray⟩) (.string ⟨j.toArray⟩)).run P w=.ok (.bool (i==j)) w:=by simp[binOp,Op.stringOp]
 simp[Fa,ai,tm.ev hx,tm.ev hy,Mo,h]
def D3F(tm:Tm a n fr){t yt:Fc}{x y:Fe}{i j:DT}(ai:o.op=.binOp .neq t x y yt)(hx:evV fr x=some (.string ⟨i.toArray⟩))(hy:evV fr y=some (.string ⟨j.toArray⟩)):(Fa a.eval o).run P w=.ok (.value (.bool (!(i==j)))) w:=by
 have h:(binOp .neq t (.string ⟨i.toArray⟩) (.string ⟨j.toArray⟩)).run P w=.ok (.bool (!(i==j))) w:=by simp[binOp,Op.stringOp,bne]
 simp[Fa,ai,tm.ev hx,tm.ev hy,Mo,h]
def A3H(tm:Tm a n fr){t yt:Fc}{x y:Fe}{k0:Hc}{i j:Int}(ai:o.op=.binOp .add t x y yt:=by rfl)(hx:evV fr x=some (.int k0 i):=by rfl)(hy:evV fr y=some (.int k0 j):=by rfl):(Fa a.eval o).run P w=.ok (.value (.int k0 (k0.wrap (i+j)))) w:=
 A5t tm ai hx hy (by simp[binOp,Op.intArith])
def A2r(tm:Tm a n fr){t yt:Fc}{x y:Fe}{k0:Hc}{i j:Int}(ai:o.op=.binOp .sub t x y yt:=by rfl)(hx:evV fr x=some (.int k0 i):=by rfl)(hy:evV fr y=some (.int k0 j):=by rfl):(Fa a.eval o).run P w=.ok (.value (.int k0 (k0.wrap (i - j)))) w:=
 A5t tm ai hx hy (by simp[binOp,Op.intArith])
def A9Y(tm:Tm a n fr){t:Fc}{x:Fe}{b:Bool}(ai:o.op=.unOp .not t x:=by rfl)(hx:evV fr x=some (.bool b):=by rfl):(Fa a.eval o).run P w=.ok (.value (.bool (!b))) w:=by simp[Fa,ai,tm.ev hx,Op.unary]
def D7m(tm:Tm a n fr){c x y:Fe}{v:Value}(ai:o.op=.pick c x y:=by rfl)(hc:evV fr c=some (.bool true):=by rfl)(hx:evV fr x=some v:=by rfl):(Fa a.eval o).run P w=.ok (.value v) w:=by simp[Fa,ai,tm.ev hc,tm.ev hx,asBool]
def D1E(tm:Tm a n fr){c x y:Fe}{v:Value}(ai:o.op=.pick c x y:=by rfl)(hc:evV fr c=some (.bool false):=by rfl)(hy:evV fr y=some v:=by rfl):(Fa a.eval o).run P w=.ok (.value v) w:=by simp[Fa,ai,tm.ev hc,tm.ev hy,asBool]
def A1G(tm:Tm a n fr){t e:Fc}{x i:Fe}{b off l cp sz fZ:Nat}{zc:Ea}{j:Int}{m:Nat}(ht:P.underlying t=some (.slice e))(bR:R0 P e=some (sz,fZ,some zc))(ai:o.op=.indexAddr t x i)
  {vx:Value}(hx:evV fr x=some vx)(hv:vx=.slice (some ⟨b,off,none⟩) l cp)(hi:evV fr i=some (.int .i64 j))(hj:j=(m:Int))(hm:m<l):(Fa a.eval o).run P w=.ok (.value (.pointer (some ⟨b,off+m*sz,none⟩))) w:=by
 subst hj;obtain⟨ie,z,bR,az,_⟩:=A1q bR;have cL:(La b off none).add (m*sz)=⟨b,off+m*sz,none⟩:=by rw[Hf]
 have h0:(0:Int)<=(m:Int):=Du
 have h1:(m:Int)<(l:Int):=Du
 simp[Fa,ai,tm.ev hx,hv,tm.ev hi,Instr.indexAt,asIntOf,Fk ht,h0,h1,Gw,Hg,bR,az,h1,hm,Nat.not_le.2 hm];rw[<-cL]
def A0R(tm:Tm a n fr){t:Fc}{x:Fe}{ad:Addr}{v:Value}(ij:A58 P t=true)(ai:o.op=.load t x)(hx:evV fr x=some (.pointer (some ad)))(hc:w.cell? ad=some v):(Fa a.eval o).run P w=.ok (.value v) w:=by
 have:=D2s ij;simp[Fa,ai,tm.ev hx,Pd,Kc,loadVar,this,hc]
def A8R{t:Fc}{b off sz fZ:Nat}{zc us:Ea}(ij:A3t P t=true)(bR:R0 P t=some (sz,fZ,some zc))(hl:us.length=sz)(hc:∀(j:Nat) u,us[j]?=some u->w.cell? ⟨b,off+j,none⟩=some u):
  (loadVar t ⟨b,off,none⟩).run P w=.ok (.agg us.toArray) w:=by
 have:=D3l ij;obtain⟨ie,z,bR,az,_⟩:=A1q bR;have cZ:(loadCells ⟨b,off,none⟩ sz).run P w=.ok us.toArray w:=by
  have h1:=run_loadCells (P:=P) w ⟨b,off,none⟩ sz (λj=>us.getD j undef) λj hj=>by
   rw[Hf];have h2:us[j]?=some (us[j]'Du):=Fw Du;rw[hc j _ h2,Kb,h2];rfl
  have h3:(List.range sz).map (λj=>us.getD j undef)=us:=by
   apply List.ext_getElem?;intro j;rw[Oo];by_cases hj:j<sz
   ·rw[List.getElem?_range hj,Oa,Kb,Fw Du];rfl
   ·rw[Ks Es,Ks Du];rfl
  rw[h3]at h1;exact h1
 simp[loadVar,this,Gw,Hg,bR,az,cZ]
def A3W(tm:Tm a n fr){t:Fc}{x:Fe}{b off sz fZ:Nat}{zc us:Ea}(ij:A3t P t=true)(bR:R0 P t=some (sz,fZ,some zc))(ai:o.op=.load t x)(hx:evV fr x=some (.pointer (some ⟨b,off,none⟩)))
  (hl:us.length=sz)(hc:∀(j:Nat) u,us[j]?=some u->w.cell? ⟨b,off+j,none⟩=some u):(Fa a.eval o).run P w=.ok (.value (.agg us.toArray)) w:=by
 have:=A8R (P:=P) ij bR hl hc;simp[Fa,ai,tm.ev hx,Pd,Kc,this]
def A07(tm:Tm a n fr){t:Fc}{x:Fe}{i b off o' m:Nat}(hf:A4B P t i=some (o',m+1))(ai:o.op=.fieldAddr t x i:=by rfl)(hx:evV fr x=some (.pointer (some ⟨b,off,none⟩)):=by rfl):(Fa a.eval o).run P w=.ok (.value (.pointer (some ⟨b,off+o',none⟩))) w:=by
 unfold A4B at hf;split at hf
 ·rename_i fs h1;obtain⟨f,h2,h3⟩:=Option.bind_eq_some_iff.1 hf;obtain⟨Av,h4,h5⟩:=Jw.1 h3;simp only[Ls]at h5;have cL:(La b off none).add o'=⟨b,off+o',none⟩:=Hf _ _ _;have az:(Gw f.type).run P w=.ok (m+1) w:=by simp[Gw,Hg,h4,h5.2]
  simp[Fa,ai,tm.ev hx,Instr.fieldAt,Fk h1,h2,Kc,fieldPlace,az,h5.1,cL]
 ·cases hf
def C45(tm:Tm a n fr){t e:Fc}{x hi:Fe}{b l cp sz fZ:Nat}{zc:Ea}{k:Nat}{j:Int}(ht:P.underlying t=some (.slice e))(bR:R0 P e=some (sz,fZ,some zc))(ai:o.op=.slice t x none (some hi) none)
  {vx:Value}(hx:evV fr x=some vx)(hv:vx=.slice (some ⟨b,0,none⟩) l cp)(hh:evV fr hi=some (.int .i64 j))(hj:j=(k:Int))(hk:k<=l)(hl:l<=cp):(Fa a.eval o).run P w=.ok (.value (.slice (some ⟨b,0,none⟩) k cp)) w:=by
 subst hj;obtain⟨ie,z,bR,az,_⟩:=A1q bR;have hb:=A9K P w true l cp hl none (some (.int .i64 (k:Int))) none 0 k cp (.inl ⟨rfl,rfl⟩) (.inr ⟨.i64,rfl⟩) (.inl ⟨rfl,rfl⟩) (Fi _) Du (Ff _);have cL:(La b 0 none).add 0=⟨b,0,none⟩:=by rw[Hf]
 simp[Fa,ai,tm.ev hx,hv,tm.ev hh,Instr.sliceAt,Instr.slice,Fk ht,hb,Gw,Hg,bR,az,cL]
def A4J(tm:Tm a n fr){t:Fc}{ps:Array (Nat×Fe)}{cs:Array Value}(ai:o.op=.build t ps){qs:List (Nat×Value)}(hq:(ps.map λ(i,x)=>(i,a.eval x)).toList=qs)(hb:P.built t qs=some cs):(Fa a.eval o).run P w=.ok (.value (.agg cs)) w:=by
 rw[<-hq]at hb;simp[Fa,ai,run_build w t _ _ hb]
def C3r(tm:Tm a n fr){t:Fc}{i:Nat}{x:Fe}{v:Value}{ps:Array (Nat×Fe)}{cs:Array Value}(ai:o.op=.build t ps)(fA:ps= #[(i,x)])(hx:evV fr x=some v)(hb:P.built t [(i,v)]=some cs):(Fa a.eval o).run P w=.ok (.value (.agg cs)) w:=
 A4J tm ai (qs:=[(i,v)]) (by rw[fA];simp[tm.ev hx]) hb
def B62(tm:Tm a n fr){t:Fc}{i j:Nat}{x y:Fe}{v u:Value}{ps:Array (Nat×Fe)}{cs:Array Value}(ai:o.op=.build t ps)(fA:ps= #[(i,x),(j,y)])(hx:evV fr x=some v)(hy:evV fr y=some u)(hb:P.built t [(i,v),(j,u)]=some cs):(Fa a.eval o).run P w=.ok (.value (.agg cs)) w:=
 A4J tm ai (qs:=[(i,v),(j,u)]) (by rw[fA];simp[tm.ev hx,tm.ev hy]) hb
def A4m(tm:Tm a n fr){d:Nat}{t:Fc}{sz fZ:Nat}{zc:Ea}(bR:R0 P t=some (sz,fZ,some zc))(aZ:o.dst=some d)(ai:o.op=.alloc t)(hd:Gf d n=true)(hk:∀a',Tm a' n ((d,.pointer (some ⟨w.heap.size,0,none⟩))::fr)->K a' (w.alloc (.cells zc.toArray t))):o.wp P a w K Q:=by
 obtain⟨ie,z,h1,h2,h3,h4,h5⟩:=A1q bR;refine A4K tm aZ hd ?_ hk;simp[Fa,ai,Instr.alloc,zeroValue,Hg,h1,h4,newVar,newRow,h5]
def A2s(tm:Tm a n fr){d:Nat}{t e:Fc}{ps:Array (Nat×Fe)}{x:Fe}{sz fZ:Nat}{zc us:Ea}{v:Value}(ht:P.underlying t=some (.slice e))(bR:R0 P e=some (sz,fZ,some zc))(aZ:o.dst=some d)(ai:o.op=.buildSlice t 1 ps)(fA:ps= #[(0,x)])(hd:Gf d n=true)
  (hx:evV fr x=some v)(hv:v.cells=us.toArray)(hl:us.length=sz)(hz:zc.length=sz)(az:0<sz)(rG:sz<65536)(hk:∀a',Tm a' n ((d,.slice (some ⟨w.heap.size,0,none⟩) 1 1)::fr)->K a' (w.alloc (.cells us.toArray e))):o.wp P a w K Q:=by
 obtain⟨ie,z,h1,h2,h3,h4,h5⟩:=A1q bR;have ah:(Instr.buildSlice t 1 #[(0,v)]).run P w=.ok (.slice (some ⟨w.heap.size,0,none⟩) 1 1) (w.alloc (.cells us.toArray e)):=by
  refine run_buildSlice w t e 1 _ _ ie z ht h1 h4 (by rw[h2];omega) (by rw[h2];omega) ?_;have h6:=Great.fill_whole az [v] ((Array.range (1*ie.size)).map (z.cells[· % z.cells.size]!)) (λu hu=>by rcases Oj.1 hu with rfl;rw[hv];simpa using hl) (by simp[h2]);rw[h2]at h6 ⊢;simpa [hv]using h6
 refine A4K tm aZ hd ?_ hk;simp[Fa,ai,fA,tm.ev hx,ah]
def B99(tm:Tm a n fr){t:Fc}{x y:Fe}{b off sz fZ:Nat}{zc:Ea}{v u:Value}(bR:R0 P t=some (1,fZ,some zc))(aZ:o.dst=none)(ai:o.op=.store t x y)
  (hx:evV fr x=some (.pointer (some ⟨b,off,none⟩)))(hy:evV fr y=some v)(hv:v.cells= #[v])(a8:v.oneCell'=true)(hc:w.cell? ⟨b,off,none⟩=some u)(hf:w.frozen? ⟨b,off,none⟩=false)(hk:K a (w.setCell ⟨b,off,none⟩ v)):o.wp P a w K Q:=by
 obtain⟨ie,z,h1,h2,h3,h4,h5⟩:=A1q bR;have cU:=run_store P w ⟨b,off,none⟩ v .plain a8;simp only[hc,hf]at cU;have cL:(La b off none).add 0=⟨b,off,none⟩:=by rw[Hf,Mb]
 have ah:(Fa a.eval o).run P w=.ok .skip (w.setCell ⟨b,off,none⟩ v):=by
  have cn:(Gw t).run P w=.ok 1 w:=by simp[Gw,Hg,h1,h2]
  have cE:(Ie ⟨b,off,none⟩ [v]).run P w=.ok () (w.setCell ⟨b,off,none⟩ v):=by
   simp[Ie,cL,cU]
  simp[Fa,ai,tm.ev hx,tm.ev hy,Pc,Kc,storeVar,cn,hv,cE]
 unfold Lw;rw[ah,Ob,aZ];exact hk
def A7g(tm:Tm a n fr){t:Fc}{x y:Fe}{b off sz fZ:Nat}{zc us:Ea}{v:Value}(bR:R0 P t=some (sz,fZ,some zc))(aZ:o.dst=none)(ai:o.op=.store t x y)
  (hx:evV fr x=some (.pointer (some ⟨b,off,none⟩)))(hy:evV fr y=some v)(hv:v.cells=us.toArray)(hl:us.length=sz)(cU:(Ie ⟨b,off,none⟩ us).run P w=.ok () w')(hk:K a w'):o.wp P a w K Q:=by
 obtain⟨ie,z,h1,h2,h3,h4,h5⟩:=A1q bR;have ah:(Fa a.eval o).run P w=.ok .skip w':=by
  have cn:(Gw t).run P w=.ok sz w:=by simp[Gw,Hg,h1,h2]
  simp[Fa,ai,tm.ev hx,tm.ev hy,Pc,Kc,storeVar,cn,hv,hl,cU]
 unfold Lw;rw[ah,Ob,aZ];exact hk
def B1Z(tm:Tm a n fr){d:Nat}{c:Call}{t u:Fc}{x y:Fe}{vx vy v':Value}(aZ:o.dst=some d)(ai:o.op=.call c)(aA:c.callee=.builtin .append)(aD:c.args= #[x,y])(eK:c.argTypes= #[t,u])(hd:Gf d n=true)
  (hx:evV fr x=some vx)(hy:evV fr y=some vy)(ah:(Pf #[t,u] o.type #[vx,vy]).run P w=.ok v' w')(hk:∀a',Tm a' n ((d,v')::fr)->K a' w'):o.wp P a w K Q:=
 A4K tm aZ hd (by simp[Fa,ai,resolve,aA,aD,eK,invoke,builtin,tm.ev hx,tm.ev hy,ah]) hk
def A1u(tm:Tm a n fr){d:Nat}{c:Call}{f:Gn}{vs:Ea}{R:Ending->World->Prop}(aZ:o.dst=some d)(ai:o.op=.call c)(aA:c.callee=.value (.func f))(aN:∀args w,(callFunc f args).run P w=.ok (.enter f args) w)
  (hd:Gf d n=true)(aD:c.args.toList.map a.eval=vs)(hc:Calls P f vs.toArray w R)(hk:∀e w',R e w'->∃v,e=.returned v/\∀a',Tm a' n ((d,v)::fr)->K a' w'):o.wp P a w K Q:=by
 have fT:(Fa a.eval o).run P w=.ok (.enter f (c.args.toList.map a.eval).toArray) w:=by
  simp[Fa,ai,resolve,aA,Act.eval,Deferred.ofValue,invoke,aN];apply Array.ext';simp
 unfold Lw;rw[fT,Oper.upon_enter,aD];refine hc.mono λe w' ek=>?_;obtain⟨v,rfl,hv⟩:=hk e w' ek;rw[aZ];exact hv _ (tm.put hd)
def A6G(tm:Tm a n fr){c:Call}{x:Fe}{v:Value}(h:c.args= #[x])(hx:evV fr x=some v):c.args.toList.map a.eval=[v]:=by rw[h];simp[tm.ev hx]
def B0S(tm:Tm a n fr){c:Call}{x y:Fe}{v u:Value}(h:c.args= #[x,y])(hx:evV fr x=some v)(hy:evV fr y=some u):c.args.toList.map a.eval=[v,u]:=by rw[h];simp[tm.ev hx,tm.ev hy]
def C8m(tm:Tm a n fr){c:Call}{x y z:Fe}{v u t:Value}(h:c.args= #[x,y,z])(hx:evV fr x=some v)(hy:evV fr y=some u)(hz:evV fr z=some t):c.args.toList.map a.eval=[v,u,t]:=by rw[h];simp[tm.ev hx,tm.ev hy,tm.ev hz]
def C2V{ops:Array Oper}(tm:Tm a n fr){j g:Nat}{b:Bool}(hj:(ops[j]?).bind (·.dst)=some g)(hn:Gf g n=true)(hv:W5 fr g=some (.bool b)):yielded ops a.tmps j=some b:=by
 have aH:g<a.tmps.size:=by rw[tm.size];simpa [Nat.blt_eq]using hn
 have bL:=tm.get g _ hv;have aO:a.tmps[g]?=some (.bool b):=by
  rw[Array.getD_eq_getD_getElem?,Pp aH]at bL;rw[Pp aH];simpa using bL
 unfold yielded;rw[hj];simp[aO]
def C8O{ops:Array Oper}{aw:List Oper}(tm:Tm a n fr){j g:Nat}{aY:Bool}(hg:o.guard=some (j,aY))(hj:(ops[j]?).bind (·.dst)=some g)(hn:Gf g n=true)(hv:W5 fr g=some (.bool aY))
  (h:∀K:Act->World->Prop,(∀a w,Ju P ops Q aw a w->K a w)->o.wp P a w K Q):Ju P ops Q (o::aw) a w:=by
 have hy:=C2V tm hj hn hv;refine wpList_step λK hK=>?_;simp only[Km,hg,hy];simp;exact h K hK
def B7b{ops:Array Oper}{aw:List Oper}(tm:Tm a n fr){j g d:Nat}{aY b:Bool}(hg:o.guard=some (j,aY))(aZ:o.dst=some d)(hd:Gf d n=true)(hj:(ops[j]?).bind (·.dst)=some g)(hn:Gf g n=true)(hv:W5 fr g=some (.bool b))(aC:(b==aY)=false)
  (h:∀a',Tm a' n ((d,undef)::fr)->Ju P ops Q aw a' w):Ju P ops Q (o::aw) a w:=by
 have hy:=C2V tm hj hn hv;refine wpList_step λK hK=>?_;have BK:(some b==some aY)=false:=by
  cases b<;>cases aY<;>first|rfl|cases aC
 simp only[Km,hg,hy,BK];rw[Ek Eo,aZ];exact hK _ _ (h _ (tm.put hd))
end
def A11:Code->Array Oper
 | .region _ ops _=>ops
 |_=> #[]
def opN(c:Code)(j:Nat):Oper:=((A11 c).toList[j]?).getD ⟨none,.move (.const undef),0, "", #[],none⟩
def B5f(c:Code):Nat->Nat->List Oper
 |_,0=>[]
 |j,m+1=>opN c j::B5f c (j+1) m
section
variable {P:Fq}{Q:Exit->Act->World->Prop}{a:Act}{w w':World}{c:Code}{n:Nat}{fr:List (Nat×Value)}{o:Oper}{K:Act->World->Prop}
def D4(id m:Nat)(h:c=.region id (A11 c) false)(h2:(A11 c).toList=B5f c 0 m)(hw:Ju P (A11 c) Q (B5f c 0 m) a w):c.wp P Q a w:=by
 rw[h];refine wp_region_list ?_;rw[h2];exact hw
def P7(h:c=.skip)(hq:Q .normal a w):c.wp P Q a w:=by rw[h];exact wp_skip hq
def A5U(id:Nat)(h:c=.exit id)(hq:Q (.exit id) a w):c.wp P Q a w:=by rw[h];exact wp_exit hq
def A5P(h:c=.ret)(hq:Q .ret a w):c.wp P Q a w:=by rw[h];exact wp_ret hq
def D7p{S:World->Prop}(hm:P.follows .mixedOrders=true)(id m:Nat)(h:c=.region id (A11 c) true)(hs:(A11 c).size=m)
  (hw:Ic P .any (A11 c) (J2 Q) S m (Array.replicate m false) a {w with drawn:=w.drawn+1}):c.wp P Q a w:=by
 rw[h];refine Code.wp_mono (Q:=J2 Q) (λe a w h=>by cases e<;>first|exact h|exact h.elim) ?_;subst hs;exact wp_region_held hm hw
def D3j{ops:Array Oper}{S:World->Prop}{listed:Array Bool}{fuel i d:Nat}{v:Value}(tm:Tm a n fr)(hi:ops[i]?=some o)(hs:Region.noSelect ops=true)(hf:Region.free .any ops listed i=true)
  (hr:(Lr .any ops listed).contains i=true)(hg:o.guard=none)(aZ:o.dst=some d)(hd:Gf d n=true)(hS:S w)(ah:∀w,S w->(Fa a.eval o).run P w=.ok (.value v) w)
  (hk:∀a',Tm a' n ((d,v)::fr)->Ic P .any ops (J2 Q) S fuel (listed.setIfInBounds i true) a' w):Ic P .any ops (J2 Q) S (fuel+1) listed a w:=by
 refine wpAnyH_take hi hs hf hr (λ_ _ _ h=>h.elim) (.inl ⟨by simp[Km,hg],ah⟩) hS ?_;rw[aZ];exact hk _ (tm.put hd)
def B0n{ops:Array Oper}{S:World->Prop}{listed:Array Bool}{fuel i:Nat}(hr:Lr .any ops listed=[i])(hi:ops[i]?=some o)(hg:o.guard=none)
  (h:∀K:Act->World->Prop,(∀a' w',S w'->Ic P .any ops (J2 Q) S fuel (listed.setIfInBounds i true) a' w'->K a' w')->o.wp P a w K (J2 Q)):Ic P .any ops (J2 Q) S (fuel+1) listed a w:=by
 refine wpAnyH_all hr Eo λj hj=>?_;rcases Oj.1 hj with rfl
 unfold Go.wpOp;simp only[hi];rw[El (by simp[Km,hg])];exact .inl (h _ λa' w' h1 h2=>⟨h1,h2⟩)
def C2r{ops:Array Oper}{S:World->Prop}{listed:Array Bool}(hr:Lr .any ops listed=[])(h:Q .normal a w)(fuel:Nat):Ic P .any ops (J2 Q) S fuel listed a w:=wpAnyH_done (Q:=J2 Q) hr h fuel
end
def Bk(w:World)(b:Nat)(us:Ea):Prop:=
 ∃c e fz,w.heap[b]?=some (.cells c e fz)/\us.length<=c.size/\fz.2=0/\∀(j:Nat) u,us[j]?=some u->c[j]?=some u
section
variable {w w':World}{b:Nat}{us:Ea}{S:Nat->Prop}{m m':Nat->Nat}
def Bk.cell(h:Bk w b us){j:Nat}{u:Value}(hj:us[j]?=some u):w.cell? ⟨b,j,none⟩=some u:=by
 obtain⟨c,e,fz,h1,h2,h3,h4⟩:=h;simp[Gp,h1,h4 j u hj]
def Bk.lt(h:Bk w b us):b<w.heap.size:=by
 obtain⟨c,e,fz,h1,_⟩:=h;exact(Kz.1 h1).1
def Bk.frame(h:Bk w b us)(hb:w'.heap[b]?=w.heap[b]?):Bk w' b us:=by
 obtain⟨c,e,fz,h1,h2⟩:=h;exact⟨c,e,fz,hb.trans h1,h2⟩
def KM.bk(k:KM w m w' m' S)(h:Bk w b us)(hS:¬S b):Bk w' b us:=h.frame (k.heap b h.lt hS).1
def A5n{zc:Ea}{t:Fc}:Bk (w.alloc (.cells zc.toArray t)) w.heap.size zc:=
 ⟨zc.toArray,t,(0,0),by show(w.heap.push _)[w.heap.size]?=_;simp,Eo,rfl,λj u hj=>by simpa using hj⟩
def Bk.store(P:Fq)(h:Bk w b us){off:Nat}{vs:Ea}(bh:off+vs.length<=us.length)(a8:∀v∈vs,v.oneCell'=true)(hm:m b=0)(hz:∀b,w.heap.size<=b->m b=0):
  (Ie ⟨b,off,none⟩ vs).run P w=.ok () (D5 w b off vs)/\Bk (D5 w b off vs) b (T5 us off vs)/\KM w m (D5 w b off vs) m (λk=>k=b):=by
 obtain⟨c,e,fz,h1,h2,h3,h4⟩:=h;obtain⟨s1,⟨c',s2,s3,s4,s5⟩,s6,s7,s8,s9,jA⟩:=A3O P b e fz vs off w c h1 Du (λj h5 h6=>Du) a8;obtain⟨o1,o2⟩:=B0Y us off vs bh;refine⟨s1 _ 0 Eo (Fi _),⟨c',e,fz,s2,by rw[o1,s3];exact h2,h3,λj u hj=>?_⟩,⟨s8,s9,jA,by rw[s6];exact Ff _,λk _ hk=>⟨s7 k hk,rfl⟩,⟨A6Y h1 s2 s7,λk o ho=>?_,λ_=>Ff _⟩,λk hk=>hz k (by rw[s6]at hk;exact hk)⟩⟩
 ·rw[o2]at hj;by_cases cS:off<=j/\j<off+vs.length
  ·rw[El cS]at hj;have:=s5 (j - off) u hj;rw[show off+(j - off)=j from Du]at this;exact this
  ·rw[Ek cS]at hj;rw[s4 j Du];exact h4 j u hj
 ·have hk:k≠b:=λe=>by rw[e,hm]at ho;omega
  exact Fv (a:=⟨k,o,none⟩) (s7 k hk)
def ArrN.store(P:Fq){sz n:Nat}{v:Value}{xs vs:Ea}(h:ArrN w sz v n xs){cap off:Nat}(hv:v=.slice (some ⟨b,0,none⟩) n cap)(hb:H4 v=some b)(bh:off+vs.length<=xs.length)(a8:∀v∈vs,v.oneCell'=true)(hm:m b=0)(hz:∀b,w.heap.size<=b->m b=0):
  (Ie ⟨b,off,none⟩ vs).run P w=.ok () (D5 w b off vs)/\ArrN (D5 w b off vs) sz v n (T5 xs off vs)/\KM w m (D5 w b off vs) m (λk=>k=b):=by
 obtain⟨hl,a,fx,dt,sT,hc⟩:=h;rw[hv]at dt;cases dt;have h0:cap≠0:=λh0=>by rw[hv,h0]at hb;simp[H4]at hb
 obtain⟨b',c,e,fz,ha,h1,h2,h3,h4⟩:=hc.resolve_left h0;cases ha;have dz:n*sz<=cap*sz:=Hy _ sT;have wC:Bk w b xs:=⟨c,e,fz,h1,Du,h3,h4⟩;obtain⟨s1,⟨c',s2,s3,s4,s5⟩,s6,s7,s8,s9,jA⟩:=A3O P b e fz vs off w c h1 Du (λj h5 h6=>Du) a8;obtain⟨q1,q2,q3⟩:=wC.store P bh a8 hm hz;obtain⟨c2,e2,qB,r1,r2,r3,r4⟩:=q2;obtain⟨o1,o2⟩:=B0Y xs off vs bh;rw[s2]at r1;cases r1;exact⟨q1,⟨by rw[o1];exact hl,_,cap,hv,sT,.inr ⟨b,c',e,fz,rfl,s2,by rw[s3];exact h2,h3,r4⟩⟩,q3⟩
def B7r{w:World}{m:Nat->Nat}(hz:∀b,w.heap.size<=b->m b=0):KM w m {w with drawn:=w.drawn+1} m (λ_=>False):=
 ⟨rfl,rfl,rfl,Ff _,λ_ _ _=>⟨rfl,rfl⟩,⟨A6Z rfl,λ_ _ _=>rfl,λ_=>Ff _⟩,hz⟩
def H1(ρ:Nat->Nat)(n r:Nat):Nat->Nat:=λb=>if b<n then ρ b else r
structure Sys(w0:World)(m0:Nat->Nat)(M:Nat->Prop)(w:World)(m:Nat->Nat)(ρ:Nat->Nat):Prop where
 km:KM w0 m0 w m M
 zr:∀b,ρ b≠0->m b=0
 base:∀b,b<w0.heap.size->ρ b≠0->M b
variable {w0:World}{m0:Nat->Nat}{M:Nat->Prop}{ρ:Nat->Nat}
def Sys.z(h:Sys w0 m0 M w m ρ):∀b,w.heap.size<=b->m b=0:=h.km.zero
def Sys.step(h:Sys w0 m0 M w m ρ)(k:KM w m w' m' S)(hS:∀b,b<w.heap.size->S b->ρ b≠0)(BL:∀b,b<w.heap.size->S b->m' b=0)(r:Nat)(hr:r≠0->∀b,w.heap.size<=b->m' b=0):Sys w0 m0 M w' m' (H1 ρ w.heap.size r):=by
 classical
 refine⟨h.km.trans (k.mono (T:=λb=>S b) λ_ _ h=>h) λb hb hs=>?_,λb hb=>?_,λb hb hr=>?_⟩
 ·exact h.base b hb (hS b (Hz hb h.km.size) hs)
 ·unfold H1 at hb;by_cases aH:b<w.heap.size
  ·rw[El aH]at hb;by_cases hs:S b
   ·exact BL b aH hs
   ·rw[(k.heap b aH hs).2];exact h.zr b hb
  ·rw[Ek aH]at hb;exact hr hb b Du
 ·unfold H1 at hr;rw[El (Hz hb h.km.size)]at hr;exact h.base b hb hr
def Sys.stepM(h:Sys w0 m0 M w m ρ)(k:KM w m w' m S)(hS:∀b,b<w.heap.size->S b->ρ b≠0)(r:Nat):Sys w0 m0 M w' m (H1 ρ w.heap.size r):=
 h.step k hS (λb hb hs=>h.zr b (hS b hb hs)) r (λ_ b hb=>h.z b hb)
def Sys.stay(h:Sys w0 m0 M w m ρ)(k:KM w m w' m S)(hS:∀b,b<w.heap.size->S b->ρ b≠0):Sys w0 m0 M w' m ρ:=by
 refine⟨h.km.trans k λb hb hs=>h.base b hb (hS b (Hz hb h.km.size) hs),h.zr,h.base⟩
def Sys.close(h:Sys w0 m0 M w m ρ)(k:KM w m w m' S)(hS:∀b,b<w.heap.size->S b->ρ b≠0){ρ':Nat->Nat}(h1:∀b,ρ' b≠0->ρ b≠0/\¬S b):Sys w0 m0 M w m' ρ':=by
 refine⟨h.km.trans k λb hb hs=>h.base b hb (hS b (Hz hb h.km.size) hs),λb hb=>?_,λb hb hr=>h.base b hb (h1 b hr).1⟩;by_cases aH:b<w.heap.size
 ·rw[(k.heap b aH (h1 b hb).2).2];exact h.zr b (h1 b hb).1
 ·exact k.zero b Du
def J8{n r b:Nat}(h:b<n):H1 ρ n r b=ρ b:=El h
def A0L{n r b:Nat}(h:n<=b):H1 ρ n r b=r:=Ek Du
end
end Go.Aev
end
namespace Go.Aev
variable {Ty:Type}{den:Ty->Type}
def LsC(U:UO Ty den)(w:World)(m:Nat->Nat):List (Leaf Ty den)->Ea->Prop
 |[],[]=>True
 |l::ls,v::vs=>CRep U w m l v/\LsC U w m ls vs
 |_,_=>False
def clL:Leaf Ty den->Bool
 | .sl _ _ (some _)=>false
 | .ptr _ _=>false
 |_=>true
section
variable {P:Fq}{U:UO Ty den}{I:Inv}{w w':World}{m m':Nat->Nat}
def LsC.mono(hU:U.Ok)(hx:Ext w m w' m'):∀{ls:List (Leaf Ty den)}{vs:Ea},LsC U w m ls vs->LsC U w' m' ls vs
 |[],[],_=>trivial
 |_::_,_::_,h=>⟨h.1.mono hU hx,LsC.mono hU hx h.2⟩
 |[],_::_,h=>h.elim
 |_::_,[],h=>h.elim
def LsC.len:∀{ls:List (Leaf Ty den)}{vs:Ea},LsC U w m ls vs->ls.length=vs.length
 |[],[],_=>rfl
 |_::_,_::_,h=>by simp[LsC.len h.2]
 |[],_::_,h=>h.elim
 |_::_,[],h=>h.elim
def LsC.get:∀{ls:List (Leaf Ty den)}{vs:Ea},LsC U w m ls vs->∀(j:Nat) lf,ls[j]?=some lf->∃v,vs[j]?=some v/\CRep U w m lf v
 |[],[],_,j,lf,h=>by simp at h
 |_::_,_::_,h,0,lf,hj=>by cases hj;exact⟨_,rfl,h.1⟩
 |_::_,_::_,h,j+1,lf,hj=>by
  obtain⟨v,h1,h2⟩:=LsC.get h.2 j lf (by simpa using hj);exact⟨v,by simpa using h1,h2⟩
 |[],_::_,h,_,_,_=>h.elim
 |_::_,[],h,_,_,_=>h.elim
def LsC.of_rep{g:Gh}:∀{ls:List (Leaf Ty den)}{vs:Ea},LsRep U w g ls vs->LsC U w g.wm ls vs
 |[],[],_=>trivial
 |_::_,_::_,h=>⟨h.1.1,LsC.of_rep h.2⟩
 |[],_::_,h=>h.elim
 |_::_,[],h=>h.elim
def D0A{lf:Leaf Ty den}{v:Value}{g:Gh}(h:clL lf=true):Own w g U lf v:=by
 cases lf with
 |sl t l o=>
  cases o with
  |none=>exact⟨λt l d e=>(by cases e),λ_ _ e=>(by cases e)⟩
  |some e=>cases h
 |ptr d o=>cases h
 |_=>exact⟨λt l d e=>(by cases e),λ_ _ e=>(by cases e)⟩
def A8I{lf:Leaf Ty den}{d:Nat}(h:clL lf=true):lf.has d=false:=by
 cases lf with
 |sl t l o=>
  cases o with
  |none=>rfl
  |some e=>cases h
 |ptr d o=>cases h
 |_=>rfl
def LsC.rep{g:Gh}(hg:g.wm=m):∀{ls:List (Leaf Ty den)}{vs:Ea},LsC U w m ls vs->ls.all clL=true->LsRep U w g ls vs
 |[],[],_,_=>trivial
 |l::ls,_::_,h,hc=>by
  rw[Fx,Fs]at hc;exact⟨⟨by rw[hg];exact h.1,D0A hc.1⟩,LsC.rep hg h.2 hc.2⟩
 |[],_::_,h,_=>h.elim
 |_::_,[],h,_=>h.elim
def B2G:∀{ls:List (Leaf Ty den)},ls.all clL=true->P0 ls=false
 |[],_=>rfl
 |l::ls,h=>by
  rw[Fx,Fs]at h;have ih:=B2G h.2;have h1:=h.1;cases l with
  |sl t x o=>
   cases o with
   |none=>exact ih
   |some e=>cases h1
  |ptr d o=>cases h1
  |_=>exact ih
def EC(U:UO Ty den)(w:World)(m:Nat->Nat)(e:Ent Ty den)(v:Value):Prop:=
 match e with
 | .one l=>CRep U w m l v
 | .tup ls=>∃vs:Ea,v=.tuple vs.toArray/\LsC U w m ls vs
 |_=>True
def A16{f:Gn}{S:List (Leaf Ty den)->Option (Ent Ty den)}(snd:Sound P U I f S){ls:List (Leaf Ty den)}{r:Ent Ty den}{vs:Ea}(hS:S ls=some r)(hI:I w m)(hz:∀b,w.heap.size<=b->m b=0)(bD:LsC U w m ls vs)(hc:ls.all clL=true):
  Calls P f vs.toArray w λe w'=>∃v m',e=.returned v/\KM w m w' m' (λ_=>False)/\EC U w' m' r v:=by
 refine(snd.ok ls r hS w ⟨m,λ_=>.int .i64 0,λ_=>0,λ_=>0⟩ vs hI hz (bD.rep rfl hc) (λe=>by rw[B2G hc]at e;cases e) (λlf dh d hd=>by
  rw[A8I ((Gu.1 hc) lf dh)]at hd;cases hd)).mono λe w' ⟨v,g',he,p⟩=>⟨v,g'.wm,he,⟨p.os,p.tape,p.output,p.size,λb hb _=>p.frame b hb (λe=>by rw[B2G hc]at e;cases e.1),p.ext,p.zero⟩,?_⟩
 have:=p.rep;cases r with
 |one l=>exact this.1
 |tup ls=>obtain⟨vs,h1,h2⟩:=this;exact⟨vs,h1,LsC.of_rep h2⟩
 |_=>trivial
def C0N{g:Gh}:∀{asq bs:List (Leaf Ty den)}{us vs:Ea},asq.length=us.length->LsRep U w g (asq++bs) (us++vs)->LsRep U w g asq us/\LsRep U w g bs vs
 |[],bs,[],vs,_,h=>⟨trivial,h⟩
 |a::asq,bs,u::us,vs,hl,h=>by
  obtain⟨h1,h2⟩:=C0N (asq:=asq) (us:=us) (by simpa using hl) h.2;exact⟨⟨h.1,h1⟩,h2⟩
 |[],_,_::_,_,hl,_=>by cases hl
 |_::_,_,[],_,hl,_=>by cases hl
def C93{f:Gn}{S:List (Leaf Ty den)->List (List (Leaf Ty den))->Option (List (Leaf Ty den)×List (List (Leaf Ty den)))}(snd:D7 P U I f S){ls c rs c':List (Leaf Ty den)}{vs us:Ea}{b:Nat}
  (hS:S (.ptr 900000 0::ls) [c]=some (rs,[c']))(hI:I w m)(hz:∀b,w.heap.size<=b->m b=0)(bD:LsC U w m ls vs)(cq:ls.all clL=true)(wC:Bk w b us)(BN:∀u∈us,u.oneCell'=true/\u.cells= #[u])(ce:0<us.length)(hm:m b=0)(hc:LsC U w m c us)(fC:c.all clL=true):
  Calls P f (.pointer (some ⟨b,0,none⟩)::vs).toArray w λe w'=>∃m' rv iR,e=.returned (V4 rv)/\KM w m w' m' (λk=>k=b)/\Bk w' b iR/\m' b=0/\iR.length=us.length/\(∀u∈iR,u.oneCell'=true/\u.cells= #[u])/\LsC U w' m' c' iR/\LsC U w' m' rs rv:=by
 have av:=hc.len;obtain⟨cc,e,fz,k1,k2,k3,k4⟩:=wC
 let g:Gh:=⟨m,λ_=>.slice (some ⟨b,0,none⟩) 0 us.length,λ_=>1,λ_=>0⟩
 have bm:spare (Value.slice (some ⟨b,0,none⟩) 0 us.length)=some b:=by
  simp only[spare];rw[Ek Du]
 have sU:∀(d:Nat),M8 (F4 (Ty:=Ty) (den:=den) 0 [c]) d->d=900000:=λd ⟨lf,h1,h2⟩=>by
  simp only[F4,Fu,Jp]at h1;rcases h1 with rfl|h1
  ·simp only[Leaf.has]at h2;exact((F2 _ _).1 h2).symm
  ·rw[A8I ((Gu.1 fC) lf h1)]at h2;cases h2
 have mP:∀(o:Nat),o=0->LRep U w g (.ptr 900000 o) (.pointer (some ⟨b,0,none⟩)):=λo ho=>by
  subst ho;exact⟨.pt _ _ _,λ_ _ _ e=>(by cases e),λd o e=>by cases e;exact⟨b,us.length,rfl,.inl ⟨rfl,Ep⟩⟩⟩
 have hx:LsRep U w g (F4 0 [c]) (V8 [(b,us)]):=by
  simp only[F4,V8,Fu];exact⟨mP 0 rfl,hc.rep rfl fC⟩
 refine(snd.ok _ _ _ _ hS w g (.pointer (some ⟨b,0,none⟩)::vs) [(b,us)] hI hz ⟨mP 0 rfl,bD.rep rfl cq⟩ hx ⟨⟨rfl,av.symm,ce,rfl,λj u hj=>⟨by simp[Gp,k1,k4 j u hj],BN u (List.mem_of_getElem? hj)⟩⟩,trivial⟩
  (λd _=>⟨_,0,us.length,rfl,Fi _,.inr ⟨b,0,cc,e,fz,rfl,k1,by(show 0+us.length*1<=_;omega),by(show m b=0+0*1;rw[hm]),by rw[k3];exact Fi _⟩⟩)
  (λd e' b' hd he aC=>absurd ((sU d hd).trans (sU e' he).symm) aC) (λlf dh d hd=>?_)).mono λe w' ⟨g',rv,dw,he,uY,p,my,gy⟩=>?_
 ·rcases Jp.1 dh with rfl|dh
  ·exact⟨.ptr 900000 0,by simp[F4,C0],hd⟩
  ·rw[A8I ((Gu.1 cq) lf dh)]at hd;cases hd
 ·
  have mL:∃iR,dw=[(b,iR)]/\iR.length=us.length:=by
   match dw,gy with
   |[(b',iR)],gy=>
    simp only[Gg,Jy,Fp,Ls,and_true]at gy;exact⟨iR,by rw[gy.1],gy.2⟩
   |[],gy=>simp at gy
   |_::_::_,gy=>simp at gy
  obtain⟨iR,rfl,px⟩:=mL;obtain⟨⟨hG,jV,Dy,cX,aL⟩,_⟩:=my;have ax:=p.rep;obtain⟨jX,eW,eH⟩:=ax;have pZ:jX=rv++V8 [(b,iR)]:=by
   simp only[Pq]at eW;have:=congrArg Array.toList eW;simpa using this.symm
  subst pZ;obtain⟨q1,q2⟩:=C0N uY eH;simp only[F4,V8,Fu]at q2;have cM:=p.tip 900000 (by simp[Ent.has,F4,C0,Leaf.has]);obtain⟨a0,len,cap,zi,BO,qy⟩:=cM;have lh:g'.G 900000=.slice (some ⟨b,0,none⟩) 0 iR.length:=hG;have wD:g'.Gs 900000=1:=cX;rw[lh]at zi;cases zi;obtain⟨b2,oO,c2,e2,qB,iU,cJ,z1,z2,z3⟩:=qy.resolve_left Du;cases iU;rw[wD]at z1 z2;have ml:g'.wm b=0:=by rw[z2]
  refine⟨g'.wm,rv,iR,he,⟨p.os,p.tape,p.output,p.size,λk hk aC=>p.frame k hk λ⟨d,hd,hs⟩=>aC ?_,p.ext,p.zero⟩,⟨c2,e2,qB,cJ,Du,Du,λj u hj=>?_⟩,ml,px,λu hu=>?_,LsC.of_rep q2.2,LsC.of_rep q1⟩
  ·have:some b=some k:=by rw[<-bm];exact hs
   exact(Hx this).symm
  ·obtain⟨h5,_⟩:=aL j u hj;simp only[Gp,cJ]at h5;simpa using h5
  ·obtain⟨j,hj,rfl⟩:=On hu;exact(aL j _ (Fw hj)).2
end
end Go.Aev
namespace Go.Proofs
open Go.Shelf
def Tryz.lays169_ren:Gx:=⟨λ|169=>29|n=>n,λ|70=>105|9=>9|0=>0|72=>107|37=>22|127=>172|3=>3|5=>5|n=>n,λ|n=>n⟩
def Tryz.lays169:Pw Fj Tryz.lays169_ren:={
 mixed:=En
 f169:=Tryz.func29.trans (congrArg some En)
 t0:=Il
 a0:=Iq
 z0:=Io
 v0:=Ij
 t3:=Hm
 a3:=Hs
 z3:=Hp
 v3:=Hj
 t9:=Hk
 a9:=Hq
 z9:=Hn
 v9:=Hh
 t37:=Li
 a37:=Lo
 z37:=Ll
 v37:=Le
 t70:=Lk
 a70:=Lq
 z70:=Ln
 v70:=Lh
 t72:=Lj
 a72:=Lp
 z72:=Lm
 v72:=Lg
 t127:=Nh
 a127:=Nz
 z127:=Nq
 v127:=Mx}
def Tryz.Builder_Extra_169:Ke Fj Tryz.lays169_ren:={
 sizeBuilder:=En
 liesBuilder:=En
 t5:=Hl
 a5:=Hr
 z5:=Ho
 v5:=Hi
 infoByte:=En
 cellsByte:=En
 sizeByte:=En
 neB5:=Ep}
def Tryz.lays165_ren:Gx:=⟨λ|165=>107|240=>138|241=>168|276=>188|277=>203|n=>n,λ|70=>105|3=>3|0=>0|4=>4|9=>9|20=>20|72=>107|37=>22|164=>281|5=>5|n=>n,λ|n=>n⟩
def Tryz.lays165:Px Fj Tryz.lays165_ren:={
 mixed:=En
 f165:=Tryz.func107.trans (congrArg some En)
 f240:=Tryz.func138.trans (congrArg some En)
 f241:=Tryz.func168.trans (congrArg some En)
 f276:=Tryz.func188.trans (congrArg some En)
 f277:=Tryz.func203.trans (congrArg some En)
 t0:=Il
 a0:=Iq
 z0:=Io
 v0:=Ij
 t3:=Hm
 a3:=Hs
 z3:=Hp
 v3:=Hj
 t4:=Ik
 a4:=Ip
 z4:=Im
 v4:=Ii
 t9:=Hk
 a9:=Hq
 z9:=Hn
 v9:=Hh
 t20:=Ng
 a20:=Ny
 z20:=Np
 v20:=Mw
 t37:=Li
 a37:=Lo
 z37:=Ll
 v37:=Le
 t70:=Lk
 a70:=Lq
 z70:=Ln
 v70:=Lh
 t72:=Lj
 a72:=Lp
 z72:=Lm
 v72:=Lg
 t164:=Nb
 a164:=Nu
 z164:=Nl
 v164:=Ms}
def Tryz.Builder_Extra_165:Ke Fj Tryz.lays165_ren:={
 sizeBuilder:=En
 liesBuilder:=En
 t5:=Hl
 a5:=Hr
 z5:=Ho
 v5:=Hi
 infoByte:=En
 cellsByte:=En
 sizeByte:=En
 neB5:=Ep}
def Tryz.lays219_ren:Gx:=⟨λ|219=>169|217=>204|225=>205|224=>206|267=>207|266=>228|314=>229|n=>n,λ|9=>9|3=>3|4=>4|5=>5|46=>203|146=>265|51=>264|n=>n,λ|1=>0|n=>n⟩
def Tryz.lays138_ren:Gx:=⟨λ|138=>48|195=>109|218=>110|143=>111|219=>169|217=>204|225=>205|224=>206|267=>207|266=>228|314=>229|n=>n,λ|9=>9|3=>3|4=>4|5=>5|0=>0|46=>203|146=>265|51=>264|n=>n,λ|1=>0|n=>n⟩
def Tryz.lays138:Py Fj Tryz.lays138_ren:={
 mixed:=En
 f138:=Tryz.func48.trans (congrArg some En)
 f143:=Tryz.func111.trans (congrArg some En)
 f195:=Tryz.func109.trans (congrArg some En)
 f217:=Tryz.func204.trans (congrArg some En)
 f218:=Tryz.func110.trans (congrArg some En)
 f219:=Tryz.func169.trans (congrArg some En)
 f224:=Tryz.func206.trans (congrArg some En)
 f225:=Tryz.func205.trans (congrArg some En)
 f266:=Tryz.func228.trans (congrArg some En)
 f267:=Tryz.func207.trans (congrArg some En)
 f314:=Tryz.func229.trans (congrArg some En)
 t0:=Il
 a0:=Iq
 z0:=Io
 v0:=Ij
 t3:=Hm
 a3:=Hs
 z3:=Hp
 v3:=Hj
 t4:=Ik
 a4:=Ip
 z4:=Im
 v4:=Ii
 t5:=Hl
 a5:=Hr
 z5:=Ho
 v5:=Hi
 t9:=Hk
 a9:=Hq
 z9:=Hn
 v9:=Hh
 t46:=Ki
 a46:=Kk
 z46:=Kj
 v46:=Kh
 t51:=Nd
 a51:=Nw
 z51:=Nn
 v51:=Mu
 t146:=Nc
 a146:=Nv
 z146:=Nm
 v146:=Mt
 g1:=En}
open Go.RowKit Go.Lib in
def Tryz.strings_Count_one(s:ByteArray)(c:UInt8)(w:World):
 Calls Fj 48 #[.string s,.string ⟨#[c]⟩] w λe w'=>e=.returned (.int .i64 (Lib.countByte s.data.toList c))/\w'=w:=Any.strings_Count_one Tryz.lays138 s c w
def Tryz.lays206_ren:Gx:=⟨λ|206=>167|n=>n,λ|9=>9|4=>4|3=>3|n=>n,λ|n=>n⟩
def Tryz.lays101_ren:Gx:=⟨λ|101=>65|208=>140|206=>167|n=>n,λ|9=>9|4=>4|3=>3|n=>n,λ|n=>n⟩
def Tryz.lays101:Qa Fj Tryz.lays101_ren:={
 mixed:=En
 f101:=Tryz.func65.trans (congrArg some En)
 f206:=Tryz.func167.trans (congrArg some En)
 f208:=Tryz.func140.trans (congrArg some En)
 t3:=Hm
 a3:=Hs
 z3:=Hp
 v3:=Hj
 t4:=Ik
 a4:=Ip
 z4:=Im
 v4:=Ii
 t9:=Hk
 a9:=Hq
 z9:=Hn
 v9:=Hh}
open Go.RowKit Go.Lib in
def Tryz.strings_TrimPrefix(s p:ByteArray)(w:World):
 Calls Fj 65 #[.string s,.string p] w λe w'=>e=.returned (.string ⟨(Lib.trimPrefix s.data.toList p.data.toList).toArray⟩)/\w'=w:=Any.strings_TrimPrefix Tryz.lays101 s p w
def Tryz.lays197_ren:Gx:=⟨λ|197=>217|260=>236|n=>n,λ|9=>9|21=>21|3=>3|4=>4|5=>5|105=>217|119=>316|0=>0|46=>203|139=>319|138=>318|n=>n,λ|3=>1|4=>2|n=>n⟩
def Tryz.lays197:Pu Fj Tryz.lays197_ren:={
 mixed:=En
 f197:=Tryz.func217.trans (congrArg some En)
 f260:=Tryz.func236.trans (congrArg some En)
 t0:=Il
 a0:=Iq
 z0:=Io
 v0:=Ij
 t3:=Hm
 a3:=Hs
 z3:=Hp
 v3:=Hj
 t4:=Ik
 a4:=Ip
 z4:=Im
 v4:=Ii
 t5:=Hl
 a5:=Hr
 z5:=Ho
 v5:=Hi
 t9:=Hk
 a9:=Hq
 z9:=Hn
 v9:=Hh
 t21:=Nf
 a21:=Nx
 z21:=No
 v21:=Mv
 t46:=Ki
 a46:=Kk
 z46:=Kj
 v46:=Kh
 t105:=Tryz.underlying217
 a105:=Tryz.isAgg217
 z105:=Tryz.sizeOf217
 v105:=Tryz.zeroValue217
 t119:=Na
 a119:=Nt
 z119:=Nk
 t138:=Mz
 a138:=Ns
 z138:=Nj
 v138:=Mr
 t139:=My
 a139:=Nr
 z139:=Ni
 v139:=Mq
 g3:=En
 g4:=En}
def Tryz.lays105_ren:Gx:=⟨λ|105=>47|212=>105|99=>106|165=>107|166=>62|170=>108|169=>29|263=>165|264=>166|206=>167|240=>138|241=>168|276=>188|277=>203|n=>n,λ|9=>9|3=>3|4=>4|20=>20|0=>0|46=>203|109=>204|5=>5|72=>107|76=>163|51=>264|146=>265|53=>267|148=>268|70=>105|37=>22|75=>162|127=>172|164=>281|80=>112|n=>n,λ|n=>n⟩
def Tryz.lays105:Pz Fj Tryz.lays105_ren:={
 mixed:=En
 f99:=Tryz.func106.trans (congrArg some En)
 f105:=Tryz.func47.trans (congrArg some En)
 f165:=Tryz.func107.trans (congrArg some En)
 f166:=Tryz.func62.trans (congrArg some En)
 f169:=Tryz.func29.trans (congrArg some En)
 f170:=Tryz.func108.trans (congrArg some En)
 f206:=Tryz.func167.trans (congrArg some En)
 f212:=Tryz.func105.trans (congrArg some En)
 f240:=Tryz.func138.trans (congrArg some En)
 f241:=Tryz.func168.trans (congrArg some En)
 f263:=Tryz.func165.trans (congrArg some En)
 f264:=Tryz.func166.trans (congrArg some En)
 f276:=Tryz.func188.trans (congrArg some En)
 f277:=Tryz.func203.trans (congrArg some En)
 t0:=Il
 a0:=Iq
 z0:=Io
 v0:=Ij
 t3:=Hm
 a3:=Hs
 z3:=Hp
 v3:=Hj
 t4:=Ik
 a4:=Ip
 z4:=Im
 v4:=Ii
 t5:=Hl
 a5:=Hr
 z5:=Ho
 v5:=Hi
 t9:=Hk
 a9:=Hq
 z9:=Hn
 v9:=Hh
 t20:=Ng
 a20:=Ny
 z20:=Np
 v20:=Mw
 t37:=Li
 a37:=Lo
 z37:=Ll
 v37:=Le
 t46:=Ki
 a46:=Kk
 z46:=Kj
 v46:=Kh
 t51:=Nd
 a51:=Nw
 z51:=Nn
 v51:=Mu
 t53:=Tryz.underlying267
 a53:=Tryz.isAgg267
 z53:=Tryz.sizeOf267
 v53:=Tryz.zeroValue267
 t70:=Lk
 a70:=Lq
 z70:=Ln
 v70:=Lh
 t72:=Lj
 a72:=Lp
 z72:=Lm
 v72:=Lg
 t75:=Tryz.underlying162
 a75:=Tryz.isAgg162
 z75:=Tryz.sizeOf162
 v75:=Tryz.zeroValue162
 t76:=Tryz.underlying163
 a76:=Tryz.isAgg163
 z76:=Tryz.sizeOf163
 v76:=Tryz.zeroValue163
 t109:=Tryz.underlying204
 a109:=Tryz.isAgg204
 z109:=Tryz.sizeOf204
 v109:=Tryz.zeroValue204
 t127:=Nh
 a127:=Nz
 z127:=Nq
 v127:=Mx
 t146:=Nc
 a146:=Nv
 z146:=Nm
 v146:=Mt
 t148:=Tryz.underlying268
 a148:=Tryz.isAgg268
 z148:=Tryz.sizeOf268
 v148:=Tryz.zeroValue268
 t164:=Nb
 a164:=Nu
 z164:=Nl
 v164:=Ms}
def Tryz.Builder_Extra_105:Ke Fj Tryz.lays105_ren:={
 sizeBuilder:=En
 liesBuilder:=En
 t5:=Hl
 a5:=Hr
 z5:=Ho
 v5:=Hi
 infoByte:=En
 cellsByte:=En
 sizeByte:=En
 neB5:=Ep}
open Go.RowKit Go.Lib in
def Tryz.strings_Repeat(s:ByteArray)(c:Nat)(w:World)(hc:c<=9223372036854775807)(av:s.size*c<=140737488355328):
 Calls Fj 47 #[.string s,.int .i64 c] w λe w'=>e=.returned (.string ⟨(Lib.repeatL s.data.toList c).toArray⟩)/\Below w.heap.size w w':=Any.strings_Repeat Tryz.lays105 Tryz.Builder_Extra_105 s c w hc av
def Tryz.lays260_ren:Gx:=⟨λ|260=>236|n=>n,λ|9=>9|21=>21|3=>3|4=>4|5=>5|119=>316|0=>0|46=>203|139=>319|138=>318|n=>n,λ|3=>1|4=>2|n=>n⟩
def Tryz.lays260:Pt Fj Tryz.lays260_ren:={
 mixed:=En
 f260:=Tryz.func236.trans (congrArg some En)
 t0:=Il
 a0:=Iq
 z0:=Io
 v0:=Ij
 t3:=Hm
 a3:=Hs
 z3:=Hp
 v3:=Hj
 t4:=Ik
 a4:=Ip
 z4:=Im
 v4:=Ii
 t5:=Hl
 a5:=Hr
 z5:=Ho
 v5:=Hi
 t9:=Hk
 a9:=Hq
 z9:=Hn
 v9:=Hh
 t21:=Nf
 a21:=Nx
 z21:=No
 v21:=Mv
 t46:=Ki
 a46:=Kk
 z46:=Kj
 v46:=Kh
 t119:=Na
 a119:=Nt
 z119:=Nk
 t138:=Mz
 a138:=Ns
 z138:=Nj
 v138:=Mr
 t139:=My
 a139:=Nr
 z139:=Ni
 v139:=Mq
 g3:=En
 g4:=En}
open Go.RowKit Go.Lib in
def Tryz.utf8_DecodeRuneInString(s:ByteArray)(w:World)(hT:Lib.Utf8Tabs 1 2 w):
 Calls Fj 217 #[.string s] w λe w'=>e=.returned (.tuple #[.int .i32 (Oz s).1,.int .i64 (Oz s).2])/\Below w.heap.size w w':=Any.utf8_DecodeRuneInString Tryz.lays197 s w hT
end Go.Proofs
namespace Go.Proofs
open Go.Shelf Go.RowKit
variable {P:Fq}{ρ:Ren}
set_option maxHeartbeats 2000000 in
set_option maxRecDepth 100000 in
def B4o(L:Lays.n169 P ρ)(X:Ke P ρ)(w w2:World)(b cap:Nat)(q:Option Addr)(n:Nat)(s:ByteArray)(c1:w.drew.cell? ⟨b,1,none⟩=some (.slice q n cap))
  (ul:(Mj #[(ρ.t 37)] (ρ.t 127) #[.slice q n cap]).run P w.drew=.ok (.pointer q) w.drew)
  (BP:(Pe #[(ρ.t 127),(ρ.t 3)] (ρ.t 9) #[.pointer q,.int .i64 n]).run P w.drew=.ok (.string s) w2):
  Calls P (ρ.f 169) #[.pointer (some ⟨b,0,none⟩)] w λe w'=>e=.returned (.string s)/\w'=w2:=by
 have mixed:=L.mixed;have t72:=L.t72;have a72:=L.a72;have z72:=L.z72;have v72:=L.v72;have zj:=Fk L.t72;have t70:=L.t70;have a70:=L.a70;have z70:=L.z70;have v70:=L.v70;have zk:=Fk L.t70;have t37:=L.t37;have a37:=L.a37;have z37:=L.z37;have v37:=L.v37;have BQ:=Fk L.t37;have t127:=L.t127;have a127:=L.a127;have z127:=L.z127;have v127:=L.v127;have wE:=Fk L.t127;have t3:=L.t3;have a3:=L.a3;have z3:=L.z3;have v3:=L.v3;have u3:=Fk L.t3;have t9:=L.t9;have a9:=L.a9;have z9:=L.z9;have v9:=L.v9;have u9:=Fk L.t9;have t5:=X.t5;have a5:=X.a5;have z5:=X.z5;have v5:=X.v5;have u5:=Fk X.t5
 go_enter L.f169,Pj ρ
 go_wp2
 go_region_o
 all_goals(go_wp2;go_ret;exact⟨rfl,rfl⟩)
set_option maxHeartbeats 2000000 in
set_option maxRecDepth 100000 in
def D4y(L:Lays.n169 P ρ)(X:Ke P ρ)(w:World)(b:Nat)(q:Addr)(sh:Fc×Nat)(aH:b<w.heap.size)(c0:w.cell? ⟨b,1,none⟩=some (.slice (some q) 0 0))(iQ:w.shape? q.block=some sh):
  Calls P (ρ.f 169) #[.pointer (some ⟨b,0,none⟩)] w λe w'=>e=.returned (.string .empty)/\w'=(w.drew.alloc (.view q (ρ.t 5))):=by
 have BP:=Any.unsafeString_none L X;have c1:w.drew.cell? ⟨b,1,none⟩=some (.slice (some q) 0 0):=c0;have ul:(Mj #[(ρ.t 37)] (ρ.t 127) #[.slice (some q) 0 0]).run P w.drew=.ok (.pointer (some ⟨w.drew.heap.size,0,none⟩)) (w.drew.alloc (.view q (ρ.t 5))):=
  Lib.run_unsafeSliceData_zero w.drew _ _ (ρ.t 5) L.t127 q 0 sh iQ
 have c2:(w.drew.alloc (.view q (ρ.t 5))).cell? ⟨b,1,none⟩=some (.slice (some q) 0 0):=
  (Fv (a:=⟨b,1,none⟩) (Lib.alloc_old w.drew _ b aH)).trans c0
 have c3:(w.alloc (.view q (ρ.t 5))).drew.cell? ⟨b,1,none⟩=some (.slice (some q) 0 0):=c2;have mixed:=L.mixed;have t72:=L.t72;have a72:=L.a72;have z72:=L.z72;have v72:=L.v72;have zj:=Fk L.t72;have t70:=L.t70;have a70:=L.a70;have z70:=L.z70;have v70:=L.v70;have zk:=Fk L.t70;have t37:=L.t37;have a37:=L.a37;have z37:=L.z37;have v37:=L.v37;have BQ:=Fk L.t37;have t127:=L.t127;have a127:=L.a127;have z127:=L.z127;have v127:=L.v127;have wE:=Fk L.t127;have t3:=L.t3;have a3:=L.a3;have z3:=L.z3;have v3:=L.v3;have u3:=Fk L.t3;have t9:=L.t9;have a9:=L.a9;have z9:=L.z9;have v9:=L.v9;have u9:=Fk L.t9;have t5:=X.t5;have a5:=X.a5;have z5:=X.z5;have v5:=X.v5;have u5:=Fk X.t5
 go_enter L.f169,Pj ρ
 go_wp2
 go_region_o
 all_goals(go_wp2;go_ret;exact⟨rfl,rfl⟩)
set_option maxHeartbeats 2000000 in
set_option maxRecDepth 100000 in
def D1j(L:Lays.n240 P ρ)(X:Builder.X72 P ρ)(b:Nat)(w:World)(h0:w.cell? ⟨b,0,none⟩=some (.pointer none))(T:Fc)(n:Nat)(iQ:w.shape? b=some (T,n))(hn:0<n)
  (lG:Jv P P.depth T (n / P.cellsOf T) 0 (ρ.t 72) 1=true)(nF:w.frozen? ⟨b,0,none⟩=false):
  Calls P (ρ.f 240) #[.pointer (some ⟨b,0,none⟩)] w λe w'=>e=.returned (.tuple #[])/\w'=w.setCell ⟨b,0,none⟩ (.pointer (some ⟨b,0,none⟩)):=by
 obtain⟨j,hj,ms⟩:=Jw.1 X.sizeBuilder;have mixed:=L.mixed;have t72:=L.t72;have a72:=L.a72;have z72:=L.z72;have v72:=L.v72;have zj:=Fk L.t72;have t70:=L.t70;have a70:=L.a70;have z70:=L.z70;have v70:=L.v70;have zk:=Fk L.t70;have t9:=L.t9;have a9:=L.a9;have z9:=L.z9;have v9:=L.v9;have u9:=Fk L.t9;have t4:=L.t4;have a4:=L.a4;have z4:=L.z4;have v4:=L.v4;have u4:=Fk L.t4;have t164:=L.t164;have a164:=L.a164;have z164:=L.z164;have v164:=L.v164;have BR:=Fk L.t164
 go_enter L.f240,Body.n240_ntmps ρ
 go_wp2
 rw[Lib.run_to_unsafe w ⟨b,0,none⟩ L.t70 L.t164 hj (by rw[ms];decide) iQ hn];simp only[Kl];rw[Lx]
 go_wp2
 rw[run_callFunc_extern L.f276 En En En (e:=Qb) En];rw[Lib.run_noEscape];simp only[Kl];rw[Lx]
 go_wp2
 rw[Lib.run_from_unsafe w ⟨b,0,none⟩ L.t164 L.t70 hj iQ lG];simp only[Kl];rw[Lx]
 go_wp2
 go_end0
 exact⟨rfl,rfl⟩
end Go.Proofs
namespace Go.Aev
open Go.Proofs
structure BB(w:World)(g:Gh)(b:Nat)(u0 u1:Value)(l:DS):Prop where
 G:g.G 900000=.slice (some ⟨b,0,none⟩) 0 2
 Gs:g.Gs 900000=1
 c0:w.cell? ⟨b,0,none⟩=some u0
 c1:w.cell? ⟨b,1,none⟩=some u1
 s0:B17 U6 w b/\(u0=.pointer none\/u0=.pointer (some ⟨b,0,none⟩))
 r1:LRep U6 w g (.sl .u8 l (some 92000001)) u1
 t0:Tip w g.wm (g.G 900000) (g.Gs 900000)
 t1:Tip w g.wm (g.G 92000001) (g.Gs 92000001)
 dis:∀k,spare (g.G 92000001)=some k->k≠b
def nm2{l:DS}{d:Nat}:M8 (Ty:=Ty6) (den:=A4) (F4 0 [[.ptr 900000 B4,.sl .u8 l (some 92000001)]]) d↔d=900000\/d=92000001:=by
 constructor
 ·rintro⟨lf,h1,h2⟩;simp only[F4,Fu,Jp,List.not_mem_nil,or_false]at h1;rcases h1 with rfl|rfl|rfl
  ·exact .inl ((F2 _ _).1 h2).symm
  ·exact .inl ((F2 _ _).1 h2).symm
  ·exact .inr ((F2 _ _).1 h2).symm
 ·rintro(rfl|rfl)
  ·exact⟨.ptr 900000 0,by simp[F4,C0],rfl⟩
  ·exact⟨.sl .u8 l (some 92000001),by simp[F4,C0],rfl⟩
def B8J{P:Fq}{I:Inv}{f:Gn}{l:DS}{rs:DV}(cq:rs.all clL=true)
  (h:∀(w:World)(g:Gh)(b:Nat)(u0 u1:Value),(∀k,w.heap.size<=k->g.wm k=0)->BB w g b u0 u1 l->Calls P f #[.pointer (some ⟨b,0,none⟩)] w λe w'=>
   ∃rv mA,e=.returned (V4 rv)/\LsC U6 w' g.wm rs rv/\BB w' g b mA u1 l/\KM w g.wm w' g.wm (λk=>k=b\/spare (g.G 92000001)=some k)):
  X2 P U6 I f [.ptr 900000 0] [[.ptr 900000 B4,.sl .u8 l (some 92000001)]] rs [[.ptr 900000 B4,.sl .u8 l (some 92000001)]]:=by
 intro w g vs cd hI hz bD hx my cM wF dD
 match vs,cd,bD,my,hx with
 |[v0],[(b,us)],⟨yd,_⟩,my,hx=>?_
 obtain⟨⟨hG,px,ce,cX,aL⟩,_⟩:=my
 match us,px,hG,hx,aL with
 |[u0,u1],_,hG,hx,aL=>?_
 obtain⟨hp,q0,q1,_⟩:=hx;obtain⟨b1,n1,e1,e2⟩:=yd.2.2 900000 0 rfl;obtain⟨b2,n2,e3,e4⟩:=q0.2.2 900000 B4 rfl;have lh:g.G 900000=.slice (some ⟨b,0,none⟩) 0 2:=hG;rw[lh]at e1 e3;cases e1;cases e3;have hv:v0=.pointer (some ⟨b,0,none⟩):=e2.at Ep;subst hv;have wG:B17 U6 w b/\(u0=.pointer none\/u0=.pointer (some ⟨b,0,none⟩)):=by
  rcases e4 with⟨_,h⟩|⟨_,h1,h2⟩|⟨h,_⟩
  ·exact absurd h Ep
  ·exact⟨h1,h2⟩
  ·exact absurd h Ep
 have fV:spare (g.G 900000)=some b:=by rw[lh];rfl
 have bb:BB w g b u0 u1 l:=⟨lh,cX,(aL 0 u0 rfl).1,(aL 1 u1 rfl).1,wG,q1,cM 900000 (nm2.2 (.inl rfl)),cM 92000001 (nm2.2 (.inr rfl)),λk hk e=>by
  subst e;exact wF 900000 92000001 k (nm2.2 (.inl rfl)) (nm2.2 (.inr rfl)) Ep fV hk⟩
 refine(h w g b u0 u1 hz bb).mono ?_;rintro e w' ⟨rv,mA,he,mo,lH,km⟩;have a8:∀{u:Value},u=mA\/u=u1->u.oneCell'=true/\u.cells= #[u]:=λ{u} hu=>by
  rcases hu with rfl|rfl
  ·rcases lH.s0.2 with h|h<;>(rw[h];exact⟨rfl,rfl⟩)
  ·obtain⟨a,cap,h⟩:=lH.r1.1.sl_inv;rw[h];exact⟨rfl,rfl⟩
 have hM:∀k,(∃d,M8 (Ty:=Ty6) (den:=A4) (F4 0 [[.ptr 900000 B4,.sl .u8 l (some 92000001)]]) d/\spare (g.G d)=some k)↔(k=b\/spare (g.G 92000001)=some k):=λk=>by
  constructor
  ·rintro⟨d,h1,h2⟩;rcases nm2.1 h1 with rfl|rfl
   ·rw[fV]at h2;cases h2;exact .inl rfl
   ·exact .inr h2
  ·rintro(rfl|h)
   ·exact⟨900000,nm2.2 (.inl rfl),fV⟩
   ·exact⟨92000001,nm2.2 (.inr rfl),h⟩
 have gq:∀d,(Ent.tup (rs++F4 0 [[.ptr 900000 B4,.sl .u8 l (some 92000001)]]):E6).has d=true->d=900000\/d=92000001:=λd hd=>by
  simp only[Ent.has,List.any_eq_true,List.mem_append]at hd;obtain⟨lf,h1|h1,h2⟩:=hd
  ·rw[A8I ((Gu.1 cq) lf h1)]at h2;cases h2
  ·exact nm2.1 ⟨lf,h1,h2⟩
 have pe:∀{l1:DV}{us:Ea}{bs:DV}{vs:Ea},LsRep U6 w' g l1 us->LsRep U6 w' g bs vs->LsRep U6 w' g (l1++bs) (us++vs):=λ{l1 us}=>by
  induction l1 generalizing us with
  |nil=>intro bs vs h1 h2;cases us with
   |nil=>exact h2
   |cons _ _=>cases h1
  |cons x l1 ih=>intro bs vs h1 h2;cases us with
   |nil=>cases h1
   |cons u us=>exact⟨h1.1,ih h1.2 h2⟩
 refine⟨g,rv,[(b,[mA,u1])],he,mo.len,{os:=km.os,tape:=km.tape,output:=km.output,size:=km.size,frame:=λk hk hn=>km.heap k hk (λh=>hn ((hM k).2 h)),ext:=km.ext,zero:=km.zero,rep:=?_,nit:=rfl,tip:=λd hd=>?_,disj:=λd e k hd he aC h1 h2=>?_,mine:=λd k hd hk=>.inr ?_},⟨⟨lh,rfl,Nat.zero_lt_succ _,cX,λj u hj=>?_⟩,trivial⟩,rfl⟩
 ·refine⟨_,rfl,?_⟩;rw[V8];exact pe (mo.rep rfl cq) ⟨⟨.pt _ _ _,λ_ _ _ e=>(by cases e),λd o e=>by cases e;exact⟨b,2,lh,.inl ⟨rfl,Ep⟩⟩⟩,⟨(by rcases lH.s0.2 with h|h<;>(rw[h];exact .pt _ _ _)),λ_ _ _ e=>(by cases e),λd o e=>by cases e;exact⟨b,2,lh,.inr (.inl ⟨rfl,lH.s0⟩)⟩⟩,lH.r1,trivial⟩
 ·rcases gq d hd with rfl|rfl
  ·exact lH.t0
  ·exact lH.t1
 ·rcases gq d hd with rfl|rfl<;>rcases gq e he with rfl|rfl
  ·exact aC rfl
  ·rw[fV]at h1;cases h1;exact lH.dis _ h2 rfl
  ·rw[fV]at h2;cases h2;exact lH.dis _ h1 rfl
  ·exact aC rfl
 ·rcases gq d hd with rfl|rfl
  ·exact⟨900000,nm2.2 (.inl rfl),hk⟩
  ·exact⟨92000001,nm2.2 (.inr rfl),hk⟩
 ·match j,hj with
  |0,hj=>cases hj;exact⟨lH.c0,a8 (.inl rfl)⟩
  |1,hj=>cases hj;exact⟨lH.c1,a8 (.inr rfl)⟩
def D5P:(λ(k:Nat)=>Jv Fj Tryz.prog.depth 109 (k+1) 0 107 1)=(λ_=>true):=En
def C8L:Tryz.prog.cellsOf 109=2:=En
def B8O:Tryz.prog.cellsOf 5=1:=En
def D4o{n:Nat}(h:2<=n):Jv Fj Tryz.prog.depth 109 (n / Tryz.prog.cellsOf 109) 0 107 1=true:=by
 rw[C8L];obtain⟨k,hk⟩:∃k,n / 2=k+1:=⟨n / 2 - 1,Du⟩;rw[hk];exact congrFun D5P k
def BB.blk{w:World}{g:Gh}{b:Nat}{u0 u1:Value}{l:DS}(h:BB w g b u0 u1 l):∃c fz,w.heap[b]?=some (.cells c 109 fz)/\2<=c.size/\fz.2=0/\g.wm b=0:=by
 obtain⟨c,fz,h1⟩:=h.s0.1;obtain⟨a0,len,cap,hv,bh,hc⟩:=h.t0;rw[h.G]at hv;cases hv;obtain⟨b',off,c',e',jb,ha,hb,h2,h3,h4⟩:=hc.resolve_left Ep;cases ha;rw[h1]at hb;cases hb;rw[h.Gs]at h2 h3;have hm:g.wm b=0:=by rw[h3]
 exact⟨c,fz,h1,Du,Du,hm⟩
def A5d{w w':World}{m:Nat->Nat}{v:Value}{sz:Nat}(h:Tip w m v sz)(hb:∀k c e fz,spare v=some k->w.heap[k]?=some (.cells c e fz)->∃c',w'.heap[k]?=some (.cells c' e fz)/\c'.size=c.size):Tip w' m v sz:=by
 obtain⟨a0,len,cap,rfl,bh,hc⟩:=h;by_cases h0:cap=0
 ·exact⟨_,_,_,rfl,bh,.inl h0⟩
 obtain⟨b,off,c,e,fz,ha,h1,h2,h3,h4⟩:=hc.resolve_left h0;subst ha;obtain⟨c',h5,h6⟩:=hb b c e fz (by simp[spare,h0]) h1;exact⟨_,_,_,rfl,bh,.inr ⟨b,off,c',e,fz,rfl,h5,by rw[h6];exact h2,h3,h4⟩⟩
def C9l{w:World}{g:Gh}{b:Nat}{u0 u1:Value}{l:DS}(hz:∀k,w.heap.size<=k->g.wm k=0)(h:BB w g b u0 u1 l):Calls Fj 138 #[.pointer (some ⟨b,0,none⟩)] w λe w'=>
   ∃rv mA,e=.returned (V4 rv)/\LsC U6 w' g.wm [] rv/\BB w' g b mA u1 l/\KM w g.wm w' g.wm (λk=>k=b\/spare (g.G 92000001)=some k):=by
 obtain⟨c,fz,hb,eT,nF,hm⟩:=h.blk;rcases h.s0.2 with rfl|rfl
 ·refine(D1j (ρ:=Tryz.lays165_ren) {Tryz.lays165 with} Tryz.Builder_Extra_165.toX72 b w h.c0 109 c.size (by simp[Lc,hb]) Du (D4o eT) (by
   simp only[Mp,hb];simp;omega)).mono ?_
  rintro e w' ⟨rfl,rfl⟩;have bW:=A9r w b 0 (.pointer (some ⟨b,0,none⟩)) c 109 fz hb;have ck:∀k,k≠b->(w.setCell ⟨b,0,none⟩ (.pointer (some ⟨b,0,none⟩))).heap[k]?=w.heap[k]? :=λk hk=>A8U w b 0 k _ hk;generalize hw:w.setCell ⟨b,0,none⟩ (.pointer (some ⟨b,0,none⟩))=w' at*;have az:w'.heap.size=w.heap.size:=by rw[<-hw];simp[Ld]
  have hx:Ext w g.wm w' g.wm:=⟨A6Y hb bW ck,λk o ho=>Fv (a:=⟨k,o,none⟩) (ck k (λe=>by rw[e,hm]at ho;omega)),λ_=>Ff _⟩;have fL:=h.c1;refine⟨[],_,rfl,trivial,{G:=h.G,Gs:=h.Gs,c0:=?_,c1:=?_,s0:=⟨⟨_,_,bW⟩,.inr rfl⟩,r1:=h.r1.same u6_ok hx rfl rfl,t0:=?_,t1:=?_,dis:=h.dis},
   ⟨by rw[<-hw];rfl,by rw[<-hw];rfl,by rw[<-hw];rfl,by rw[az];exact Ff _,λk hk hn=>⟨ck k (λe=>hn (.inl e)),rfl⟩,hx,λk hk=>hz k (by rw[az]at hk;exact hk)⟩⟩
  ·simp[Gp,bW,show 0<c.size from Du]
  ·simp only[Gp,hb]at fL;simp[Gp,bW];simpa using fL
  ·refine A5d h.t0 λk c1 e1 gW hk h1=>?_;rw[h.G]at hk;cases hk;rw[hb]at h1;cases h1;exact⟨_,bW,Eo⟩
  ·refine A5d h.t1 λk c1 e1 gW hk h1=>?_;exact⟨c1,by rw[ck k (h.dis k hk)];exact h1,rfl⟩
 ·refine(Any.Builder_copyCheck_used (ρ:=Tryz.lays165_ren) {Tryz.lays165 with} Tryz.Builder_Extra_165.toX72 b w h.c0).mono ?_;rintro e w' ⟨rfl,rfl⟩;exact⟨[],_,rfl,trivial,h,⟨rfl,rfl,rfl,Ff _,λ_ _ _=>⟨rfl,rfl⟩,Ext.refl _ _,hz⟩⟩
def C7b:∀args w,(callFunc 138 args).run Fj w=.ok (.enter 138 args) w:=enters_of Tryz.func138 En rfl
def D5J:∀args w,(callFunc 29 args).run Fj w=.ok (.enter 29 args) w:=enters_of Tryz.func29 En rfl
def C4Y(l:DS)(rs:DV)(n:Nat):csR [[.ptr 900000 B4,.sl .u8 (some n)]] (some (rs,[[.ptr 900000 B4,.sl .u8 l (some n)]]))=[[.ptr 900000 B4,.sl .u8 l (some n)]]:=by
 simp only[csR,A8h,A76,X6,gC,Kb];simp[B0z]
def D5L{I:Inv}:D7 Fj U6 I 138 (sGB B0v):=by
 refine⟨C7b,λls cs rs ay h=>?_⟩;unfold sGB B0v at h;split at h
 ·rename_i d0 o0 p0 q0 l n;obtain⟨h1,h2⟩:=T3 h;obtain⟨h3,h4⟩:=A2Z h2;simp only[Fs,A0W]at h1;obtain⟨⟨⟨rfl,rfl⟩,rfl,rfl⟩,rfl⟩:=h1;rw[show A47 l=some ([],[[.ptr 900000 B4,.sl .u8 l (some 92000001)]])from rfl,C4Y]at h4;cases h4;exact B8J (rs:=[]) rfl λw g b u0 u1 hz bb=>C9l hz bb
 ·cases h
def B8c{P:Fq}{w:World}:∀(l:DS)(a:Addr)(be:ByteArray),(∀(j:Nat)(x:Int),l[j]?=some x->w.cell? (a.add j)=some (.int .u8 x))->
  (Lb a be l.length).run P w=.ok ⟨be.data++(toB l).toArray⟩ w
 |[],a,be,_=>by simp[Lb,toB]
 |x::l,a,be,h=>by
  have h0:w.cell? a=some (.int .u8 x):=by
   have:=h 0 x rfl;simpa [Addr.add]using this
  have ih:=B8c (P:=P) l (a.add 1) (be.push (x.toNat).toUInt8) (λj y hy=>by
   have:=h (j+1) y (by simpa using hy);have e:(a.add 1).add j=a.add (j+1):=by
    unfold Addr.add;by_cases hj:j=0
    ·subst hj;simp
    ·simp[hj];omega
   rw[e];exact this)
  simp only[Fm,Lb,Sem.run_bind,run_load,h0,Kl];rw[ih]
  congr 1
  apply ByteArray.ext;simp[ByteArray.push,toB]
def D7s{count off n:Nat}(h:off+n<=count):Jv Fj Tryz.prog.depth 5 count off 5 n=true:=by
 have hd:Tryz.prog.depth=(2*(Tryz.prog.types.size+Made.depth)+1)+1:=rfl;rw[hd];simp only[Jv,Bool.or_eq_true]
 left
 rw[hd];simp[rowAt,B8O,h,sameLayout,Nat.mod_one]
def D4Z{w:World}{b off:Nat}{l:DS}{c:Array Value}{fz:Nat×Nat}(hp:Tryz.prog.underlying 172=some (.pointer 5))(hb:w.heap[b]?=some (.cells c 5 fz))(hn:off+l.length<=c.size)(hl:l≠[])(uw:l.length<=140737488355328)
  (hc:∀(j:Nat)(x:Int),l[j]?=some x->w.cell? ⟨b,off+j,none⟩=some (.int .u8 x)):
  (Pe #[172,3] 9 #[.pointer (some ⟨b,off,none⟩),.int .i64 (l.length:Int)]).run Fj w=.ok (.string ⟨(toB l).toArray⟩) (w.freeze ⟨b,off,none⟩ l.length):=by
 have h0:l.length≠0:=by simpa using hl
 have wH:=B8c (P:=Fj) (w:=w) l ⟨b,off,none⟩ .empty (λj x hj=>by rw[Hf];exact hc j x hj);have lG:=D7s (count:=c.size) (off:=off) (n:=l.length) hn;have oC:¬(9223372036854775807:Int)<(l.length:Int):=Du
 have wI:IntKind.i64.max=9223372036854775807:=rfl;have wJ:¬(l.length:Int)<0:=Du
 have iQ:w.shape? b=some (5,c.size):=by simp[Lc,hb]
 show(Bind.bind (asInt (.int .i64 (l.length:Int))) _).run Fj w=_;simp[asInt,asIntOf,wI,oC,wJ,h0,variablesAt,iQ,elemOf,Fk hp,B8O,lG,wH]
def D6i{w:World}{b off n:Nat}{c:Array Value}{e:Fc}{fz:Nat×Nat}(hn:n≠0)(hb:w.heap[b]?=some (.cells c e fz)):
  (w.freeze ⟨b,off,none⟩ n).heap[b]?=some (.cells c e (if fz.1==fz.2 then(off,off+n)else(min fz.1 off,max fz.2 (off+n))))/\(∀k,k≠b->(w.freeze ⟨b,off,none⟩ n).heap[k]?=w.heap[k]?)/\(w.freeze ⟨b,off,none⟩ n).heap.size=w.heap.size/\
  (w.freeze ⟨b,off,none⟩ n).os=w.os/\(w.freeze ⟨b,off,none⟩ n).tape=w.tape/\(w.freeze ⟨b,off,none⟩ n).output=w.output:=by
 unfold World.freeze;rw[Ek hn];refine⟨?_,λk hk=>?_,Eo,rfl,rfl,rfl⟩
 ·simp only[Po,hb,if_true,Oa]
 ·simp only[Po];rw[Ek (λe=>hk e.symm)]
def D2o{w:World}{g:Gh}{b:Nat}{u0 u1:Value}{l:DS}(uw:l.length<=140737488355328)(hz:∀k,w.heap.size<=k->g.wm k=0)(h:BB w g b u0 u1 l):Calls Fj 29 #[.pointer (some ⟨b,0,none⟩)] w λe w'=>
   ∃rv mA,e=.returned (V4 rv)/\LsC U6 w' g.wm [.str (toB l)] rv/\BB w' g b mA u1 l/\KM w g.wm w' g.wm (λk=>k=b\/spare (g.G 92000001)=some k):=by
 obtain⟨c,fz,hb,eT,nF,hm⟩:=h.blk;obtain⟨wK,BS,dX⟩:=h.r1.2.1 .u8 l 92000001 rfl;obtain⟨a0,len,cap,hv,bh,hc⟩:=h.t1;rw[<-wK]at hv;obtain⟨a1,sV,ff⟩:=h.r1.1.sl_inv;rw[hv]at ff;cases ff;have fL:w.cell? ⟨b,1,none⟩=some (.slice a0 l.length cap):=by rw[<-hv];exact h.c1
 have stay:∀{w':World},w'.heap=w.heap->w'.os=w.os->w'.tape=w.tape->w'.output=w.output->BB w' g b u0 u1 l/\KM w g.wm w' g.wm (λk=>k=b\/spare (g.G 92000001)=some k):=λ{w'} hh h1 h2 h3=>by
  have hx:Ext w g.wm w' g.wm:=⟨A6Z hh,λk o _=>Fv (a:=⟨k,o,none⟩) (by rw[hh]),λ_=>Ff _⟩;refine⟨{G:=h.G,Gs:=h.Gs,c0:=?_,c1:=?_,s0:=⟨⟨c,fz,by rw[hh];exact hb⟩,h.s0.2⟩,r1:=h.r1.same u6_ok hx rfl rfl,t0:=A5d h.t0 λk c1 e1 gW hk h1=>⟨c1,by rw[hh];exact h1,rfl⟩,t1:=A5d h.t1 λk c1 e1 gW hk h1=>⟨c1,by rw[hh];exact h1,rfl⟩,dis:=h.dis},⟨h1,h2,h3,by rw[hh];exact Ff _,λk _ _=>⟨by rw[hh],rfl⟩,hx,λk hk=>hz k (by rw[hh]at hk;exact hk)⟩⟩
  ·rw[<-h.c0];exact Fv (a:=⟨b,0,none⟩) (by rw[hh])
  ·rw[<-h.c1];exact Fv (a:=⟨b,1,none⟩) (by rw[hh])
 have BT:∀{l:DS},l=[]->LsC U6 w g.wm [.str (toB l)] [.string .empty]:=λ{l} hl=>by subst hl;exact⟨.str [],trivial⟩
 by_cases h0:cap=0
 ·
  have cV:l=[]:=Ha Du;cases a0 with
  |none=>
   have hr:=B4o (ρ:=Tryz.lays169_ren) Tryz.lays169 Tryz.Builder_Extra_169 w w.drew b cap none l.length .empty fL (Lib.run_unsafeSliceData_nil _ _ _ _ _) (by subst cV;exact Oy w.drew _ _ _ none);refine hr.mono ?_;rintro e w' ⟨rfl,rfl⟩;obtain⟨q1,q2⟩:=stay (w':=w.drew) rfl rfl rfl rfl;exact⟨[.string .empty],u0,rfl,by subst cV;exact⟨.str [],trivial⟩,q1,q2⟩
  |some q=>
   obtain⟨c2,qB,hq⟩:=dX 5 q l.length cap rfl hv;have wL:w.cell? ⟨b,1,none⟩=some (.slice (some q) 0 0):=by rw[fL,cV,h0];rfl
   have aH:=(Kz.1 hb).1;refine(D4y (ρ:=Tryz.lays169_ren) Tryz.lays169 Tryz.Builder_Extra_169 w b q (5,c2.size) aH wL (by simp[Lc,hq])).mono ?_;rintro e w' ⟨rfl,rfl⟩;have hw:(w.drew.alloc (.view q 5)).heap=w.heap.push (.view q 5):=rfl;have dT:∀k,k<w.heap.size->(w.drew.alloc (.view q 5)).heap[k]?=w.heap[k]? :=λk hk=>by rw[hw,Mn,Ek Du]
   have hx:Ext w g.wm (w.drew.alloc (.view q 5)) g.wm:=⟨A1D hw,λk o ho=>Fv (a:=⟨k,o,none⟩) (dT k (by
    rcases Kn k w.heap.size with h2|h2
    ·exact h2
    ·rw[hz k h2]at ho;omega)),λ_=>Ff _⟩
   have az:(w.drew.alloc (.view q 5)).heap.size=w.heap.size+1:=by rw[hw];simp
   show ∃rv mA,_/\LsC U6 (w.drew.alloc (.view q 5)) g.wm _ rv/\BB (w.drew.alloc (.view q 5)) g b mA u1 l/\KM w g.wm (w.drew.alloc (.view q 5)) g.wm _;have iw:∀(k:Nat)(c1:Array Value)(e1:Fc)(gW:Nat×Nat),w.heap[k]?=some (.cells c1 e1 gW)->(w.drew.alloc (.view q 5)).heap[k]?=some (.cells c1 e1 gW):=λk c1 e1 gW h1=>by
    rw[dT k (Kz.1 h1).1];exact h1
   refine⟨[.string .empty],u0,rfl,by subst cV;exact⟨.str [],trivial⟩,{G:=h.G,Gs:=h.Gs,c0:=?_,c1:=?_,s0:=⟨⟨c,fz,iw _ _ _ _ hb⟩,h.s0.2⟩,r1:=h.r1.same u6_ok hx rfl rfl,t0:=A5d h.t0 λk c1 e1 gW hk h1=>⟨c1,iw _ _ _ _ h1,rfl⟩,t1:=A5d h.t1 λk c1 e1 gW hk h1=>⟨c1,iw _ _ _ _ h1,rfl⟩,dis:=h.dis},
    ⟨rfl,rfl,rfl,by rw[az];omega,λk hk _=>⟨dT k hk,rfl⟩,hx,λk hk=>hz k (by rw[az]at hk;omega)⟩⟩
   ·rw[<-h.c0];exact Fv (a:=⟨b,0,none⟩) (dT b aH)
   ·rw[<-h.c1];exact Fv (a:=⟨b,1,none⟩) (dT b aH)
 ·obtain⟨b2,off,c2,e2,qB,ha,cJ,k2,k3,k4⟩:=hc.resolve_left h0;subst ha;obtain⟨c3,ue,hq⟩:=dX 5 _ l.length cap rfl hv;have zl:w.heap[b2]?=some (.cells c3 5 ue):=hq;rw[cJ]at zl;cases zl;have cX:g.Gs 92000001=1:=BS.symm;rw[cX]at k2 k3;have fV:spare (g.G 92000001)=some b2:=by rw[<-wK,hv];simp[spare,h0]
  have aC:b2≠b:=h.dis b2 fV;have ul:(Mj #[22] 172 #[.slice (some ⟨b2,off,none⟩) l.length cap]).run Fj w.drew=.ok (.pointer (some ⟨b2,off,none⟩)) w.drew:=Lib.run_unsafeSliceData_row _ _ _ _ _ _ h0;by_cases cV:l=[]
  ·refine(B4o (ρ:=Tryz.lays169_ren) Tryz.lays169 Tryz.Builder_Extra_169 w w.drew b cap (some ⟨b2,off,none⟩) l.length .empty fL ul (by rw[cV];exact Oy w.drew _ _ _ _)).mono ?_;rintro e w' ⟨rfl,rfl⟩;obtain⟨q1,q2⟩:=stay (w':=w.drew) rfl rfl rfl rfl;exact⟨[.string .empty],u0,rfl,by rw[cV];exact⟨.str [],trivial⟩,q1,q2⟩
  have uc:l.length≠0:=by simpa using cV
  have aQ:∀(j:Nat)(x:Int),l[j]?=some x->w.drew.cell? ⟨b2,off+j,none⟩=some (.int .u8 x):=λj x hj=>by
   rcases h.r1.1.sl_cells u6_ok with⟨bv,_⟩|⟨b3,BU,BV,cs,pZ,_,bj,cE,mo⟩
   ·exact absurd bv cV
   ·rw[hv]at pZ;cases pZ;have dv:(flat U6 .u8 l)[j]?=some (.int .u8 x):=by
     have:flat U6 .u8 l=l.map λn=>.int .u8 n:=A9p l;rw[this,Oo,hj];rfl
    have h5:=cE j _ dv;have h6:=mo j _ dv;have h7:cs j=.int .u8 x:=by
     generalize cs j=z at h6;cases h6;rfl
    rw[show w.drew.cell? ⟨b2,off+j,none⟩=w.cell? ⟨b2,off+j,none⟩from rfl,h5,h7]
  refine(B4o (ρ:=Tryz.lays169_ren) Tryz.lays169 Tryz.Builder_Extra_169 w (w.drew.freeze ⟨b2,off,none⟩ l.length) b cap (some ⟨b2,off,none⟩) l.length ⟨(toB l).toArray⟩ fL ul (D4Z En cJ Du cV uw aQ)).mono ?_;rintro e w' ⟨rfl,rfl⟩;obtain⟨f1,f2,f3,f4,f5,f6⟩:=D6i (w:=w.drew) (off:=off) uc cJ;generalize hw:w.drew.freeze ⟨b2,off,none⟩ l.length=w' at*;have cP:∀(k:Nat)(c1:Array Value)(e1:Fc)(gW:Nat×Nat),w.heap[k]?=some (.cells c1 e1 gW)->∃jb,w'.heap[k]?=some (.cells c1 e1 jb):=λk c1 e1 gW h1=>by
   by_cases hk:k=b2
   ·subst hk;rw[cJ]at h1;cases h1;exact⟨_,f1⟩
   ·exact⟨gW,by rw[f2 k hk];exact h1⟩
  have aL:∀k o,w'.cell? ⟨k,o,none⟩=w.cell? ⟨k,o,none⟩:=λk o=>by
   by_cases hk:k=b2
   ·subst hk;simp[Gp,f1,cJ]
   ·exact Fv (a:=⟨k,o,none⟩) (f2 k hk)
  have hx:Ext w g.wm w' g.wm:=⟨λk c1 e1 gW h1=>by obtain⟨jb,h2⟩:=cP k c1 e1 gW h1;exact⟨c1,jb,h2⟩,λk o _=>aL k o,λ_=>Ff _⟩;have zn:w'.heap[b]?=w.heap[b]? :=f2 b (Ne.symm aC);refine⟨[.string ⟨(toB l).toArray⟩],u0,rfl,⟨.str _,trivial⟩,{G:=h.G,Gs:=h.Gs,c0:=by rw[aL];exact h.c0,c1:=by rw[aL];exact h.c1,s0:=⟨⟨c,fz,by rw[zn];exact hb⟩,h.s0.2⟩,r1:=h.r1.same u6_ok hx rfl rfl,t0:=A5d h.t0 λk c1 e1 gW hk h1=>?_,t1:=?_,dis:=h.dis},
   ⟨f4,f5,f6,by rw[f3];exact Ff _,λk _ hn=>⟨f2 k (λe=>hn (.inr (by rw[e];exact fV))),rfl⟩,hx,λk hk=>hz k (by rw[f3]at hk;exact hk)⟩⟩
  ·rw[h.G]at hk;cases hk;exact⟨c1,by rw[zn];exact h1,rfl⟩
  ·rw[<-wK,hv,cX];refine⟨_,_,_,rfl,bh,.inr ⟨b2,off,c2,5,_,rfl,f1,k2,k3,?_⟩⟩;rw[Nat.mul_one]at k3;split
   ·rename_i fy;simp only;omega
   ·rename_i fy;have BW:qB.1≠qB.2:=by simpa using fy
    simp only;omega
def B3N{I:Inv}:D7 Fj U6 I 29 (sGB S29):=by
 refine⟨D5J,λls cs rs ay h=>?_⟩;unfold sGB S29 at h;split at h
 ·rename_i d0 o0 p0 q0 l n;obtain⟨h1,h2⟩:=T3 h;obtain⟨h3,h4⟩:=A2Z h2;simp only[Fs,A0W]at h1;obtain⟨⟨⟨rfl,rfl⟩,rfl,rfl⟩,rfl⟩:=h1;unfold F29 at h3 h4;cases hd:decide (l.length<=140737488355328)with
  |false=>rw[hd]at h3;cases h3
  |true=>
   rw[hd]at h4;simp only[Eg]at h4;rw[C4Y]at h4;cases h4;exact B8J (rs:=[.str (toB l)]) rfl λw g b u0 u1 hz bb=>D2o (Em hd) hz bb
 ·cases h
end Go.Aev
namespace Go.Aev.Bv
open Go.Proofs
def noC:Gn->Ed:=λ_=>none
def noT:T6:=λ_ _=>none
def lkE:List (Nat×DX)->Nat->DX
 |[],_=>[]
 |(g,l)::r,n=>bif Ko n g then l else lkE r n
def mk6(T:T6)(cons:Gn->Ed)(drop:Nat->DX)(nt:Nat):Env Ty6 A4:={U:=U6,tb:=tb6,T:=T,cons:=cons,drop:=drop,nt:=nt,zr:=zr6}
def S41:DV->Option (Bool×E6)
 |[.int .i32 a0]=>some (true,.one (.bool (K6 a0)))
 |_=>none
def S28:DV->Option (Bool×E6)
 |[.sl .i32 a0 none]=>some (D0 a0,.one (.int .i64 (G3 a0)))
 |_=>none
def S27:DV->Option (Bool×E6)
 |[.sl .i32 a0 none]=>some (D0 a0,.one (.bool (B8 a0)))
 |_=>none
def S56:DV->Option (Bool×E6)
 |[.int .i32 a0]=>some (true,.one (.bool (K6 a0)))
 |_=>none
def S42:DV->Option (Bool×E6)
 |[.sl .i32 a0 none]=>some (D0 a0,.one (.int .i64 (G3 a0)))
 |_=>none
def S30:DV->Option (Bool×E6)
 |[.sl .i32 a0 none]=>some (D0 a0,.one (.bool (B8 a0)))
 |_=>none
def S29:DV->Option (Bool×E6)
 |[.sl .rs a0 none]=>some (M3 a0,.one (.int .i64 (X1 a0)))
 |_=>none
def S16:DV->Option (Bool×E6)
 |[.sl .rs a0 none]=>some (M3 a0,.one (.sl .rs (K0 a0) none))
 |_=>none
def S60:DV->Option (Bool×E6)
 |[.int .i32 a0]=>some (true,.one (.int .i64 (O4 a0)))
 |_=>none
def S49:DV->Option (Bool×E6)
 |[.int .i32 a0,.int .i32 a1]=>some (true,.tup [.int .i32 ((O3 a0 a1).1),.bool ((O3 a0 a1).2)])
 |_=>none
def S32:DV->Option (Bool×E6)
 |[.int .i32 a0]=>some (true,.one (.bool (M6 a0)))
 |_=>none
def S53:DV->Option (Bool×E6)
 |[.int .i32 a0]=>some (true,.one (.bool (M6 a0)))
 |_=>none
def S44:DV->Option (Bool×E6)
 |[.int .i32 a0]=>some (true,.one (.bool (D2 a0)))
 |_=>none
def S61:DV->Option (Bool×E6)
 |[.int .i32 a0]=>some (true,.one (.bool (D2 a0)))
 |_=>none
def S62:DV->Option (Bool×E6)
 |[.int .i32 a0,.str a1]=>some (A3 (Ey a1) 1,.one (.bool (inF a0 a1)))
 |_=>none
def S45:DV->Option (Bool×E6)
 |[.sl .u8 a0 (some 0),.int .i32 a1]=>some (A3 (Ey a0+4) 1&&D2 a1,.one (.sl .u8 (L2 a0 (u8F a1)) (some 0)))
 |_=>none
def S59:DV->Option (Bool×E6)
 |[.sl .u8 a0 (some 0),.int .i32 a1]=>some (A3 (Ey a0+4) 1&&D2 a1&&decide (128<=a1),.one (.sl .u8 (L2 a0 (u8F a1)) (some 0)))
 |_=>none
def S33:DV->Option (Bool×E6)
 |[.sl .i32 a0 none]=>some (D0 a0,.tup [.str ((J9 a0).1),.bool ((J9 a0).2)])
 |_=>none
def S35:DV->Option (Bool×E6)
 |[.sl .i32 a0 none]=>some (D0 a0,.tup [.str ((J9 a0).1),.bool ((J9 a0).2)])
 |_=>none
def S50:DV->Option (Bool×E6)
 |[.int .i32 a0]=>some (true,.one (.sl .u8 (P3 a0) (some 1)))
 |_=>none
def S46:DV->Option (Bool×E6)
 |[.int .i32 a0]=>some (true,.one (.bool (A0u a0)))
 |_=>none
def S47:DV->Option (Bool×E6)
 |[.int .i32 a0]=>some (true,.one (.int .i32 (P5 a0)))
 |_=>none
def S48:DV->Option (Bool×E6)
 |[.sl .i32 a0 none,.int .i64 a1]=>some (D0 a0&&decide (0<=a1)&&decide (a1<=(Ey a0:Int)+12),.one (.int .i32 (K1 (Fg (Ez a1) a0))))
 |_=>none
def S34:DV->Option (Bool×E6)
 |[.sl .i32 a0 none,.int .i64 a1]=>some (D0 a0&&decide (0<=a1)&&decide (a1<(Ey a0:Int)),.tup [.int .i32 ((J6 (Fg (Ez a1) a0)).1),.int .i64 ((J6 (Fg (Ez a1) a0)).2)])
 |_=>none
def S21:DV->Option (Bool×E6)
 |[.sl .i32 a0 none]=>some (D0 a0,.tup [.str ((Z3 a0).1),.int .i64 ((Z3 a0).2)])
 |_=>none
def S23:DV->Option (Bool×E6)
 |[.sl .i32 a0 none]=>some (smL a0,.tup [.str ((Z0 a0).1),.int .i64 ((Z0 a0).2)])
 |_=>none
def S37:DV->Option (Bool×E6)
 |[.sl .i32 a0 none]=>some (smL a0,.one (.sl .rs (B5 a0) (some 1)))
 |_=>none
def S38:DV->Option (Bool×E6)
 |[.sl .i32 a0 none]=>some (smL a0,.one (.bool (A8e 0 a0)))
 |_=>none
def S39:DV->Option (Bool×E6)
 |[.sl .i32 a0 none]=>some (smL a0,.one (.sl .rs (B5 a0) (some 1)))
 |_=>none
def S40:DV->Option (Bool×E6)
 |[.sl .i32 a0 none]=>some (smL a0,.one (.sl .i32 (E2 a0) (some 1)))
 |_=>none
def S51:DV->Option (Bool×E6)
 |[.sl .i32 a0 none]=>some (D0 a0,.one (.bool (K3 a0)))
 |_=>none
def S52:DV->Option (Bool×E6)
 |[.sl .i32 a0 none,.int .i64 a1]=>some (D0 a0&&decide (0<=a1)&&decide (a1<(Ey a0:Int)),.one (.bool (O2 (Fg (Ez a1) a0))))
 |_=>none
def S54:DV->Option (Bool×E6)
 |[.sl .i32 a0 none,.int .i64 a1]=>some (D0 a0&&decide (0<=a1)&&decide (a1<(Ey a0:Int)),.one (.bool (M4 (Fg (Ez a1) a0))))
 |_=>none
def S55:DV->Option (Bool×E6)
 |[.sl .i32 a0 none]=>some (smL a0,.one (.sl .i64 (T4 a0) (some 1)))
 |_=>none
def B6L:DV->Option (Bool×E6)
 |[.str a0]=>some (true,.tup [.int .i32 ((dgF a0).1),.int .i64 ((dgF a0).2)])
 |_=>none
def A9J:DV->Option (Bool×E6)
 |[.str a0]=>some (smS a0,.tup [.sl .i32 ((C3 a0).1) (some 1),.int .i64 (((C3 a0).2:Nat):Int)])
 |_=>none
def B6C:DV->Option (Bool×E6)
 |[.sl .u8 a0 none,.sl .u8 a1 none]=>some (A3 (Ey a0) 1&&A3 (Ey a1) 1,.one (.bool (eqI a0 a1)))
 |_=>none
def B5x:DV->Option (Bool×E6)
 |[.sl .u8 a0 none]=>some (isB a0&&decide (1<=Ey a0)&&decide (Ey a0<=4),.one (.int .i32 (I9 a0)))
 |_=>none
def B4J:DV->Option (Bool×E6)
 |[.sl .u8 a0 none]=>some (isB a0&&decide (1<=Ey a0)&&A3 (Ey a0) 1,.tup [.int .i32 ((R1 a0).1),.int .i64 ((R1 a0).2)])
 |_=>none
def S223:DV->Option (Bool×E6)
 |[.sl .u8 a0 none]=>some (isB a0&&smL a0,.tup [.sl .i32 ((C3 (toB a0)).1) (some 1),.int .i64 (((C3 (toB a0)).2:Nat):Int)])
 |_=>none
def B6l:DV->Option (Bool×E6)
 |[.int .i32 a0]=>some (true,.tup [.int .i32 ((E0 a0).1),.int .i32 ((E0 a0).2.1),.bool ((E0 a0).2.2)])
 |_=>none
def B4u:DV->Option (Bool×E6)
 |[.int .i32 a0]=>some (true,.tup [.int .i32 ((E0 a0).1),.int .i32 ((E0 a0).2.1),.bool ((E0 a0).2.2)])
 |_=>none
def B3i:DV->Option (Bool×E6)
 |[.sl .i32 a0 (some 0),.int .i32 a1]=>some (A3 (Ey a0+6) 4&&decide (0<=a1)&&decide (a1<=65535),.one (.sl .i32 (L2 a0 (H7 a1)) (some 0)))
 |_=>none
def B5h:DV->Option (Bool×E6)
 |[.sl .i32 a0 (some 0),.int .i32 a1]=>some (A3 (Ey a0+12) 4&&D2 a1,.one (.sl .i32 (L2 a0 (wrF a1)) (some 0)))
 |_=>none
def B4t:DV->Option (Bool×E6)
 |[.int .i32 a0]=>some (decide (0<=a0)&&decide (a0<=65535),.one (.str (B7 (H7 a0))))
 |_=>none
def B2Y:DV->Option (Bool×E6)
 |[.int .i32 a0]=>some (D2 a0,.one (.str (B7 (wrF a0))))
 |_=>none
def S207:DV->Option (Bool×E6)
 |[.str a0]=>some (smS a0,.tup [.str ((qtF a0).1),.int .i64 ((qtF a0).2)])
 |_=>none
def S208:DV->Option (Bool×E6)
 |[.str a0]=>some (smS a0,.tup [.str ((qtF a0).1),.int .i64 ((qtF a0).2)])
 |_=>none
def B6a:DV->Option (Bool×E6)
 |[.sl .rs a0 none]=>some (M3 a0&&decide (1<=Ey a0),.one (.bool (U7 a0)))
 |_=>none
def B3J:DV->Option (Bool×E6)
 |[.sl .rs a0 none]=>some (M3 a0&&decide (1<=Ey a0),.one (.bool (U7 a0)))
 |_=>none
def B33:DV->Option (Bool×E6)
 |[.sl .i32 a0 none]=>some (smL a0,.one (.sl .i32 (maskF a0) (some 1)))
 |_=>none
def S209:DV->Option (Bool×E6)
 |[.str a0]=>some (smS a0,.tup [.str ((btF a0).1),.bool ((btF a0).2)])
 |_=>none
def S210:DV->Option (Bool×E6)
 |[.str a0]=>some (smS a0,.tup [.str ((btF a0).1),.bool ((btF a0).2)])
 |_=>none
def E60:Env Ty6 A4:=mk6 noT noC (lkE [(0,[2]),(4,[6]),(5,[8,9,23]),(6,[7,10,11,12,13,14,15,16,17,18,19,20,21,22]),(7,[0,3,4,5,23,24]),(8,[0,3,4,5,7])]) 25
def B2u(x0:Int)(x3:DT)(x4:DT)(x5:Int):S6:=⟨[(0,.one (.int .i32 x0)),(3,.one (.str x3)),(4,.one (.str x4)),(5,.one (.int .i64 x5))],[]⟩
def B4P(n:Nat)(a0:Int):A5 E60 n Ir [.int .i32 a0]=
  C8 (lbC E60 (A2 Ir [1,1,1,0,1,0,0]) 10004 n) n (B2u a0 [48,49,50,51,52,53,54,55,56,57,97,98,99,100,101,102] [48,49,50,51,52,53,54,55,56,57,65,66,67,68,69,70] 0) (A7 0 (C1 (B2 E60 n (A2 Ir [1,1,1,1])) (B3 E60 Tryz.f245.results.toList))):=by
 kernel_rfl
def C6p(n:Nat)(x0:Int)(x3:DT)(x4:DT)(x5:Int)(K:Ex->S6->DU):lbC E60 (A2 Ir [1,1,1,0,1,0,0]) 10004 n (B2u x0 x3 x4 x5) K=
  bif decide (x5<16)then(match idx x3 x5 with|none=>none|some y1=>(bif((Ew .i32 (Gz y1:Int))==x0)==false then(match idx x4 x5 with|none=>none|some y2=>(bif(Ew .i32 (Gz y2:Int))==x0 then(K .ret ⟨[(2,.one (.int .i64 x5))],[]⟩)else(K .normal (B2u x0 x3 x4 (Ew .i64 (x5+1))))))else(K .ret ⟨[(2,.one (.int .i64 x5))],[]⟩)))else(K (.exit 0) ⟨[(0,.one (.int .i32 x0)),(3,.one (.str x3)),(4,.one (.str x4)),(5,.one (.int .i64 x5)),(7,.one (.bool (decide (x5<16))))],[]⟩):=by
 kernel_rfl
def D75(n:Nat)(x0:Int)(x3:DT)(x4:DT)(x5:Int)(x7:Bool):(A7 0 (C1 (B2 E60 n (A2 Ir [1,1,1,1])) (B3 E60 Tryz.f245.results.toList))) (.exit 0) ⟨[(0,.one (.int .i32 x0)),(3,.one (.str x3)),(4,.one (.str x4)),(5,.one (.int .i64 x5)),(7,.one (.bool x7))],[]⟩=
  some (.one (.int .i64 (-1))):=by
 kernel_rfl
def E49:Env Ty6 A4:=mk6 noT noC (lkE [(0,[4,5]),(1,[6,7,8,9,10,11,12,13,14,15,16,17,18]),(2,[0,1,19]),(3,[0,1,19,20,21,22,23,24,25,26])]) 27
def B5Y(n:Nat)(a0:Int)(a1:Int):A5 E49 n Tryz.f244 [.int .i32 a0,.int .i32 a1]=
  bif(decide (a0<55296))==false then(bif(decide (a0>56319))==false then(bif(decide (a1<56320))==false then(bif decide (a1>57343)then(some (.tup [.int .i32 0,.bool false]))else(some (.tup [.int .i32 (Ew .i32 ((Ew .i32 (65536+(Ew .i32 ((Ew .i32 (a0 - 55296))*1024))))+(Ew .i32 (a1 - 56320)))),.bool true])))else(some (.tup [.int .i32 0,.bool false])))else(some (.tup [.int .i32 0,.bool false])))else(some (.tup [.int .i32 0,.bool false])):=by
 kernel_rfl
def E32:Env Ty6 A4:=mk6 noT noC (lkE [(0,[2]),(1,[3]),(2,[0,4,5,6,7,8,9,10,11,12,13,14]),(3,[0,4,15,16,17,18,19,20,21,22,23,24])]) 25
def B3h(n:Nat)(a0:Int):A5 E32 n Tryz.f191 [.int .i32 a0]=
  bif decide (a0<32)then(bif(a0==9)==false then(bif(a0==10)==false then(some (.one (.bool (a0==13))))else(some (.one (.bool true))))else(some (.one (.bool true))))else(bif(decide (a0<=65535))==true then(bif(decide (a0<55296))==false then(some (.one (.bool (decide (a0>=57344)))))else(some (.one (.bool true))))else(some (.one (.bool false)))):=by
 kernel_rfl
def T53:T6:=λf ls=>match f with
 |174=>S62 ls
 |175=>S61 ls
 |_=>none
def E53:Env Ty6 A4:=mk6 T53 noC (lkE [(0,[2]),(1,[3]),(2,[0,4,5,6]),(3,[0,4,7,8,9,10,11,12])]) 13
def B5Q(n:Nat)(a0:Int):A5 E53 n Tryz.f121 [.int .i32 a0]=
  bif decide (a0<32)then(bif A3 (Ey [9,10,13]) 1 then(some (.one (.bool (inF a0 [9,10,13]))))else none)else(bif(decide (a0<65536))==true then(some (.one (.bool (D2 a0))))else(some (.one (.bool false)))):=by
 kernel_rfl
def E61:Env Ty6 A4:=mk6 noT noC (lkE [(0,[2]),(1,[3,4,5,6,7]),(2,[0,8]),(3,[0,8,9,10,11,12,13,14])]) 15
def B6k(n:Nat)(a0:Int):A5 E61 n Tryz.f175 [.int .i32 a0]=
  bif(decide (a0>=55296))==true then(bif decide (a0<=57343)then(some (.one (.bool false)))else(bif(decide (a0>=0))==true then(some (.one (.bool (decide (a0<=1114111)))))else(some (.one (.bool false)))))else(bif(decide (a0>=0))==true then(some (.one (.bool (decide (a0<=1114111)))))else(some (.one (.bool false)))):=by
 kernel_rfl
def E62:Env Ty6 A4:=mk6 noT noC (lkE [(0,[4]),(2,[6,7,8]),(3,[10,11,17]),(4,[9,12,13,14,15,16]),(5,[0,1,5,17]),(6,[0,1,5,9])]) 18
def B11(x0:Int)(x1:DT)(x5:Int):S6:=⟨[(0,.one (.int .i32 x0)),(1,.one (.str x1)),(5,.one (.int .i64 x5))],[]⟩
def B3G(n:Nat)(a0:Int)(a1:DT):A5 E62 n Ji [.int .i32 a0,.str a1]=
  C8 (lbC E62 (A2 Ji [1,0,1,0,0]) 10002 n) n (B11 a0 a1 0) (A7 0 (C1 (B2 E62 n (A2 Ji [1,1])) (B3 E62 Tryz.f174.results.toList))):=by
 kernel_rfl
def D2x(n:Nat)(x0:Int)(x1:DT)(x5:Int)(K:Ex->S6->DU):lbC E62 (A2 Ji [1,0,1,0,0]) 10002 n (B11 x0 x1 x5) K=
  bif decide (x5<(Ey x1:Int))then(match idx x1 x5 with|none=>none|some y1=>(bif(Ew .i32 (Gz y1:Int))==x0 then(K .ret ⟨[(4,.one (.bool true))],[]⟩)else(K .normal (B11 x0 x1 (Ew .i64 (x5+1))))))else(K (.exit 0) ⟨[(0,.one (.int .i32 x0)),(1,.one (.str x1)),(5,.one (.int .i64 x5)),(9,.one (.bool (decide (x5<(Ey x1:Int)))))],[]⟩):=by
 kernel_rfl
def D4w(n:Nat)(x0:Int)(x1:DT)(x5:Int)(x9:Bool):(A7 0 (C1 (B2 E62 n (A2 Ji [1,1])) (B3 E62 Tryz.f174.results.toList))) (.exit 0) ⟨[(0,.one (.int .i32 x0)),(1,.one (.str x1)),(5,.one (.int .i64 x5)),(9,.one (.bool x9))],[]⟩=
  some (.one (.bool false)):=by
 kernel_rfl
def E44:Env Ty6 A4:=mk6 noT noC (lkE [(0,[2]),(1,[4,5,6,7,8,9]),(2,[0,3]),(3,[0,3,11,12,13,14,15,16]),(4,[10]),(5,[10])]) 17
def B3W(n:Nat)(a0:Int):A5 E44 n Tryz.f220 [.int .i32 a0]=
  bif(decide (0<=a0))==true then(bif decide (a0<55296)then(some (.one (.bool true)))else(bif(decide (57343<a0))==true then(bif decide (a0<=1114111)then(some (.one (.bool true)))else(some (.one (.bool false))))else(some (.one (.bool false)))))else(bif(decide (57343<a0))==true then(bif decide (a0<=1114111)then(some (.one (.bool true)))else(some (.one (.bool false))))else(some (.one (.bool false)))):=by
 kernel_rfl
def T45:T6:=λf ls=>match f with
 |238=>S59 ls
 |_=>none
def D1L:Gn->Ed:=λf=>match f with
 |238=>some 0
 |_=>none
def E45:Env Ty6 A4:=mk6 T45 D1L (lkE [(0,[4]),(1,[5,6]),(2,[0,1,7,8,9,10,11,12]),(3,[0,1,7,13,14,15])]) 16
def B4K(n:Nat)(a0:DS)(a1:Int):A5 E45 n Tryz.f221 [.sl .u8 a0 (some 0),.int .i32 a1]=
  bif decide ((Ew .u32 a1)<=127)then(bif A3 (Ey a0+1) 1 then(some (.one (.sl .u8 (a0++[Ew .u8 a1]) (some 0))))else none)else(bif A3 (Ey a0+4) 1&&D2 a1&&decide (128<=a1)then(some (.one (.sl .u8 (L2 a0 (u8F a1)) (some 0))))else none):=by
 kernel_rfl
def E59:Env Ty6 A4:=mk6 noT noC (lkE [(0,[4]),(1,[6,7]),(2,[0,1,8,9,10,50]),(3,[12,13]),(4,[0,1,5,11,14,15,16,17,18,19,20,21,22,23,24]),(5,[11,26,27]),(6,[28,29,30,31,32,33]),(7,[0,1,5,25,34,35,36,37,38,39,40,41,42,43,44,45,46,47,48,49]),(8,[5,25,51,52,53,54,55,56]),(9,[0,1,50,57,58,59,60,61,62,63,64,65,66,67,68,69,70,71,72,73,74,75,76,77])]) 78
def B46(n:Nat)(a0:DS)(a1:Int):A5 E59 n Tryz.f238 [.sl .u8 a0 (some 0),.int .i32 a1]=
  bif decide ((Ew .u32 a1)<=2047)then(bif A3 (Ey a0+2) 1 then(some (.one (.sl .u8 (a0++[bits .or .u8 192 (Ew .u8 (a1 / 2^(Ez 6))),bits .or .u8 128 (bits .and .u8 (Ew .u8 a1) 63)]) (some 0))))else none)else(bif decide ((Ew .u32 a1)<55296)then(bif decide ((Ew .u32 a1)<55296)then(bif A3 (Ey a0+3) 1 then(some (.one (.sl .u8 (a0++[bits .or .u8 224 (Ew .u8 (a1 / 2^(Ez 12))),bits .or .u8 128 (bits .and .u8 (Ew .u8 (a1 / 2^(Ez 6))) 63),bits .or .u8 128 (bits .and .u8 (Ew .u8 a1) 63)]) (some 0))))else none)else(bif(decide ((Ew .u32 a1)>65535))==true then(bif decide ((Ew .u32 a1)<=1114111)then(bif A3 (Ey a0+4) 1 then(some (.one (.sl .u8 (a0++[bits .or .u8 240 (Ew .u8 (a1 / 2^(Ez 18))),bits .or .u8 128 (bits .and .u8 (Ew .u8 (a1 / 2^(Ez 12))) 63),bits .or .u8 128 (bits .and .u8 (Ew .u8 (a1 / 2^(Ez 6))) 63),bits .or .u8 128 (bits .and .u8 (Ew .u8 a1) 63)]) (some 0))))else none)else(bif A3 (Ey a0+3) 1 then(some (.one (.sl .u8 (a0++[239,191,189]) (some 0))))else none))else(bif A3 (Ey a0+3) 1 then(some (.one (.sl .u8 (a0++[239,191,189]) (some 0))))else none)))else(bif(decide (57343<(Ew .u32 a1)))==true then(bif decide ((Ew .u32 a1)<=65535)then(bif A3 (Ey a0+3) 1 then(some (.one (.sl .u8 (a0++[bits .or .u8 224 (Ew .u8 (a1 / 2^(Ez 12))),bits .or .u8 128 (bits .and .u8 (Ew .u8 (a1 / 2^(Ez 6))) 63),bits .or .u8 128 (bits .and .u8 (Ew .u8 a1) 63)]) (some 0))))else none)else(bif(decide ((Ew .u32 a1)>65535))==true then(bif decide ((Ew .u32 a1)<=1114111)then(bif A3 (Ey a0+4) 1 then(some (.one (.sl .u8 (a0++[bits .or .u8 240 (Ew .u8 (a1 / 2^(Ez 18))),bits .or .u8 128 (bits .and .u8 (Ew .u8 (a1 / 2^(Ez 12))) 63),bits .or .u8 128 (bits .and .u8 (Ew .u8 (a1 / 2^(Ez 6))) 63),bits .or .u8 128 (bits .and .u8 (Ew .u8 a1) 63)]) (some 0))))else none)else(bif A3 (Ey a0+3) 1 then(some (.one (.sl .u8 (a0++[239,191,189]) (some 0))))else none))else(bif A3 (Ey a0+3) 1 then(some (.one (.sl .u8 (a0++[239,191,189]) (some 0))))else none)))else(bif(decide ((Ew .u32 a1)>65535))==true then(bif decide ((Ew .u32 a1)<=1114111)then(bif A3 (Ey a0+4) 1 then(some (.one (.sl .u8 (a0++[bits .or .u8 240 (Ew .u8 (a1 / 2^(Ez 18))),bits .or .u8 128 (bits .and .u8 (Ew .u8 (a1 / 2^(Ez 12))) 63),bits .or .u8 128 (bits .and .u8 (Ew .u8 (a1 / 2^(Ez 6))) 63),bits .or .u8 128 (bits .and .u8 (Ew .u8 a1) 63)]) (some 0))))else none)else(bif A3 (Ey a0+3) 1 then(some (.one (.sl .u8 (a0++[239,191,189]) (some 0))))else none))else(bif A3 (Ey a0+3) 1 then(some (.one (.sl .u8 (a0++[239,191,189]) (some 0))))else none)))):=by
 kernel_rfl
end Go.Aev.Bv
namespace Go.Aev.Bv
section
variable {Ty:Type}{den:Ty->Type}{R:Type}
def A3b(body:St Ty den->(Ex->St Ty den->Option R)->Option R)(m:Nat)(k:Ex->St Ty den->Option R):Ex->St Ty den->Option R
 | .normal,s=>C8 body m s k
 |e,s=>k e s
def B5U(body:St Ty den->(Ex->St Ty den->Option R)->Option R)(m:Nat)(s:St Ty den)(k:Ex->St Ty den->Option R):
  C8 body (m+1) s k=body s (A3b body m k):=by
 simp only[C8]
 congr 1
 funext e s'
 cases e<;>rfl
end
def G4{n b:Nat}:A3 n b=true↔n*b<=140737488355328:=by simp[A3]
def V9{l:DS}:D0 l=true↔l.length*4<=140737488355328:=G4
def A4L{l:DS}(h:D0 l=true):l.length<=35184372088832:=by have:=V9.1 h;omega
def A6t{l:Ef}(h:M3 l=true):l.length*24<=140737488355328:=by
 simp only[M3,Fs]at h;exact G4.1 h.1
def A0Y{l:Ef}(h:M3 l=true){x:DS}(hx:x∈l):D0 x=true:=by
 simp only[M3,Fs,Gu]at h;exact h.2 x hx
def Q5{n:Int}(h: -9223372036854775808<=n)(h2:n<=9223372036854775807):Ew .i64 n=n:=Go.IntWalk.i64_in n ⟨h,h2⟩
def J3{i:Nat}(h:i<9223372036854775807):Ew .i64 ((i:Int)+1)=((i+1:Nat):Int):=by
 rw[Q5 Du Du];omega
def D2J{i:Nat}(h:i<9223372036854775807):Ew .i64 (((i+1:Nat):Int) - 1)=(i:Int):=by
 rw[Q5 Du Du];omega
def H3{α:Type}(l:List α)(i:Nat):idx l (i:Int)=l[i]? :=by simp[idx]
def D6{α:Type}{l:List α}{i:Nat}(h:i<l.length):idx l (i:Int)=some l[i]:=by rw[H3,Fw h]
section
variable {Ty:Type}{den:Ty->Type}{R:Type}
def I8{σ:Type}{body:St Ty den->(Ex->St Ty den->Option R)->Option R}{k:Ex->St Ty den->Option R}(st:σ->St Ty den)(I:σ->Prop)(μ:σ->Nat)(F:σ->Option R)
  (h:∀x,I x->∀K:Ex->St Ty den->Option R,(∀i s,K (.exit i) s=k (.exit i) s)->(∀s,K .ret s=k .ret s)->(∀y,I y->μ y<μ x->K .normal (st y)=F y)->body (st x) K=F x):
  ∀m x,I x->μ x<m->C8 body m (st x) k=F x:=by
 intro m
 induction m with
 |zero=>intro x _ hm;omega
 |succ m ih=>
  intro x hx hm;rw[B5U];exact h x hx _ (λ_ _=>rfl) (λ_=>rfl) (λy hy aH=>ih y hy Du)
end
def A6j{α:Type}{l:List α}{lo hi:Nat}(h:lo<=hi)(h2:hi<=l.length):sub l (lo:Int) (hi:Int)=some ((l.drop lo).take (hi - lo)):=by
 unfold sub;have h3:(decide (0<=(lo:Int))&&(decide ((lo:Int)<=(hi:Int))&&decide ((hi:Int)<=(l.length:Int))))=true:=Es
 rw[h3];rfl
def A75{α:Type}{l:List α}{lo:Nat}(h:lo<=l.length):sub l (lo:Int) (l.length:Int)=some (l.drop lo):=by
 rw[A6j h (Ff _),Ga Eo]
def bT(b:Bool):(b==true)=b:=by cases b<;>rfl
def bF(b:Bool):(b==false)= !b:=by cases b<;>rfl
end Go.Aev.Bv
namespace Go.Aev.Bv
open Go.Proofs
def w32{n:Int}(h: -2147483648<=n)(h2:n<=2147483647):Ew .i32 n=n:=Go.IntWalk.i32_in n ⟨h,h2⟩
def w8{n:Int}(h:0<=n)(h2:n<=255):Ew .u8 n=n:=Go.IntWalk.u8_in n ⟨h,h2⟩
def B8j{n:Int}(h:0<=n)(h2:n<=4294967295):Ew .u32 n=n:=Go.IntWalk.u32_in n ⟨h,h2⟩
def C3b{c:Int}:B7A c=true↔48<=c/\c<=57:=by simp[B7A]
def B51(c:Int): -1<=O4 c/\O4 c<=15:=by
 unfold O4;split
 ·rename_i h;have:=C3b.1 h;omega
 ·split
  ·rename_i h;simp at h;omega
  ·split
   ·rename_i h;simp at h;omega
   ·omega
def C9X(a b:Int)(n:Nat):A5 E49 n Tryz.f244 [.int .i32 a,.int .i32 b]=some (.tup [.int .i32 (O3 a b).1,.bool (O3 a b).2]):=by
 rw[B5Y];unfold O3;by_cases h1:a<55296
 ·simp[h1]
 ·by_cases h2:56320<=a
  ·have gp:56319<a:=Du
   simp[h1,h2,gp]
  ·have gp:¬56319<a:=Du
   by_cases h3:b<56320
   ·simp[h1,h2,h3,gp]
   ·by_cases h4:57344<=b
    ·have ru:57343<b:=Du
     simp[h1,h2,h3,h4,gp,ru]
    ·have ru:¬57343<b:=Du
     simp[h1,h2,h3,h4,gp,ru];rw[w32 (n:=a - 55296) Du Du,w32 (n:=(a - 55296)*1024) Du Du,w32 (n:=65536+_) Du Du,w32 (n:=b - 56320) Du Du,w32 Du Du]
def D5N(c:Int)(n:Nat):A5 E32 n Tryz.f191 [.int .i32 c]=some (.one (.bool (M6 c))):=by
 rw[B3h];unfold M6;by_cases h:c<32
 ·cases h1:c==9<;>cases h2:c==10<;>simp[h,h1,h2]
 ·by_cases h1:c<=65535
  ·by_cases h2:c<55296<;>simp[h,h1,h2]
  ·simp[h,h1]
def D6b(c:Int)(n:Nat):A5 E44 n Tryz.f220 [.int .i32 c]=some (.one (.bool (D2 c))):=by
 rw[B3W];unfold D2;by_cases h1:0<=c
 ·by_cases h2:c<55296
  ·simp[h1,h2]
  ·by_cases h3:57343<c
   ·by_cases h4:c<=1114111<;>simp[h1,h2,h3,h4]
   ·simp[h1,h2,h3]
 ·have h3:¬57343<c:=Du
  simp[h1,h3]
def D66(c:Int)(n:Nat):A5 E61 n Tryz.f175 [.int .i32 c]=some (.one (.bool (D2 c))):=by
 rw[B6k];unfold D2;by_cases h1:55296<=c
 ·by_cases h2:c<=57343
  ·have h3:¬57343<c:=Du
   have h4:¬c<55296:=Du
   simp[h1,h2,h3,h4]
  ·have h3:57343<c:=Du
   have h4:¬c<55296:=Du
   have h5:0<=c:=Du
   simp[h1,h2,h3,h4,h5]
 ·have h4:c<55296:=Du
  have h3:¬57343<c:=Du
  by_cases h5:0<=c
  ·have h6:c<=1114111:=Du
   simp[h1,h4,h5,h6]
  ·simp[h1,h4,h5,h3]
def D5e(c:Int)(n:Nat):A5 E53 n Tryz.f121 [.int .i32 c]=some (.one (.bool (M6 c))):=by
 rw[B5Q];unfold M6;by_cases h:c<32
 ·have e:inF c [9,10,13]=(c==9||(c==10||c==13)):=by
   simp only[inF,Mh,List.any_nil,Bool.or_false,show((9:UInt8).toNat:Int)=9 from rfl,show((10:UInt8).toNat:Int)=10 from rfl,show((13:UInt8).toNat:Int)=13 from rfl];rw[Mm (a:=9) (b:=c),Mm (a:=10) (b:=c),Mm (a:=13) (b:=c)]
  simp only[h,decide_true,Eg,if_true];rw[e];rfl
 ·by_cases h1:c<=65535
  ·have h2:c<65536:=Du
   have e:D2 c=(decide (c<55296)||decide (57344<=c)):=by
    unfold D2;rw[Bool.eq_iff_iff];simp;omega
   simp[h,h1,h2,e]
  ·have h2:¬c<65536:=Du
   simp[h,h1,h2]
def A37(b:UInt8):0<=(b.toNat:Int)/\(b.toNat:Int)<=255:=by have:=b.toNat_lt;omega
def C7R(c:Int)(t:DT)(hl:A3 t.length 1=true)(n:Nat)(hn:t.length<n):A5 E62 n Ji [.int .i32 c,.str t]=some (.one (.bool (inF c t))):=by
 have av:=G4.1 hl;rw[B3G];refine(I8 (λi:Nat=>B11 c t i) (λi=>i<=t.length) (λi=>t.length - i) (λi=>(some (.one (.bool (inF c (t.drop i)))):DU)) ?_ n 0 (Fi _) Du);intro i hi K bw bX bf;rw[D2x];by_cases h:i<t.length
 ·rw[Ei (Du:(i:Int)<(t.length:Int)),Eg,D6 h];dsimp only;have hb:=A37 t[i];rw[w32 Du Du,Gb h];unfold inF;rw[Mh];cases hc:(t[i].toNat:Int)==c with
  |true=>rw[Eg,Bool.true_or];exact(bX _).trans rfl
  |false=>
   rw[Eh,J3 Du,bf (i+1) Du Du];simp[inF]
 ·rw[Ej (Du:¬(i:Int)<(t.length:Int)),Eh,bw,D4w,Fl Du];rfl
def T48:T6:=λf ls=>match f with
 |245=>S60 ls
 |_=>none
def E48:Env Ty6 A4:=mk6 T48 noC (lkE [(0,[4]),(1,[8,9,10,11,12,13,14,15,16,17,18,19,20,21,22,23,24,25,26]),(2,[0,1,27]),(3,[27]),(4,[28,29]),(5,[30,31,32]),(6,[34,35]),(7,[33,36,37,38,39,40]),(8,[41]),(9,[0,1,5,6,7,42]),(10,[7,42,43,44,45,46,47]),(11,[0,1,5,6,33,48])]) 49
def B1D(x0:DS)(x1:Int)(x5:Int)(x6:Int):S6:=⟨[(0,.one (.sl .i32 x0 none)),(1,.one (.int .i64 x1)),(5,.one (.int .i32 x5)),(6,.one (.int .i64 x6))],[]⟩
def D4h(n:Nat)(a0:DS)(a1:Int):A5 E48 n Is [.sl .i32 a0 none,.int .i64 a1]=
  bif(decide ((Ew .i64 (a1+6))>(Ey a0:Int)))==false then(match idx a0 a1 with|none=>none|some y1=>(bif(y1 !=92)==false then(match idx a0 (Ew .i64 (a1+1))with|none=>none|some y2=>(bif y2 !=117 then(some (.one (.int .i32 (-1))))else(C8 (lbC E48 (A2 Is [1,1,1,0,1,0,0]) 10005 n) n (B1D a0 a1 0 (Ew .i64 (a1+2))) (A7 0 (C1 (B2 E48 n (A2 Is [1,1,1,1])) (B3 E48 Tryz.f243.results.toList))))))else(some (.one (.int .i32 (-1))))))else(some (.one (.int .i32 (-1)))):=by
 kernel_rfl
def D3D(n:Nat)(x0:DS)(x1:Int)(x5:Int)(x6:Int)(K:Ex->S6->DU):lbC E48 (A2 Is [1,1,1,0,1,0,0]) 10005 n (B1D x0 x1 x5 x6) K=
  bif decide (x6<(Ew .i64 (x1+6)))then(match idx x0 x6 with|none=>none|some y3=>(bif decide ((O4 y3)<0)then(K .ret ⟨[(4,.one (.int .i32 (-1)))],[]⟩)else(K .normal (B1D x0 x1 (Ew .i32 ((Ew .i32 (x5*16))+(Ew .i32 (O4 y3)))) (Ew .i64 (x6+1))))))else(K (.exit 0) ⟨[(0,.one (.sl .i32 x0 none)),(1,.one (.int .i64 x1)),(5,.one (.int .i32 x5)),(6,.one (.int .i64 x6)),(33,.one (.bool (decide (x6<(Ew .i64 (x1+6))))))],[]⟩):=by
 kernel_rfl
def C8J(n:Nat)(x0:DS)(x1:Int)(x5:Int)(x6:Int)(BX:Bool):(A7 0 (C1 (B2 E48 n (A2 Is [1,1,1,1])) (B3 E48 Tryz.f243.results.toList))) (.exit 0) ⟨[(0,.one (.sl .i32 x0 none)),(1,.one (.int .i64 x1)),(5,.one (.int .i32 x5)),(6,.one (.int .i64 x6)),(33,.one (.bool BX))],[]⟩=
  some (.one (.int .i32 x5)):=by
 kernel_rfl
def E47:Env Ty6 A4:=mk6 noT noC (lkE [(0,[2]),(4,[6,7,8]),(5,[10,11,17]),(6,[9,12,13,14,15,16]),(7,[0,3,4,5,17,18,19,20,21]),(8,[0,3,4,5,9])]) 22
def B0o(x0:Int)(x3:DT)(x4:DT)(x5:Int):S6:=⟨[(0,.one (.int .i32 x0)),(3,.one (.str x3)),(4,.one (.str x4)),(5,.one (.int .i64 x5))],[]⟩
def D08(n:Nat)(a0:Int):A5 E47 n It [.int .i32 a0]=
  C8 (lbC E47 (A2 It [1,1,1,0,1,0,0]) 10004 n) n (B0o a0 [34,92,47,98,102,110,114,116] [34,92,47,8,12,10,13,9] 0) (A7 0 (C1 (B2 E47 n (A2 It [1,1,1,1])) (B3 E47 Tryz.f242.results.toList))):=by
 kernel_rfl
def D4O(n:Nat)(x0:Int)(x3:DT)(x4:DT)(x5:Int)(K:Ex->S6->DU):lbC E47 (A2 It [1,1,1,0,1,0,0]) 10004 n (B0o x0 x3 x4 x5) K=
  bif decide (x5<(Ey x3:Int))then(match idx x3 x5 with|none=>none|some y1=>(bif(Ew .i32 (Gz y1:Int))==x0 then(match idx x4 x5 with|none=>none|some y2=>(K .ret ⟨[(2,.one (.int .i32 (Ew .i32 (Gz y2:Int))))],[]⟩))else(K .normal (B0o x0 x3 x4 (Ew .i64 (x5+1))))))else(K (.exit 0) ⟨[(0,.one (.int .i32 x0)),(3,.one (.str x3)),(4,.one (.str x4)),(5,.one (.int .i64 x5)),(9,.one (.bool (decide (x5<(Ey x3:Int)))))],[]⟩):=by
 kernel_rfl
def C7Y(n:Nat)(x0:Int)(x3:DT)(x4:DT)(x5:Int)(x9:Bool):(A7 0 (C1 (B2 E47 n (A2 It [1,1,1,1])) (B3 E47 Tryz.f242.results.toList))) (.exit 0) ⟨[(0,.one (.int .i32 x0)),(3,.one (.str x3)),(4,.one (.str x4)),(5,.one (.int .i64 x5)),(9,.one (.bool x9))],[]⟩=
  some (.one (.int .i32 (-1))):=by
 kernel_rfl
def T46:T6:=λf ls=>match f with
 |121=>S53 ls
 |_=>none
def E46:Env Ty6 A4:=mk6 T46 noC (lkE [(0,[2]),(1,[0,3,4,5,6,7,8,9,10,11,12,13,14,15,16,17,18,19,20])]) 21
def D1w(n:Nat)(a0:Int):A5 E46 n Tryz.f241 [.int .i32 a0]=
  bif(M6 a0)==true then(bif(a0 !=34)==true then(bif(a0 !=92)==true then(bif(a0 !=10)==true then(some (.one (.bool (a0 !=13))))else(some (.one (.bool false))))else(some (.one (.bool false))))else(some (.one (.bool false))))else(some (.one (.bool false))):=by
 kernel_rfl
def T34:T6:=λf ls=>match f with
 |241=>S46 ls
 |242=>S47 ls
 |243=>S48 ls
 |244=>S49 ls
 |_=>none
def E34:Env Ty6 A4:=mk6 T34 noC (lkE [(0,[4,5]),(1,[12,13,14,15,16]),(2,[6]),(3,[0,1,17,18,19,20,21]),(4,[17,22,23,24,25,26,27,28,29,30,31,32]),(5,[0,1,33]),(6,[33,34,35,36,37,38,39]),(7,[40]),(8,[0,1,7,41,42]),(9,[7,41,43,44,45]),(10,[47,48,49,50,51,52,53,54,55,56]),(11,[0,1,8,46]),(12,[46,58,59,60,61,62,63]),(13,[0,1,57,64,65,66,67]),(14,[8,9,68,69,70,71,72,73]),(15,[11,74]),(16,[10,75]),(17,[10,75,76]),(18,[0,1,8,57,77])]) 78
def B5s(n:Nat)(a0:DS)(a1:Int):A5 E34 n Tryz.f235 [.sl .i32 a0 none,.int .i64 a1]=
  match idx a0 a1 with|none=>none|some y1=>(bif A0u y1 then(match idx a0 a1 with|none=>none|some y2=>(some (.tup [.int .i32 y2,.int .i64 1])))else(match idx a0 a1 with|none=>none|some y3=>(bif(y3 !=92)==false then(bif decide ((Ew .i64 (a1+1))>=(Ey a0:Int))then(some (.tup [.int .i32 0,.int .i64 0]))else(match idx a0 (Ew .i64 (a1+1))with|none=>none|some y4=>(bif decide ((P5 y4)>=0)then(some (.tup [.int .i32 (P5 y4),.int .i64 2]))else(bif D0 a0&&decide (0<=a1)&&decide (a1<=(Ey a0:Int)+12)then(bif(decide ((K1 (Fg (Ez a1) a0))<0))==false then(bif(decide ((K1 (Fg (Ez a1) a0))>=56320))==true then(bif decide ((K1 (Fg (Ez a1) a0))<=57343)then(some (.tup [.int .i32 0,.int .i64 0]))else(bif(decide ((K1 (Fg (Ez a1) a0))>=55296))==true then(bif decide ((K1 (Fg (Ez a1) a0))<=56319)then(bif D0 a0&&decide (0<=(Ew .i64 (a1+6)))&&decide ((Ew .i64 (a1+6))<=(Ey a0:Int)+12)then(bif !((O3 (K1 (Fg (Ez a1) a0)) (K1 (Fg (Ez (Ew .i64 (a1+6))) a0))).2)then(some (.tup [.int .i32 0,.int .i64 0]))else(some (.tup [.int .i32 ((O3 (K1 (Fg (Ez a1) a0)) (K1 (Fg (Ez (Ew .i64 (a1+6))) a0))).1),.int .i64 12])))else none)else(some (.tup [.int .i32 (K1 (Fg (Ez a1) a0)),.int .i64 6])))else(some (.tup [.int .i32 (K1 (Fg (Ez a1) a0)),.int .i64 6]))))else(bif(decide ((K1 (Fg (Ez a1) a0))>=55296))==true then(bif decide ((K1 (Fg (Ez a1) a0))<=56319)then(bif D0 a0&&decide (0<=(Ew .i64 (a1+6)))&&decide ((Ew .i64 (a1+6))<=(Ey a0:Int)+12)then(bif !((O3 (K1 (Fg (Ez a1) a0)) (K1 (Fg (Ez (Ew .i64 (a1+6))) a0))).2)then(some (.tup [.int .i32 0,.int .i64 0]))else(some (.tup [.int .i32 ((O3 (K1 (Fg (Ez a1) a0)) (K1 (Fg (Ez (Ew .i64 (a1+6))) a0))).1),.int .i64 12])))else none)else(some (.tup [.int .i32 (K1 (Fg (Ez a1) a0)),.int .i64 6])))else(some (.tup [.int .i32 (K1 (Fg (Ez a1) a0)),.int .i64 6]))))else(some (.tup [.int .i32 0,.int .i64 0])))else none))))else(some (.tup [.int .i32 0,.int .i64 0]))))):=by
 kernel_rfl
def T50:T6:=λf ls=>match f with
 |175=>S61 ls
 |_=>none
def E50:Env Ty6 A4:=mk6 T50 noC (lkE [(0,[2]),(1,[6,7]),(2,[0,8]),(3,[8,9,10,11,12]),(4,[13,14,15,16,17]),(5,[18,19,20,21,22]),(6,[24,25]),(7,[0,3,4,5,23,26,27,28]),(8,[23,30,31]),(9,[0,3,4,5,29,32,33,34,35,36,37]),(10,[29,39,40]),(11,[0,3,4,5,38,41,42,43,44,45,46,47]),(12,[0,3,4,5,38,48,49,50,51,52,53,54,55])]) 56
def C6w(n:Nat)(a0:Int):A5 E50 n Tryz.f172 [.int .i32 a0]=
  bif !(D2 a0)then(some (.one (.sl .u8 [] (some 1))))else(bif decide (a0<128)then(some (.one (.sl .u8 [Ew .u8 a0] (some 1))))else(bif decide (a0<2048)then(some (.one (.sl .u8 [Ew .u8 (Ew .i32 (192+(Ew .i32 (Gm a0 64)))),Ew .u8 (Ew .i32 (128+(Ge a0 64)))] (some 1))))else(bif decide (a0<65536)then(some (.one (.sl .u8 [Ew .u8 (Ew .i32 (224+(Ew .i32 (Gm a0 4096)))),Ew .u8 (Ew .i32 (128+(Ge (Ew .i32 (Gm a0 64)) 64))),Ew .u8 (Ew .i32 (128+(Ge a0 64)))] (some 1))))else(some (.one (.sl .u8 [Ew .u8 (Ew .i32 (240+(Ew .i32 (Gm a0 262144)))),Ew .u8 (Ew .i32 (128+(Ge (Ew .i32 (Gm a0 4096)) 64))),Ew .u8 (Ew .i32 (128+(Ge (Ew .i32 (Gm a0 64)) 64))),Ew .u8 (Ew .i32 (128+(Ge a0 64)))] (some 1))))))):=by
 kernel_rfl
def T33:T6:=λf ls=>match f with
 |220=>S44 ls
 |221=>S45 ls
 |_=>none
def D7P:Gn->Ed:=λf=>match f with
 |221=>some 0
 |_=>none
def E33:Env Ty6 A4:=mk6 T33 D7P (lkE [(0,[2,3]),(2,[0]),(4,[10,11,12]),(5,[13,14]),(6,[4,6,7,8,9,15]),(7,[6,15,16,17,18]),(8,[19]),(9,[4,7,8,9,10,20,21])]) 22
def B1V(x4:DS)(x7:DS)(x8:Int)(x9:Int):S6:=⟨[(4,.one (.sl .u8 x4 (some 104))),(7,.one (.sl .i32 x7 none)),(8,.one (.int .i64 x8)),(9,.one (.int .i64 x9))],[104]⟩
def C9A(n:Nat)(a0:DS):A5 E33 n Je [.sl .i32 a0 none]=
  C8 (lbC E33 (A2 Je [1,1,0,1,0,0]) 10003 n) n (B1V [] a0 (Ey a0:Int) 0) (A7 0 (C1 (B2 E33 n (A2 Je [1,1,1])) (B3 E33 Tryz.f196.results.toList))):=by
 kernel_rfl
def D59(n:Nat)(x4:DS)(x7:DS)(x8:Int)(x9:Int)(K:Ex->S6->DU):lbC E33 (A2 Je [1,1,0,1,0,0]) 10003 n (B1V x4 x7 x8 x9) K=
  bif decide (x9<x8)then(match idx x7 x9 with|none=>none|some y1=>(bif !(D2 y1)then(K .ret ⟨[(2,.one (.str [])),(3,.one (.bool false))],[]⟩)else(bif A3 (Ey x4+4) 1&&D2 y1 then(K .normal (B1V (L2 x4 (u8F y1)) x7 x8 (Ew .i64 (x9+1))))else none)))else(K (.exit 0) ⟨[(4,.one (.sl .u8 x4 (some 104))),(7,.one (.sl .i32 x7 none)),(8,.one (.int .i64 x8)),(9,.one (.int .i64 x9)),(10,.one (.bool (decide (x9<x8))))],[104]⟩):=by
 kernel_rfl
def C6I(n:Nat)(x4:DS)(x7:DS)(x8:Int)(x9:Int)(aP:Bool):(A7 0 (C1 (B2 E33 n (A2 Je [1,1,1])) (B3 E33 Tryz.f196.results.toList))) (.exit 0) ⟨[(4,.one (.sl .u8 x4 (some 104))),(7,.one (.sl .i32 x7 none)),(8,.one (.int .i64 x8)),(9,.one (.int .i64 x9)),(10,.one (.bool aP))],[104]⟩=
  some (.tup [.str (Gk (λ(n:Int)=>Ih n.toNat) x4),.bool true]):=by
 kernel_rfl
def T35:T6:=λf ls=>match f with
 |172=>S50 ls
 |_=>none
def E35:Env Ty6 A4:=mk6 T35 noC (lkE [(0,[2,3]),(3,[7,8,9]),(4,[11,12]),(5,[10,13,14,15,16,17]),(6,[18,19]),(7,[0,4,5,6,20]),(8,[6,20,21,22,23]),(9,[0,4,5,10,24,25])]) 26
def A99(x0:DS)(x4:DS)(x5:Int):S6:=⟨[(0,.one (.sl .i32 x0 none)),(4,.one (.sl .u8 x4 (some 104))),(5,.one (.int .i64 x5))],[104]⟩
def C8p(n:Nat)(a0:DS):A5 E35 n Jn [.sl .i32 a0 none]=
  C8 (lbC E35 (A2 Jn [1,1,0,1,0,0]) 10003 n) n (A99 a0 [] 0) (A7 0 (C1 (B2 E35 n (A2 Jn [1,1,1])) (B3 E35 Tryz.f125.results.toList))):=by
 kernel_rfl
def D35(n:Nat)(x0:DS)(x4:DS)(x5:Int)(K:Ex->S6->DU):lbC E35 (A2 Jn [1,1,0,1,0,0]) 10003 n (A99 x0 x4 x5) K=
  bif decide (x5<(Ey x0:Int))then(match idx x0 x5 with|none=>none|some y1=>(bif(Ey (P3 y1):Int)==0 then(K .ret ⟨[(2,.one (.str [])),(3,.one (.bool false))],[]⟩)else(bif A3 (Ey x4+Ey (P3 y1)) 1 then(K .normal (A99 x0 (x4++(P3 y1)) (Ew .i64 (x5+1))))else none)))else(K (.exit 0) ⟨[(0,.one (.sl .i32 x0 none)),(4,.one (.sl .u8 x4 (some 104))),(5,.one (.int .i64 x5)),(10,.one (.bool (decide (x5<(Ey x0:Int)))))],[104]⟩):=by
 kernel_rfl
def D4L(n:Nat)(x0:DS)(x4:DS)(x5:Int)(aP:Bool):(A7 0 (C1 (B2 E35 n (A2 Jn [1,1,1])) (B3 E35 Tryz.f125.results.toList))) (.exit 0) ⟨[(0,.one (.sl .i32 x0 none)),(4,.one (.sl .u8 x4 (some 104))),(5,.one (.int .i64 x5)),(10,.one (.bool aP))],[104]⟩=
  some (.tup [.str (Gk (λ(n:Int)=>Ih n.toNat) x4),.bool true]):=by
 kernel_rfl
def T21:T6:=λf ls=>match f with
 |125=>S35 ls
 |235=>S34 ls
 |_=>none
def E21:Env Ty6 A4:=mk6 T21 noC (lkE [(0,[2,3]),(3,[10,11,12]),(4,[13,14,15,16,17,18,19]),(5,[20]),(6,[0,4,5,6,7,21]),(7,[6,21,22,23,24,25]),(8,[7,26,27,28]),(9,[0,4,5,9,13,29,30,31,32,33]),(10,[8,34])]) 35
def B0F(x0:DS)(x4:DS)(x5:Int):S6:=⟨[(0,.one (.sl .i32 x0 none)),(4,.one (.sl .i32 x4 (some 104))),(5,.one (.int .i64 x5))],[104]⟩
def D51(n:Nat)(a0:DS):A5 E21 n Iz [.sl .i32 a0 none]=
  C8 (lbC E21 (A2 Iz [1,1,1,0,0,0]) 10003 n) n (B0F a0 [] 0) (A7 0 (C1 (B2 E21 n (A2 Iz [1,1,1,1])) (B3 E21 Tryz.f214.results.toList))):=by
 kernel_rfl
def C32(n:Nat)(x0:DS)(x4:DS)(x5:Int)(K:Ex->S6->DU):lbC E21 (A2 Iz [1,1,1,0,0,0]) 10003 n (B0F x0 x4 x5) K=
  bif decide (x5<(Ey x0:Int))then(bif D0 x0&&decide (0<=x5)&&decide (x5<(Ey x0:Int))then(bif((J6 (Fg (Ez x5) x0)).2)==0 then(K .ret ⟨[(2,.one (.str [])),(3,.one (.int .i64 60))],[]⟩)else(bif A3 (Ey x4+1) 4 then(K .normal (B0F x0 (x4++[(J6 (Fg (Ez x5) x0)).1]) (Ew .i64 (x5+((J6 (Fg (Ez x5) x0)).2)))))else none))else none)else(K (.exit 0) ⟨[(0,.one (.sl .i32 x0 none)),(4,.one (.sl .i32 x4 (some 104))),(5,.one (.int .i64 x5)),(13,.one (.bool (decide (x5<(Ey x0:Int)))))],[104]⟩):=by
 kernel_rfl
def D5K(n:Nat)(x0:DS)(x4:DS)(x5:Int)(bN:Bool):(A7 0 (C1 (B2 E21 n (A2 Iz [1,1,1,1])) (B3 E21 Tryz.f214.results.toList))) (.exit 0) ⟨[(0,.one (.sl .i32 x0 none)),(4,.one (.sl .i32 x4 (some 104))),(5,.one (.int .i64 x5)),(13,.one (.bool bN))],[104]⟩=
  bif D0 x4 then(some (.tup [.str ((J9 x4).1),.int .i64 0]))else none:=by
 kernel_rfl
def A5i:DT:=[48,49,50,51,52,53,54,55,56,57,97,98,99,100,101,102]
def A48:DT:=[48,49,50,51,52,53,54,55,56,57,65,66,67,68,69,70]
def C9z:∀i:Fin 16,O4 ((A5i[i.1]'i.2).toNat:Int)=i.1/\O4 ((A48[i.1]'i.2).toNat:Int)=i.1:=Ep
def C7u{c:Int}(h:0<=O4 c):∃j:Nat,∃hj:j<16,((A5i[j]'hj).toNat:Int)=c\/((A48[j]'hj).toNat:Int)=c:=by
 have:(c=48\/c=49\/c=50\/c=51\/c=52\/c=53\/c=54\/c=55\/c=56\/c=57)\/(c=97\/c=98\/c=99\/c=100\/c=101\/c=102)\/(c=65\/c=66\/c=67\/c=68\/c=69\/c=70):=by
  unfold O4 at h;split at h
  ·rename_i h1;have:=C3b.1 h1;left;omega
  ·split at h
   ·rename_i h1;simp at h1;right;left;omega
   ·split at h
    ·rename_i h1;simp at h1;right;right;omega
    ·omega
 rcases this with(h|h|h|h|h|h|h|h|h|h)|(h|h|h|h|h|h)|(h|h|h|h|h|h)
 ·exact⟨0,Du,.inl (by rw[h];rfl)⟩
 ·exact⟨1,Du,.inl (by rw[h];rfl)⟩
 ·exact⟨2,Du,.inl (by rw[h];rfl)⟩
 ·exact⟨3,Du,.inl (by rw[h];rfl)⟩
 ·exact⟨4,Du,.inl (by rw[h];rfl)⟩
 ·exact⟨5,Du,.inl (by rw[h];rfl)⟩
 ·exact⟨6,Du,.inl (by rw[h];rfl)⟩
 ·exact⟨7,Du,.inl (by rw[h];rfl)⟩
 ·exact⟨8,Du,.inl (by rw[h];rfl)⟩
 ·exact⟨9,Du,.inl (by rw[h];rfl)⟩
 ·exact⟨10,Du,.inl (by rw[h];rfl)⟩
 ·exact⟨11,Du,.inl (by rw[h];rfl)⟩
 ·exact⟨12,Du,.inl (by rw[h];rfl)⟩
 ·exact⟨13,Du,.inl (by rw[h];rfl)⟩
 ·exact⟨14,Du,.inl (by rw[h];rfl)⟩
 ·exact⟨15,Du,.inl (by rw[h];rfl)⟩
 ·exact⟨10,Du,.inr (by rw[h];rfl)⟩
 ·exact⟨11,Du,.inr (by rw[h];rfl)⟩
 ·exact⟨12,Du,.inr (by rw[h];rfl)⟩
 ·exact⟨13,Du,.inr (by rw[h];rfl)⟩
 ·exact⟨14,Du,.inr (by rw[h];rfl)⟩
 ·exact⟨15,Du,.inr (by rw[h];rfl)⟩
def D6l(c:Int)(n:Nat)(hn:16<n):A5 E60 n Ir [.int .i32 c]=some (.one (.int .i64 (O4 c))):=by
 rw[B4P];refine(I8 (λi:Nat=>B2u c A5i A48 i) (λi=>i<=16/\∀j:Nat,∀hj:j<16,j<i->((A5i[j]'hj).toNat:Int)≠c/\((A48[j]'hj).toNat:Int)≠c) (λi=>16 - i) (λi=>(some (.one (.int .i64 (O4 c))):DU)) ?_ n 0 ⟨Fi _,λj _ h=>absurd h (Lz _)⟩ Du);intro i ⟨hi,hb⟩ K bw bX bf;rw[C6p];by_cases h:i<16
 ·rw[Ei (Du:(i:Int)<16),Eg,D6 (l:=A5i) h];dsimp only;rw[D6 (l:=A48) h];dsimp only;have h1:=A37 (A5i[i]'h);have h2:=A37 (A48[i]'h);have ht:=C9z ⟨i,h⟩;rw[w32 Du Du,w32 Du Du];cases hc:((A5i[i]'h).toNat:Int)==c with
  |true=>
   simp only[beq_iff_eq]at hc;show(bif true==false then _ else _)=_;refine(bX _).trans ?_;rw[<-hc,ht.1];rfl
  |false=>
   show(bif false==false then _ else _)=_;rw[show(false==false)=true from rfl,Eg];cases hd:((A48[i]'h).toNat:Int)==c with
   |true=>
    simp only[beq_iff_eq]at hd;rw[Eg];refine(bX _).trans ?_;rw[<-hd,ht.2];rfl
   |false=>
    rw[Eh,J3 Du];refine bf (i+1) ⟨Du,λj hj en=>?_⟩ Du;by_cases lJ:j<i
    ·exact hb j hj lJ
    ·have:j=i:=Du
     subst this;exact⟨λe=>by simp[e]at hc,λe=>by simp[e]at hd⟩
 ·have hx:¬0<=O4 c:=λhx=>by
   obtain⟨j,hj,hf⟩:=C7u hx;have:=hb j hj Du;rcases hf with hf|hf
   ·exact this.1 hf
   ·exact this.2 hf
  have hr:=B51 c;have he:O4 c= -1:=Du
  rw[Ej (Du:¬(i:Int)<16),Eh,bw,D75,he]
def C3f(m c:Int)(r:DS):A2P m (c::r)=if O4 c<0 then -1 else A2P (m*16+O4 c) r:=rfl
def D7N(m:DS):∀(a:Int)(k:Nat),0<=a->a<16^k-> -1<=A2P a m/\A2P a m<16^(k+m.length):=by
 induction m with
 |nil=>intro a k h1 h2;simp[A2P];omega
 |cons c r ih=>
  intro a k h1 h2;rw[C3f];have hr:=B51 c;have hp:(0:Int)<16^(k+(c::r).length):=Pb Du;split
  ·omega
  ·have:=ih (a*16+O4 c) (k+1) Du (by rw[Mi];omega);rw[Fm,show k+(r.length+1)=k+1+r.length from Du];exact this
def D3b(l:DS): -1<=E5 l/\E5 l<=65535:=by
 unfold E5;split
 ·omega
 ·rename_i h;have:=D7N (l.take 4) 0 0 Du Eo;have hl:(l.take 4).length=4:=by rw[Gi];omega
  rw[hl]at this;simp at this;omega
def C2h{l:DS}(h:l.length<4):E5 l= -1:=by unfold E5;rw[El h]
def U4{l:DS}{i:Nat}(h:i<l.length):l.drop i=l[i]::l.drop (i+1):=Gb h
def C1R(l:DS)(h1:¬E5 l<0)(h2:55296<=E5 l)(h3:E5 l<=56319):X9 l=if 10<=l.length/\l[4]?=some 92/\l[5]?=some 117/\(O3 (E5 l) (E5 (l.drop 6))).2=true then((O3 (E5 l) (E5 (l.drop 6))).1,12)else(0,0):=by
 unfold X9;dsimp only;rw[Ek Du,Ek Du]
def B5L(l:DS)(h:E5 l<0\/(56320<=E5 l/\E5 l<=57343)):X9 l=(0,0):=by
 unfold X9;dsimp only;rw[El h]
def B3g(l:DS)(h1:¬E5 l<0)(h:E5 l<55296\/57343<E5 l):X9 l=(E5 l,6):=by
 unfold X9;dsimp only;rw[Ek Du,El h]
def D6h{l:DS}(h:D0 l=true)(k:Nat):D0 (l.drop k)=true:=by
 have:=V9.1 h;exact V9.2 (by rw[Fh];omega)
def X4{a b:Int}(h:a≠b):(a !=b)=true:=bne_iff_ne.2 h
def A0z{a b:Int}(h:a=b):(a !=b)=false:=by rw[h];exact bne_self_eq_false _
def beqT{a b:Int}(h:a=b):(a==b)=true:=beq_iff_eq.2 h
def beqF{a b:Int}(h:a≠b):(a==b)=false:=beq_false_of_ne h
def C3Q(c:Int)(l:DS)(h:2<=l.length):A1Y l=if 0<=P5 l[1]then(P5 l[1],2)else if l[1]=117 then X9 (l.drop 2)else(0,0):=by
 match l,h with
 |_::_::_,_=>rfl
def B4U{l:DS}(h:l.length<2):A1Y l=(0,0):=by
 match l,h with
 |[],_=>rfl
 |[_],_=>rfl
def D3Y(c:Int)(n:Nat):A5 E46 n Tryz.f241 [.int .i32 c]=some (.one (.bool (A0u c))):=by
 rw[D1w];unfold A0u;cases h0:M6 c with
 |false=>rfl
 |true=>
  by_cases c1:c=34
  ·rw[A0z c1,beqT c1];rfl
  by_cases c2:c=92
  ·rw[X4 c1,beqF c1,A0z c2,beqT c2];rfl
  by_cases c3:c=10
  ·rw[X4 c1,beqF c1,X4 c2,beqF c2,A0z c3,beqT c3];rfl
  ·rw[X4 c1,beqF c1,X4 c2,beqF c2,X4 c3,beqF c3];rfl
def namesT:DT:=[34,92,47,98,102,110,114,116]
def B1a:DT:=[34,92,47,8,12,10,13,9]
def D5l:∀i:Fin 8,P5 ((namesT[i.1]'i.2).toNat:Int)=((B1a[i.1]'i.2).toNat:Int):=Ep
def D5I{c:Int}(h:∀j:Nat,∀hj:j<8,((namesT[j]'hj).toNat:Int)≠c):P5 c= -1:=by
 have h0:(34:Int)≠c:=h 0 Du;have h1:(92:Int)≠c:=h 1 Du;have h2:(47:Int)≠c:=h 2 Du;have h3:(98:Int)≠c:=h 3 Du;have h4:(102:Int)≠c:=h 4 Du;have h5:(110:Int)≠c:=h 5 Du;have h6:(114:Int)≠c:=h 6 Du;have h7:(116:Int)≠c:=h 7 Du;unfold P5;rw[Ek Du,Ek Du,Ek Du,Ek Du,Ek Du,Ek Du]
def C7g(c:Int)(n:Nat)(hn:8<n):A5 E47 n It [.int .i32 c]=some (.one (.int .i32 (P5 c))):=by
 rw[D08];refine(I8 (λi:Nat=>B0o c namesT B1a i) (λi=>i<=8/\∀j:Nat,∀hj:j<8,j<i->((namesT[j]'hj).toNat:Int)≠c) (λi=>8 - i) (λi=>(some (.one (.int .i32 (P5 c))):DU)) ?_ n 0 ⟨Fi _,λj _ h=>absurd h (Lz _)⟩ Du);intro i ⟨hi,hb⟩ K bw bX bf;rw[D4O];have av:namesT.length=8:=rfl;by_cases h:i<8
 ·rw[Ei (Du:(i:Int)<(namesT.length:Int)),Eg,D6 (l:=namesT) h];dsimp only;rw[D6 (l:=B1a) h];dsimp only;have h1:=A37 (namesT[i]'h);have h2:=A37 (B1a[i]'h);have ht:=D5l ⟨i,h⟩;rw[w32 Du Du,w32 Du Du];cases hc:((namesT[i]'h).toNat:Int)==c with
  |true=>
   simp only[beq_iff_eq]at hc;rw[Eg];refine(bX _).trans ?_;rw[<-hc,ht];rfl
  |false=>
   rw[Eh,J3 Du];refine bf (i+1) ⟨Du,λj hj en=>?_⟩ Du;by_cases lJ:j<i
   ·exact hb j hj lJ
   ·have:j=i:=Du
    subst this;exact λe=>by simp[e]at hc
 ·rw[Ej (Du:¬(i:Int)<(namesT.length:Int)),Eh,bw,C7Y,D5I (λj hj=>hb j hj Du)]
def t2B:∀x:Fin 32,bits .or .u8 192 (x.1:Int)=192+x.1:=Eu
def t3B:∀x:Fin 16,bits .or .u8 224 (x.1:Int)=224+x.1:=Eu
def t4B:∀x:Fin 8,bits .or .u8 240 (x.1:Int)=240+x.1:=Eu
def txB:∀x:Fin 256,bits .or .u8 128 (bits .and .u8 (x.1:Int) 63)=128+(x.1:Int) % 64:=Eu
def t2I{x:Int}(h:0<=x)(h2:x<32):bits .or .u8 192 (Ew .u8 x)=192+x:=by
 rw[w8 h Du];have:=t2B ⟨x.toNat,Du⟩;dsimp only at this;rw[show((x.toNat:Nat):Int)=x from Du]at this;exact this
def t3I{x:Int}(h:0<=x)(h2:x<16):bits .or .u8 224 (Ew .u8 x)=224+x:=by
 rw[w8 h Du];have:=t3B ⟨x.toNat,Du⟩;dsimp only at this;rw[show((x.toNat:Nat):Int)=x from Du]at this;exact this
def t4I{x:Int}(h:0<=x)(h2:x<8):bits .or .u8 240 (Ew .u8 x)=240+x:=by
 rw[w8 h Du];have:=t4B ⟨x.toNat,Du⟩;dsimp only at this;rw[show((x.toNat:Nat):Int)=x from Du]at this;exact this
def txI{x:Int}:bits .or .u8 128 (bits .and .u8 (Ew .u8 x) 63)=128+x % 64:=by
 rw[IntKind.wrap_u8];have:=txB ⟨(x % 256).toNat,Du⟩;dsimp only at this;rw[show(((x % 256).toNat:Nat):Int)=x % 256 from Du]at this;rw[this];omega
def X0{c:Int}:D2 c=true↔(0<=c/\c<55296)\/(57343<c/\c<=1114111):=by simp[D2]
def A74(c:Int):1<=(u8F c).length/\(u8F c).length<=4:=by
 unfold u8F;split
 ·simp
 ·split
  ·simp
  ·split<;>simp
def A4Y{n m b:Nat}(h:A3 m b=true)(hn:n<=m):A3 n b=true:=by
 have:=G4.1 h;exact G4.2 (Ma (Hy b hn) this)
def D52(l:DS)(c:Int)(hr:A3 (l.length+4) 1=true)(hv:D2 c=true)(hc:128<=c)(n:Nat):
  A5 E59 n Tryz.f238 [.sl .u8 l (some 0),.int .i32 c]=some (.one (.sl .u8 (L2 l (u8F c)) (some 0))):=by
 have h:=X0.1 hv;rw[B46,B8j Du Du,A4Y hr (Du:l.length+2<=l.length+4),A4Y hr (Du:l.length+3<=l.length+4),hr];have e6:c / 2^(Ez 6)=c / 64:=rfl;have BY:c / 2^(Ez 12)=c / 4096:=rfl;have wM:c / 2^(Ez 18)=c / 262144:=rfl;rw[e6,BY,wM,txI,txI,txI];unfold u8F L2;rw[Ek Du];by_cases h1:c<2048
 ·rw[Ei (Du:c<=2047),El h1,t2I Du Du];rfl
 rw[Ej (Du:¬c<=2047),Ek h1];by_cases h2:c<65536
 ·rw[El h2,t3I Du Du,Ej (Du:¬c>65535),Ei (Du:c<=65535)];by_cases h3:c<55296
  ·rw[Ei h3];rfl
  ·rw[Ej h3,Ei (Du:57343<c)];rfl
 ·rw[Ek h2,t4I Du Du,Ej (Du:¬c<55296),Ei (Du:57343<c),Ej (Du:¬c<=65535),Ei (Du:c>65535),Ei (Du:c<=1114111)];rfl
def C9O(l:DS)(c:Int)(hr:A3 (l.length+4) 1=true)(hv:D2 c=true)(n:Nat):
  A5 E45 n Tryz.f221 [.sl .u8 l (some 0),.int .i32 c]=some (.one (.sl .u8 (L2 l (u8F c)) (some 0))):=by
 have h:=X0.1 hv;rw[B4K,B8j Du Du,A4Y hr (Du:l.length+1<=l.length+4),hr,hv];by_cases h1:c<128
 ·rw[Ei (Du:c<=127),w8 Du Du];unfold u8F L2;rw[El h1];rfl
 ·rw[Ej (Du:¬c<=127),Ei (Du:128<=c)];rfl
def C7L(c:Int)(n:Nat):A5 E50 n Tryz.f172 [.int .i32 c]=some (.one (.sl .u8 (P3 c) (some 1))):=by
 rw[C6w];unfold P3;cases hv:D2 c with
 |false=>rfl
 |true=>
  have h:=X0.1 hv;have d1:Gm c 64=c / 64:=Kx Du;have d2:Gm c 4096=c / 4096:=Kx Du;have d3:Gm c 262144=c / 262144:=Kx Du;rw[d1,d2,d3,w32 (n:=c / 64) Du Du,w32 (n:=c / 4096) Du Du,w32 (n:=c / 262144) Du Du];have m1:Ge c 64=c % 64:=Jr Du;have m2:Ge (c / 64) 64=c / 64 % 64:=Jr Du;have m3:Ge (c / 4096) 64=c / 4096 % 64:=Jr Du;rw[m1,m2,m3,w32 (n:=128+c % 64) Du Du,w32 (n:=128+c / 64 % 64) Du Du,w32 (n:=128+c / 4096 % 64) Du Du,w32 (n:=192+c / 64) Du Du,w32 (n:=224+c / 4096) Du Du,w32 (n:=240+c / 262144) Du Du,
   w8 (n:=128+c % 64) Du Du,w8 (n:=128+c / 64 % 64) Du Du,w8 (n:=128+c / 4096 % 64) Du Du]
  unfold u8F;show(bif false then _ else _)=_;rw[Eh,El rfl];by_cases h1:c<128
  ·rw[Ei h1,El h1,w8 Du Du];rfl
  rw[Ej h1,Ek h1];by_cases h2:c<2048
  ·rw[Ei h2,El h2,w8 (n:=192+c / 64) Du Du];rfl
  rw[Ej h2,Ek h2];by_cases h3:c<65536
  ·rw[Ei h3,El h3,w8 (n:=224+c / 4096) Du Du];rfl
  ·rw[Ej h3,Ek h3,w8 (n:=240+c / 262144) Du Du];rfl
def flat_u8F_len(l:DS):(l.flatMap u8F).length<=4*l.length:=by
 induction l with
 |nil=>simp
 |cons c l ih=>have:=A74 c;simp only[Gr,Gc,Fm];omega
def C2D(l:DS)(i:Nat)(h:i<=l.length)(hp:(l.take i).all D2=true):(if(l.drop i).all D2 then(B7 l,true)else(([]:DT),false))=J9 l:=by
 unfold J9;have:l.all D2=((l.take i).all D2&&(l.drop i).all D2):=by rw[<-Hb,Kp]
 rw[this,hp,Ml]
def C2p{l:DS}{i:Nat}(h:i<l.length):(l.take (i+1)).flatMap u8F=(l.take i).flatMap u8F++u8F l[i]:=by
 rw[Gq h,Ku];simp
def B9n(l:DS)(i:Nat):((l.take i).flatMap u8F).length<=4*i:=by
 have:=flat_u8F_len (l.take i);have h2:(l.take i).length<=i:=Kq _ _;omega
def C5A(l:DS)(hl:D0 l=true)(n:Nat)(hn:l.length<n):A5 E33 n Je [.sl .i32 l none]=some (.tup [.str (J9 l).1,.bool (J9 l).2]):=by
 have av:=V9.1 hl;rw[C9A];refine(I8 (λi:Nat=>B1V ((l.take i).flatMap u8F) l (l.length:Int) i) (λi=>i<=l.length/\(l.take i).all D2=true) (λi=>l.length - i) (λi=>(some (.tup [.str (J9 l).1,.bool (J9 l).2]):DU)) ?_ n 0 ⟨Fi _,rfl⟩ Du);intro i ⟨hi,hp⟩ K bw bX bf;have dv:=B9n l i;have lK:=C2D l i hi hp;rw[D59];by_cases h:i<l.length
 ·rw[Ei (Du:(i:Int)<(l.length:Int)),Eg,D6 h];dsimp only;rw[Gb h,Fx]at lK;cases hv:D2 l[i]with
  |false=>
   rw[hv]at lK;show(bif true then _ else _)=_;rw[Eg, <-lK];exact(bX _).trans rfl
  |true=>
   show(bif false then _ else(bif _&&true then _ else _))=_;rw[Eh,G4.2 Du,Ph,Eg,J3 Du];unfold L2;rw[<-C2p h];exact bf (i+1) ⟨Du,by rw[Gq h,Hb,hp];simp[hv]⟩ Du
 ·rw[Fl Du]at lK;rw[Ej (Du:¬(i:Int)<(l.length:Int)),Eh,bw,C6I, <-lK,Ga Du];rfl
def D4r(l:DS)(hl:D0 l=true)(n:Nat)(hn:l.length<n):A5 E35 n Jn [.sl .i32 l none]=some (.tup [.str (J9 l).1,.bool (J9 l).2]):=by
 have av:=V9.1 hl;rw[C8p];refine(I8 (λi:Nat=>A99 l ((l.take i).flatMap u8F) i) (λi=>i<=l.length/\(l.take i).all D2=true) (λi=>l.length - i) (λi=>(some (.tup [.str (J9 l).1,.bool (J9 l).2]):DU)) ?_ n 0 ⟨Fi _,rfl⟩ Du);intro i ⟨hi,hp⟩ K bw bX bf;have dv:=B9n l i;have lK:=C2D l i hi hp;rw[D35];by_cases h:i<l.length
 ·rw[Ei (Du:(i:Int)<(l.length:Int)),Eg,D6 h];dsimp only;rw[Gb h,Fx]at lK;unfold P3;cases hv:D2 l[i]with
  |false=>
   rw[hv]at lK;rw[<-lK];exact(bX _).trans rfl
  |true=>
   have hu:=A74 l[i];rw[El rfl,beqF Du,Eh,G4.2 Du,Eg,J3 Du];rw[<-C2p h];exact bf (i+1) ⟨Du,by rw[Gq h,Hb,hp];simp[hv]⟩ Du
 ·rw[Fl Du]at lK;rw[Ej (Du:¬(i:Int)<(l.length:Int)),Eh,bw,D4L, <-lK,Ga Du];rfl
def A1n{i k:Nat}(h:i+k<=9223372036854775807):Ew .i64 ((i:Int)+(k:Int))=((i+k:Nat):Int):=by
 rw[Q5 Du Du];omega
def A9f(l:DS)(i:Nat):K1 (l.drop i)=if l[i]?=some 92/\l[i+1]?=some 117 then E5 (l.drop (i+2))else -1:=by
 unfold K1;rw[Ka,Ka,Ib,Mb]
def D3V{l:DS}(h:l.length<6):K1 l= -1:=by
 unfold K1;split
 ·exact C2h (by rw[Fh];omega)
 ·rfl
def C9P(l:DS)(hl:D0 l=true)(i:Nat)(hi:i<=l.length+12)(n:Nat)(hn:4<n):A5 E48 n Is [.sl .i32 l none,.int .i64 i]=some (.one (.int .i32 (K1 (l.drop i)))):=by
 have av:=A4L hl;rw[D4h,show(6:Int)=((6:Nat):Int)from rfl,A1n Du,show(1:Int)=((1:Nat):Int)from rfl,A1n Du,show(2:Int)=((2:Nat):Int)from rfl,A1n Du];by_cases h:l.length<i+6
 ·rw[Ei (Du:((i+6:Nat):Int)>(l.length:Int)),D3V (by rw[Fh];omega)];rfl
 rw[Ej (Du:¬((i+6:Nat):Int)>(l.length:Int)),D6 Du,A9f,Fw (Du:i<l.length),Fw (Du:i+1<l.length)];dsimp only;rw[D6 Du];dsimp only;by_cases c1:l[i]=92
 ·rw[A0z c1];by_cases c2:l[i+1]=117
  ·rw[A0z c2,El ⟨by rw[c1],by rw[c2]⟩];show C8 _ n _ _=_;have hh:E5 (l.drop (i+2))=A2P 0 ((l.drop (i+2)).take 4):=by unfold E5;rw[Ek (by rw[Fh];omega)]
   rw[hh];obtain⟨m,hm⟩:∃m,(l.drop (i+2)).take 4=m:=⟨_,rfl⟩;have qU:m.length=4:=by rw[<-hm,Gi,Fh];omega
   have aO:∀(j:Nat)(hj:j<4),l[i+2+j]'Du=m[j]'Du:=λj hj=>by subst hm;simp
   rw[hm];refine(I8 (λp:Int×Nat=>B1D l i p.1 ((i+2+p.2:Nat):Int)) (λp=>p.2<=4/\0<=p.1/\p.1<16^p.2) (λp=>4 - p.2) (λp=>(some (.one (.int .i32 (A2P p.1 (m.drop p.2)))):DU)) ?_ n (0,0) Eo Er).trans rfl;rintro⟨a,j⟩ ⟨hj,ha,iU⟩ K bw bX bf;dsimp only at hj ha iU bf ⊢;rw[D3D,show(6:Int)=((6:Nat):Int)from rfl,A1n Du];by_cases aH:j<4
   ·rw[Ei (Du:((i+2+j:Nat):Int)<((i+6:Nat):Int)),Eg,D6 Du];dsimp only;rw[aO j aH,Gb Du,C3f];have hr:=B51 m[j];have hp:(16:Int)^j<=16^3:=by
     have:j=0\/j=1\/j=2\/j=3:=Du
     rcases this with rfl|rfl|rfl|rfl<;>decide
    by_cases hx:O4 m[j]<0
    ·rw[Ei hx,Eg,El hx];exact(bX _).trans rfl
    ·rw[Ej hx,Eh,Ek hx,w32 (n:=a*16) Du Du,w32 (n:=O4 m[j]) Du Du,w32 Du Du,J3 Du];refine bf (a*16+O4 m[j],j+1) ⟨Es,Es,?_⟩ Es;show a*16+O4 m[j]<16^(j+1);rw[Mi];omega
   ·rw[Ej (Du:¬((i+2+j:Nat):Int)<((i+6:Nat):Int)),Eh,bw,C8J,Fl Du];rfl
  ·rw[X4 c2,Ek (λh=>c2 (Hx h.2))];rfl
 ·rw[X4 c1,Ek (λh=>c1 (Hx h.1))];rfl
def D5i(c:Int):(0<=P5 c)↔c=34\/c=92\/c=47\/c=98\/c=102\/c=110\/c=114\/c=116:=by
 unfold P5;constructor
 ·intro h;by_cases h1:c=34\/c=92\/c=47
  ·omega
  ·rw[Ek h1]at h;split at h
   ·omega
   ·split at h
    ·omega
    ·split at h
     ·omega
     ·split at h
      ·omega
      ·split at h<;>omega
 ·intro h;rcases h with rfl|rfl|rfl|rfl|rfl|rfl|rfl|rfl<;>decide
def C5F(l:DS)(i:Nat)(h:i<l.length):J6 (l.drop i)=if A0u l[i]then(l[i],1)else if l[i]=92 then A1Y (l.drop i)else(0,0):=by
 rw[U4 h];rfl
def C66{l:DS}{i:Nat}(h:i+1<l.length):A1Y (l.drop i)=if 0<=P5 l[i+1]then(P5 l[i+1],2)else if l[i+1]=117 then X9 (l.drop (i+2))else(0,0):=by
 rw[U4 (i:=i) Du,U4 (i:=i+1) Du];rfl
def D3q{l:DS}{i:Nat}(h:i+1<l.length)(h1:l[i]=92)(h2:l[i+1]=117):
  K1 (l.drop i)=E5 (l.drop (i+2)):=by
 rw[A9f,Fw (Du:i<l.length),Fw h,h1,h2,El ⟨rfl,rfl⟩]
def D3z{a b:Int}(h:b<56320):O3 a b=(0,false):=by
 unfold O3;rw[El Es]
def C7S{l:DS}{i:Nat}(h:i+2<=l.length)(c1:¬E5 (l.drop (i+2))<0)(c2:55296<=E5 (l.drop (i+2)))(c3:E5 (l.drop (i+2))<=56319):
  X9 (l.drop (i+2))=if(O3 (E5 (l.drop (i+2))) (K1 (l.drop (i+6)))).2 then((O3 (E5 (l.drop (i+2))) (K1 (l.drop (i+6)))).1,12)else(0,0):=by
 have hg:∀k,(l.drop (i+2))[k]?=l[i+2+k]? :=λk=>Ka;rw[C1R _ c1 c2 c3,hg 4,hg 5,Ib,Fh];have e4:i+2+4=i+6:=Du
 have e5:i+2+5=i+6+1:=Du
 have e6:i+2+6=i+6+2:=Du
 rw[e4,e5,e6];have hj:∀b,b<56320->¬(O3 (E5 (l.drop (i+2))) b).2=true:=λb hb=>by rw[D3z hb];simp
 by_cases d:l[i+6]?=some 92/\l[i+6+1]?=some 117
 ·have hu:K1 (l.drop (i+6))=E5 (l.drop (i+6+2)):=by rw[A9f,El d]
  rw[hu];by_cases d3:10<=l.length - (i+2)
  ·by_cases d4:(O3 (E5 (l.drop (i+2))) (E5 (l.drop (i+6+2)))).2=true
   ·rw[El ⟨d3,d.1,d.2,d4⟩,El d4]
   ·rw[Ek (λh=>d4 h.2.2.2),Ek d4]
  ·rw[Ek (λh=>d3 h.1),Ek (hj _ (by rw[C2h (l:=l.drop (i+6+2)) (by rw[Fh];omega)];omega))]
 ·have hu:K1 (l.drop (i+6))= -1:=by rw[A9f,Ek d]
  rw[hu,Ek (λh=>d ⟨h.2.1,h.2.2.1⟩),Ek (hj _ Du)]
def C62(l:DS)(hl:D0 l=true)(i:Nat)(hi:i<l.length)(n:Nat):A5 E34 n Tryz.f235 [.sl .i32 l none,.int .i64 i]=some (.tup [.int .i32 (J6 (l.drop i)).1,.int .i64 (J6 (l.drop i)).2]):=by
 have av:=A4L hl;rw[B5s,D6 hi,C5F l i hi];dsimp only;cases hp:A0u l[i]with
 |true=>rw[El rfl];rfl
 |false=>
  rw[Eh,Ek Eo];by_cases c0:l[i]=92
  ·rw[A0z c0,El c0,show(1:Int)=((1:Nat):Int)from rfl,A1n Du];by_cases h2:l.length<=i+1
   ·rw[Ei (Du:((i+1:Nat):Int)>=(l.length:Int)),B4U (by rw[Fh];omega)];rfl
   ·rw[Ej (Du:¬((i+1:Nat):Int)>=(l.length:Int)),D6 Du,C66 Du];dsimp only;by_cases hs:0<=P5 l[i+1]
    ·rw[Ei (show P5 l[i+1]>=0 from hs),El hs];rfl
    ·have qj:¬(P5 l[i+1]>=0):=hs;rw[Ej qj,Ek hs,hl,show(6:Int)=((6:Nat):Int)from rfl,A1n Du,
      Ei (Du:(0:Int)<=(i:Int)),Ei (Du:(i:Int)<=(l.length:Int)+12),Ei (Du:(0:Int)<=((i+6:Nat):Int)),Ei (Du:((i+6:Nat):Int)<=(l.length:Int)+12),Gv,Gv]
     by_cases nc:l[i+1]=117
     ·rw[El nc,D3q Du c0 nc];by_cases c1:E5 (l.drop (i+2))<0
      ·rw[Ei c1,B5L _ (.inl c1)];rfl
      rw[Ej c1];by_cases c2:56320<=E5 (l.drop (i+2))
      ·by_cases c3:E5 (l.drop (i+2))<=57343
       ·rw[Ei (show E5 (l.drop (i+2))>=56320 from c2),Ei c3,B5L _ (.inr ⟨c2,c3⟩)];rfl
       ·rw[Ei (show E5 (l.drop (i+2))>=56320 from c2),Ej c3,Ei (Du:E5 (l.drop (i+2))>=55296),Ej (Du:¬E5 (l.drop (i+2))<=56319),B3g _ c1 (.inr Du)];rfl
      ·rw[Ej (show¬E5 (l.drop (i+2))>=56320 from c2)];by_cases c3:55296<=E5 (l.drop (i+2))
       ·rw[Ei (show E5 (l.drop (i+2))>=55296 from c3),Ei (Du:E5 (l.drop (i+2))<=56319),C7S Du c1 c3 Du];cases (O3 (E5 (l.drop (i+2))) (K1 (l.drop (i+6)))).2<;>rfl
       ·rw[Ej (show¬E5 (l.drop (i+2))>=55296 from c3),B3g _ c1 (.inl Du)];rfl
     ·rw[Ek nc];have hu:K1 (l.drop i)= -1:=by
       rw[A9f,Fw (Du:i+1<l.length),Ek (λh=>nc (Hx h.2))]
      rw[hu];rfl
  ·rw[X4 c0,Ek c0];rfl
def D4e(l:DS):0<=(X9 l).2/\(X9 l).2<=12:=by
 unfold X9;dsimp only;split
 ·simp
 ·split
  ·simp
  ·split<;>simp
def D18(l:DS):0<=(A1Y l).2/\(A1Y l).2<=12:=by
 by_cases h:l.length<2
 ·rw[B4U h];simp
 ·rw[C3Q 0 l Du];split
  ·simp
  ·split
   ·exact D4e _
   ·simp
def B2q(l:DS):0<=(J6 l).2/\(J6 l).2<=12:=by
 cases l with
 |nil=>simp[J6]
 |cons c r=>
  show 0<=(if A0u c then(c,1)else if c=92 then A1Y (c::r)else((0,0):Int×Int)).2/\(if A0u c then(c,1)else if c=92 then A1Y (c::r)else((0,0):Int×Int)).2<=12;by_cases h:A0u c=true
  ·rw[El h];simp
  ·rw[Ek h];by_cases h2:c=92
   ·rw[El h2];exact D18 _
   ·rw[Ek h2];simp
def C8e:∀(n m:Nat)(l:DS),l.length<=n->l.length<=m->A7m n l=A7m m l:=by
 intro n
 induction n with
 |zero=>
  intro m l h1 h2;have:l=[]:=Ha Du;subst this;cases m<;>rfl
 |succ n ih=>
  intro m l h1 h2;cases l with
  |nil=>cases m<;>rfl
  |cons c r=>
   cases m with
   |zero=>simp at h2
   |succ m=>
    simp only[A7m];split
    ·rfl
    ·rename_i hp;have h3:((c::r).drop (J6 (c::r)).2.toNat).length<=r.length:=by
      rw[Fh,Fm];omega
     rw[ih m _ (by simp at h1;omega) (by simp at h2;omega)]
def B7J:A18 []=some []:=rfl
def C1h{l:DS}(h:l≠[]):A18 l=if(J6 l).2=0 then none else(A18 (l.drop (J6 l).2.toNat)).map ((J6 l).1:: ·):=by
 cases l with
 |nil=>exact absurd rfl h
 |cons c r=>
  have hr:=B2q (c::r)
  conv=>lhs;unfold A18
  simp only[Fm,A7m];by_cases hp:(J6 (c::r)).2=0
  ·rw[El Du,El hp]
  ·rw[Ek Du,Ek hp];unfold A18;rw[C8e r.length _ _ (by rw[Fh,Fm];omega) (Ff _)]
def A3T(out:DS)(o:Option DS):DU:=some (.tup [.str (A50 (o.map (out++ ·))).1,.int .i64 (A50 (o.map (out++ ·))).2])
def D7z(out:DS):A3T out (some [])=some (.tup [.str (J9 out).1,.int .i64 0]):=by simp[A3T,A50]
def C7a(out:DS):A3T out none=some (.tup [.str [],.int .i64 60]):=rfl
def C7e(out:DS)(c:Int)(o:Option DS):A3T out (o.map (c:: ·))=A3T (out++[c]) o:=by
 cases o<;>simp[A3T]
def C5G{l:DS}(hl:D0 l=true){n:Nat}(hn:l.length<n){body:S6->(Ex->S6->DU)->DU}{k:Ex->S6->DU}{st:DS->Int->S6}
  (lM:∀(out:DS)(i:Nat),l.length<=i->D0 out=true->∀K:Ex->S6->DU,(∀j s,K (.exit j) s=k (.exit j) s)->body (st out i) K=some (.tup [.str (J9 out).1,.int .i64 0]))
  (bG:∀(out:DS)(i:Nat),i<l.length->A3 (out.length+1) 4=true->∀K:Ex->S6->DU,(∀s,K .ret s=k .ret s)->
   body (st out i) K=if(J6 (l.drop i)).2=0 then some (.tup [.str [],.int .i64 60])else K .normal (st (out++[(J6 (l.drop i)).1]) ((i+(J6 (l.drop i)).2.toNat:Nat):Int))):
  C8 body n (st [] 0) k=some (.tup [.str (Z3 l).1,.int .i64 (Z3 l).2]):=by
 have av:=V9.1 hl;refine(I8 (λp:DS×Nat=>st p.1 p.2) (λp=>p.1.length<=p.2/\p.1.length<=l.length) (λp=>l.length - p.2) (λp=>A3T p.1 (A18 (l.drop p.2))) ?_ n ([],0) Eo Er).trans (by simp[A3T,Z3]);rintro⟨out,i⟩ ⟨h1,h2⟩ K bw bX bf;dsimp only at h1 h2 bf ⊢;by_cases h:i<l.length
 ·rw[bG out i h (G4.2 Du) K bX];have aC:l.drop i≠[]:=by rw[U4 h];exact List.cons_ne_nil _ _
  have hr:=B2q (l.drop i);rw[C1h aC];by_cases hp:(J6 (l.drop i)).2=0
  ·rw[El hp,El hp,C7a]
  ·rw[Ek hp,Ek hp,C7e,Ib];exact bf (out++[(J6 (l.drop i)).1],i+(J6 (l.drop i)).2.toNat) ⟨Es,Es⟩ Er
 ·rw[lM out i Du (V9.2 Du) K bw,Fl Du,B7J,D7z]
def D2t(l:DS)(hl:D0 l=true)(n:Nat)(hn:l.length<n):A5 E21 n Iz [.sl .i32 l none]=some (.tup [.str (Z3 l).1,.int .i64 (Z3 l).2]):=by
 have av:=V9.1 hl;rw[D51];refine C5G hl hn (st:=λout i=>B0F l out i) (λout i hi dy K bw=>?_) (λout i hi qk K bX=>?_)
 ·rw[C32,Ej (Du:¬(i:Int)<(l.length:Int)),Eh,bw,D5K,dy];rfl
 ·have hr:=B2q (l.drop i);rw[C32,Ei (Du:(i:Int)<(l.length:Int)),hl,Ei (Du:(0:Int)<=(i:Int)),Gv,qk];by_cases hp:(J6 (l.drop i)).2=0
  ·rw[El hp,beqT hp];exact(bX _).trans rfl
  ·rw[Ek hp,beqF hp,Q5 Du Du];have e:(i:Int)+(J6 (l.drop i)).2=((i+(J6 (l.drop i)).2.toNat:Nat):Int):=Du
   rw[e];rfl
def E51:Env Ty6 A4:=mk6 noT noC (lkE [(0,[2]),(1,[0,3,4,5,6,7,8,9,10,11,12,13,14,15,16,17,18,19,20,21,22,23])]) 24
def C6X(n:Nat)(a0:DS):A5 E51 n Tryz.f195 [.sl .i32 a0 none]=
  bif(decide ((Ey a0:Int)>=3))==true then(match idx a0 0 with|none=>none|some y1=>(bif(y1==34)==true then(match idx a0 1 with|none=>none|some y2=>(bif(y2==34)==true then(match idx a0 2 with|none=>none|some y3=>(some (.one (.bool (y3==34)))))else(some (.one (.bool false)))))else(some (.one (.bool false)))))else(some (.one (.bool false))):=by
 kernel_rfl
def E52:Env Ty6 A4:=mk6 noT noC (lkE [(0,[4]),(1,[5,6,7]),(2,[10]),(3,[0,1,8,9]),(4,[8,9,12]),(5,[0,1,11,13,14,15,16,17,18,19,20,21,22,23,24,25]),(6,[0,1,11])]) 26
def C59(n:Nat)(a0:DS)(a1:Int):A5 E52 n Tryz.f218 [.sl .i32 a0 none,.int .i64 a1]=
  match idx a0 a1 with|none=>none|some y1=>(bif y1==10 then(some (.one (.bool true)))else(bif y1==13 then(bif((Ew .i64 (a1+1))==(Ey a0:Int))==false then(match idx a0 (Ew .i64 (a1+1))with|none=>none|some y2=>(some (.one (.bool (y2 !=10)))))else(some (.one (.bool true))))else(some (.one (.bool false))))):=by
 kernel_rfl
def E54:Env Ty6 A4:=mk6 noT noC (lkE [(0,[4]),(1,[0,1,5,6,7,8,9,10,11,12,13,14,15,16,17,18,19,20,21,22,23,24,25,26,27,28,29,30,31,32,33,34,35,36,37,38,39,40])]) 41
def B6Q(n:Nat)(a0:DS)(a1:Int):A5 E54 n Tryz.f239 [.sl .i32 a0 none,.int .i64 a1]=
  bif(decide ((Ew .i64 (a1+3))<(Ey a0:Int)))==true then(match idx a0 a1 with|none=>none|some y1=>(bif(y1==92)==true then(match idx a0 (Ew .i64 (a1+1))with|none=>none|some y2=>(bif(y2==34)==true then(match idx a0 (Ew .i64 (a1+2))with|none=>none|some y3=>(bif(y3==34)==true then(match idx a0 (Ew .i64 (a1+3))with|none=>none|some y4=>(some (.one (.bool (y4==34)))))else(some (.one (.bool false)))))else(some (.one (.bool false)))))else(some (.one (.bool false)))))else(some (.one (.bool false))):=by
 kernel_rfl
def T37:T6:=λf ls=>match f with
 |218=>S52 ls
 |_=>none
def E37:Env Ty6 A4:=mk6 T37 noC (lkE [(0,[2]),(5,[10,11,12,13]),(6,[6,14,15,16,17,26]),(7,[5,19,20,21]),(8,[4,6,18,22,23,24,25]),(10,[18,27,28]),(11,[6,26,29]),(12,[0,3,4,7,8,9,10,30,31,32,33])]) 34
def A7i(x0:DS)(x3:Ef)(x4:DS)(x7:DS)(x8:Int)(x9:Int):S6:=⟨[(0,.one (.sl .i32 x0 none)),(3,.one (.sl .rs x3 (some 103))),(4,.one (.sl .i32 x4 (some 104))),(7,.one (.sl .i32 x7 none)),(8,.one (.int .i64 x8)),(9,.one (.int .i64 x9))],[103,104]⟩
def B5Z(n:Nat)(a0:DS):A5 E37 n Jg [.sl .i32 a0 none]=
  C8 (lbC E37 (A2 Jg [1,1,1,0,1,0,0]) 10004 n) n (A7i a0 [] [] a0 (Ey a0:Int) 0) (A7 0 (C1 (B2 E37 n (A2 Jg [1,1,1,1])) (B3 E37 Tryz.f192.results.toList))):=by
 kernel_rfl
def D0w(n:Nat)(x0:DS)(x3:Ef)(x4:DS)(x7:DS)(x8:Int)(x9:Int)(K:Ex->S6->DU):lbC E37 (A2 Jg [1,1,1,0,1,0,0]) 10004 n (A7i x0 x3 x4 x7 x8 x9) K=
  bif decide (x9<x8)then(match idx x7 x9 with|none=>none|some y1=>(bif D0 x0&&decide (0<=x9)&&decide (x9<(Ey x0:Int))then(bif O2 (Fg (Ez x9) x0)then(bif A3 (Ey x3+1) 24 then(K .normal (A7i x0 (x3++[x4]) [] x7 x8 (Ew .i64 (x9+1))))else none)else(bif y1==13 then(K .normal (A7i x0 x3 x4 x7 x8 (Ew .i64 (x9+1))))else(bif A3 (Ey x4+1) 4 then(K .normal (A7i x0 x3 (x4++[y1]) x7 x8 (Ew .i64 (x9+1))))else none)))else none))else(K (.exit 0) ⟨[(0,.one (.sl .i32 x0 none)),(3,.one (.sl .rs x3 (some 103))),(4,.one (.sl .i32 x4 (some 104))),(7,.one (.sl .i32 x7 none)),(8,.one (.int .i64 x8)),(9,.one (.int .i64 x9)),(10,.one (.bool (decide (x9<x8))))],[103,104]⟩):=by
 kernel_rfl
def D5T(n:Nat)(x0:DS)(x3:Ef)(x4:DS)(x7:DS)(x8:Int)(x9:Int)(aP:Bool):(A7 0 (C1 (B2 E37 n (A2 Jg [1,1,1,1])) (B3 E37 Tryz.f192.results.toList))) (.exit 0) ⟨[(0,.one (.sl .i32 x0 none)),(3,.one (.sl .rs x3 (some 103))),(4,.one (.sl .i32 x4 (some 104))),(7,.one (.sl .i32 x7 none)),(8,.one (.int .i64 x8)),(9,.one (.int .i64 x9)),(10,.one (.bool aP))],[103,104]⟩=
  bif A3 (Ey x3+1) 24 then(some (.one (.sl .rs (x3++[x4]) (some 1))))else none:=by
 kernel_rfl
def T38:T6:=λf ls=>match f with
 |121=>S53 ls
 |239=>S54 ls
 |_=>none
def E38:Env Ty6 A4:=mk6 T38 noC (lkE [(0,[2]),(4,[8,9,10]),(5,[4,11,12,13,14,15,16]),(6,[6,17]),(7,[0,3,5,18]),(8,[18,19,20,21]),(9,[7]),(10,[22]),(12,[23,24]),(13,[22,25,26,27,28]),(14,[29]),(15,[30,31,32]),(16,[30]),(17,[33]),(18,[0,3,4,5,34]),(19,[34,35,36]),(20,[0,3,4,5,11,37,38,39,40,41,42])]) 43
def A7G(x0:DS)(x3:Int)(x4:Int)(x5:Int):S6:=⟨[(0,.one (.sl .i32 x0 none)),(3,.one (.int .i64 x3)),(4,.one (.int .i32 x4)),(5,.one (.int .i64 x5))],[]⟩
def C8o(n:Nat)(a0:DS):A5 E38 n Iw [.sl .i32 a0 none]=
  C8 (lbC E38 (A2 Iw [1,1,1,1,0,0,0]) 10004 n) n (A7G a0 0 0 0) (A7 0 (C1 (B2 E38 n (A2 Iw [1,1,1,1,1])) (B3 E38 Tryz.f232.results.toList))):=by
 kernel_rfl
def C8U(n:Nat)(x0:DS)(x3:Int)(x4:Int)(x5:Int)(K:Ex->S6->DU):lbC E38 (A2 Iw [1,1,1,1,0,0,0]) 10004 n (A7G x0 x3 x4 x5) K=
  bif decide (x5<(Ey x0:Int))then(match idx x0 x5 with|none=>none|some y1=>(bif !(M6 y1)then(K .ret ⟨[(2,.one (.bool false))],[]⟩)else(bif D0 x0&&decide (0<=x5)&&decide (x5<(Ey x0:Int))then(bif M4 (Fg (Ez x5) x0)then(K .normal (A7G x0 0 0 (Ew .i64 (x5+4))))else(match idx x0 x5 with|none=>none|some y2=>(bif y2==34 then(bif(Ew .i64 (x3+1))==3 then(K .ret ⟨[(2,.one (.bool false))],[]⟩)else(K .normal (A7G x0 (Ew .i64 (x3+1)) y2 (Ew .i64 (x5+1)))))else(K .normal (A7G x0 0 y2 (Ew .i64 (x5+1)))))))else none)))else(K (.exit 0) ⟨[(0,.one (.sl .i32 x0 none)),(3,.one (.int .i64 x3)),(4,.one (.int .i32 x4)),(5,.one (.int .i64 x5)),(11,.one (.bool (decide (x5<(Ey x0:Int)))))],[]⟩):=by
 kernel_rfl
def C9h(n:Nat)(x0:DS)(x3:Int)(x4:Int)(x5:Int)(cg:Bool):(A7 0 (C1 (B2 E38 n (A2 Iw [1,1,1,1,1])) (B3 E38 Tryz.f232.results.toList))) (.exit 0) ⟨[(0,.one (.sl .i32 x0 none)),(3,.one (.int .i64 x3)),(4,.one (.int .i32 x4)),(5,.one (.int .i64 x5)),(11,.one (.bool cg))],[]⟩=
  bif(x4 !=34)==true then(some (.one (.bool (x4 !=92))))else(some (.one (.bool false))):=by
 kernel_rfl
def T39:T6:=λf ls=>match f with
 |122=>S55 ls
 |_=>none
def E39:Env Ty6 A4:=mk6 T39 noC (lkE [(0,[2]),(2,[8,9]),(4,[10,11,12]),(5,[14,15]),(6,[13,16,17]),(7,[18,19,20,21]),(8,[22,23,24,25,26,27,28]),(9,[29,30,31,32,33,34,35,36,37,38,39,40,41,42,43,44,45,46,47,48]),(10,[49,50,51]),(11,[22,49,52,53,54,55,56,57,58]),(12,[6,59,60,61,62,63,64,65,66,67]),(13,[7,68,69,70,71]),(14,[0,3,4,5,13,72])]) 73
def A1w(x0:DS)(x3:Ef)(x4:DS)(x5:Int):S6:=⟨[(0,.one (.sl .i32 x0 none)),(3,.one (.sl .rs x3 (some 103))),(4,.one (.sl .i64 x4 (some 1009))),(5,.one (.int .i64 x5))],[103,1009]⟩
def D1a(n:Nat)(a0:DS):A5 E39 n Jd [.sl .i32 a0 none]=
  bif smL a0 then(C8 (lbC E39 (A2 Jd [1,1,1,0,1,0,0]) 10004 n) n (A1w a0 [] (T4 a0) 0) (A7 0 (C1 (B2 E39 n (A2 Jd [1,1,1,1])) (B3 E39 Tryz.f198.results.toList))))else none:=by
 kernel_rfl
def D1Z(n:Nat)(x0:DS)(x3:Ef)(x4:DS)(x5:Int)(K:Ex->S6->DU):lbC E39 (A2 Jd [1,1,1,0,1,0,0]) 10004 n (A1w x0 x3 x4 x5) K=
  bif decide (x5<(Ey x4:Int))then(bif decide ((Ew .i64 (x5+1))<(Ey x4:Int))then(match idx x4 (Ew .i64 (x5+1))with|none=>none|some y1=>(match idx x0 (Ew .i64 (y1 - 1))with|none=>none|some y2=>(bif(y2==10)==true then(match idx x4 x5 with|none=>none|some y3=>(bif(decide ((Ew .i64 (y1 - 1))>y3))==true then(match idx x0 (Ew .i64 ((Ew .i64 (y1 - 1)) - 1))with|none=>none|some y4=>(bif y4==13 then(match idx x4 x5 with|none=>none|some y5=>(bif decide (0<=(Ew .i64 ((Ew .i64 ((Ew .i64 (y1 - 1)) - 1)) - y5)))&&A3 (Ez (Ew .i64 ((Ew .i64 ((Ew .i64 (y1 - 1)) - 1)) - y5))) 4 then(match idx x4 x5 with|none=>none|some y6=>(match sub x0 y6 (Ew .i64 ((Ew .i64 (y1 - 1)) - 1))with|none=>none|some y7=>(bif A3 (0+Ey y7) 4 then(bif A3 (Ey x3+1) 24 then(K .normal (A1w x0 (x3++[y7]) x4 (Ew .i64 (x5+1))))else none)else none)))else none))else(match idx x4 x5 with|none=>none|some y8=>(bif decide (0<=(Ew .i64 ((Ew .i64 (y1 - 1)) - y8)))&&A3 (Ez (Ew .i64 ((Ew .i64 (y1 - 1)) - y8))) 4 then(match idx x4 x5 with|none=>none|some y9=>(match sub x0 y9 (Ew .i64 (y1 - 1))with|none=>none|some gf=>(bif A3 (0+Ey gf) 4 then(bif A3 (Ey x3+1) 24 then(K .normal (A1w x0 (x3++[gf]) x4 (Ew .i64 (x5+1))))else none)else none)))else none))))else(match idx x4 x5 with|none=>none|some hJ=>(bif decide (0<=(Ew .i64 ((Ew .i64 (y1 - 1)) - hJ)))&&A3 (Ez (Ew .i64 ((Ew .i64 (y1 - 1)) - hJ))) 4 then(match idx x4 x5 with|none=>none|some jJ=>(match sub x0 jJ (Ew .i64 (y1 - 1))with|none=>none|some og=>(bif A3 (0+Ey og) 4 then(bif A3 (Ey x3+1) 24 then(K .normal (A1w x0 (x3++[og]) x4 (Ew .i64 (x5+1))))else none)else none)))else none))))else(match idx x4 x5 with|none=>none|some lO=>(bif decide (0<=(Ew .i64 ((Ew .i64 (y1 - 1)) - lO)))&&A3 (Ez (Ew .i64 ((Ew .i64 (y1 - 1)) - lO))) 4 then(match idx x4 x5 with|none=>none|some sW=>(match sub x0 sW (Ew .i64 (y1 - 1))with|none=>none|some qC=>(bif A3 (0+Ey qC) 4 then(bif A3 (Ey x3+1) 24 then(K .normal (A1w x0 (x3++[qC]) x4 (Ew .i64 (x5+1))))else none)else none)))else none)))))else(match idx x4 x5 with|none=>none|some qD=>(bif decide (0<=(Ew .i64 ((Ey x0:Int) - qD)))&&A3 (Ez (Ew .i64 ((Ey x0:Int) - qD))) 4 then(match idx x4 x5 with|none=>none|some py=>(match sub x0 py (Ey x0:Int)with|none=>none|some zo=>(bif A3 (0+Ey zo) 4 then(bif A3 (Ey x3+1) 24 then(K .normal (A1w x0 (x3++[zo]) x4 (Ew .i64 (x5+1))))else none)else none)))else none)))else(K (.exit 0) ⟨[(0,.one (.sl .i32 x0 none)),(3,.one (.sl .rs x3 (some 103))),(4,.one (.sl .i64 x4 (some 1009))),(5,.one (.int .i64 x5)),(13,.one (.bool (decide (x5<(Ey x4:Int)))))],[103,1009]⟩):=by
 kernel_rfl
def D70(n:Nat)(x0:DS)(x3:Ef)(x4:DS)(x5:Int)(bN:Bool):(A7 0 (C1 (B2 E39 n (A2 Jd [1,1,1,1])) (B3 E39 Tryz.f198.results.toList))) (.exit 0) ⟨[(0,.one (.sl .i32 x0 none)),(3,.one (.sl .rs x3 (some 103))),(4,.one (.sl .i64 x4 (some 1009))),(5,.one (.int .i64 x5)),(13,.one (.bool bN))],[103,1009]⟩=
  some (.one (.sl .rs x3 (some 1))):=by
 kernel_rfl
def T40:T6:=λf ls=>match f with
 |239=>S54 ls
 |_=>none
def E40:Env Ty6 A4:=mk6 T40 noC (lkE [(0,[2]),(3,[6,7,8]),(4,[9,10,11,12]),(5,[5]),(6,[13,14,15]),(7,[16,17,18]),(8,[19,20]),(9,[13,21,22,23,24,25,26,27]),(10,[28,29]),(11,[0,3,4,9,30])]) 31
def A52(x0:DS)(x3:DS)(x4:Int):S6:=⟨[(0,.one (.sl .i32 x0 none)),(3,.one (.sl .i32 x3 (some 103))),(4,.one (.int .i64 x4))],[103]⟩
def D1P(n:Nat)(a0:DS):A5 E40 n Iv [.sl .i32 a0 none]=
  C8 (lbC E40 (A2 Iv [1,1,1,0,0,0]) 10003 n) n (A52 a0 [] 0) (A7 0 (C1 (B2 E40 n (A2 Iv [1,1,1,1])) (B3 E40 Tryz.f233.results.toList))):=by
 kernel_rfl
def D1x(n:Nat)(x0:DS)(x3:DS)(x4:Int)(K:Ex->S6->DU):lbC E40 (A2 Iv [1,1,1,0,0,0]) 10003 n (A52 x0 x3 x4) K=
  bif decide (x4<(Ey x0:Int))then(bif D0 x0&&decide (0<=x4)&&decide (x4<(Ey x0:Int))then(bif M4 (Fg (Ez x4) x0)then(bif A3 (Ey x3+3) 4 then(K .normal (A52 x0 (x3++[34,34,34]) (Ew .i64 ((Ew .i64 (x4+1))+3))))else none)else(match idx x0 x4 with|none=>none|some y1=>(bif A3 (Ey x3+1) 4 then(K .normal (A52 x0 (x3++[y1]) (Ew .i64 (x4+1))))else none)))else none)else(K (.exit 0) ⟨[(0,.one (.sl .i32 x0 none)),(3,.one (.sl .i32 x3 (some 103))),(4,.one (.int .i64 x4)),(9,.one (.bool (decide (x4<(Ey x0:Int)))))],[103]⟩):=by
 kernel_rfl
def D4a(n:Nat)(x0:DS)(x3:DS)(x4:Int)(x9:Bool):(A7 0 (C1 (B2 E40 n (A2 Iv [1,1,1,1])) (B3 E40 Tryz.f233.results.toList))) (.exit 0) ⟨[(0,.one (.sl .i32 x0 none)),(3,.one (.sl .i32 x3 (some 103))),(4,.one (.int .i64 x4)),(9,.one (.bool x9))],[103]⟩=
  some (.one (.sl .i32 x3 (some 1))):=by
 kernel_rfl
def E55:Env Ty6 A4:=mk6 noT noC (lkE [(0,[2]),(1,[5]),(3,[6,7,8]),(4,[10,11,23,43]),(5,[9,12,13,14,15,16,17,18,19,20,21,22]),(6,[23,24,25,26,27,28,29,30,31,32,33,34,35,36,37,38,39,40,41,42]),(7,[43,44,45,46,47,48]),(8,[0,3,4,9,49])]) 50
def Z8(x0:DS)(x3:DS)(x4:Int):S6:=⟨[(0,.one (.sl .i32 x0 none)),(3,.one (.sl .i64 x3 (some 105))),(4,.one (.int .i64 x4))],[105]⟩
def B22(n:Nat)(a0:DS):A5 E55 n Jo [.sl .i32 a0 none]=
  C8 (lbC E55 (A2 Jo [1,1,0,1,0,0]) 10003 n) n (Z8 a0 [0] 0) (A7 0 (C1 (B2 E55 n (A2 Jo [1,1,1])) (B3 E55 Tryz.f122.results.toList))):=by
 kernel_rfl
def D1J(n:Nat)(x0:DS)(x3:DS)(x4:Int)(K:Ex->S6->DU):lbC E55 (A2 Jo [1,1,0,1,0,0]) 10003 n (Z8 x0 x3 x4) K=
  bif decide (x4<(Ey x0:Int))then(match idx x0 x4 with|none=>none|some y1=>(bif(y1 !=13)==true then(match idx x0 x4 with|none=>none|some y2=>(bif y2 !=10 then(K .normal (Z8 x0 x3 (Ew .i64 (x4+1))))else(match idx x0 x4 with|none=>none|some y3=>(bif(y3==13)==true then(bif(decide ((Ew .i64 (x4+1))<(Ey x0:Int)))==true then(match idx x0 (Ew .i64 (x4+1))with|none=>none|some y4=>(bif y4==10 then(K .normal (Z8 x0 x3 (Ew .i64 (x4+1))))else(bif A3 (Ey x3+1) 8 then(K .normal (Z8 x0 (x3++[Ew .i64 (x4+1)]) (Ew .i64 (x4+1))))else none)))else(bif A3 (Ey x3+1) 8 then(K .normal (Z8 x0 (x3++[Ew .i64 (x4+1)]) (Ew .i64 (x4+1))))else none))else(bif A3 (Ey x3+1) 8 then(K .normal (Z8 x0 (x3++[Ew .i64 (x4+1)]) (Ew .i64 (x4+1))))else none)))))else(match idx x0 x4 with|none=>none|some y5=>(bif(y5==13)==true then(bif(decide ((Ew .i64 (x4+1))<(Ey x0:Int)))==true then(match idx x0 (Ew .i64 (x4+1))with|none=>none|some y6=>(bif y6==10 then(K .normal (Z8 x0 x3 (Ew .i64 (x4+1))))else(bif A3 (Ey x3+1) 8 then(K .normal (Z8 x0 (x3++[Ew .i64 (x4+1)]) (Ew .i64 (x4+1))))else none)))else(bif A3 (Ey x3+1) 8 then(K .normal (Z8 x0 (x3++[Ew .i64 (x4+1)]) (Ew .i64 (x4+1))))else none))else(bif A3 (Ey x3+1) 8 then(K .normal (Z8 x0 (x3++[Ew .i64 (x4+1)]) (Ew .i64 (x4+1))))else none)))))else(K (.exit 0) ⟨[(0,.one (.sl .i32 x0 none)),(3,.one (.sl .i64 x3 (some 105))),(4,.one (.int .i64 x4)),(9,.one (.bool (decide (x4<(Ey x0:Int)))))],[105]⟩):=by
 kernel_rfl
def D0S(n:Nat)(x0:DS)(x3:DS)(x4:Int)(x9:Bool):(A7 0 (C1 (B2 E55 n (A2 Jo [1,1,1])) (B3 E55 Tryz.f122.results.toList))) (.exit 0) ⟨[(0,.one (.sl .i32 x0 none)),(3,.one (.sl .i64 x3 (some 105))),(4,.one (.int .i64 x4)),(9,.one (.bool x9))],[105]⟩=
  some (.one (.sl .i64 x3 (some 1))):=by
 kernel_rfl
def T23:T6:=λf ls=>match f with
 |125=>S35 ls
 |198=>S39 ls
 |232=>S38 ls
 |233=>S40 ls
 |234=>S16 ls
 |_=>none
def E23:Env Ty6 A4:=mk6 T23 noC (lkE [(0,[2,3]),(1,[14,15]),(2,[4,16]),(3,[0,17]),(4,[0,17,18,19]),(7,[20,21,22]),(8,[24,25]),(9,[23,26,27,28,29,30]),(10,[8,31,32,33,34]),(11,[5,6,7,23,35,36]),(14,[37,38,39]),(15,[41,42]),(16,[40,43]),(17,[44,45,46,47]),(18,[44,48,49,50,51,52,53]),(19,[9,10,11,13,40,54,55,56,57,58]),(20,[12,59])]) 60
def B2h(x5:Ef)(x6:Ef)(x7:Int):S6:=⟨[(5,.one (.sl .rs x5 (some 1019))),(6,.one (.sl .rs x6 (some 106))),(7,.one (.int .i64 x7))],[106,1019]⟩
def A9c(x9:Ef)(aP:DS)(cg:Int):S6:=⟨[(9,.one (.sl .rs x9 none)),(10,.one (.sl .i32 aP (some 110))),(11,.one (.int .i64 cg))],[110]⟩
def C7G(n:Nat)(a0:DS):A5 E23 n Gj [.sl .i32 a0 none]=
  bif smL a0 then(bif !(A8e 0 a0)then(some (.tup [.str [],.int .i64 60]))else(bif smL a0 then(C8 (lbC E23 (A2 Gj [1,1,1,1,1,0,1,0,0]) 10007 n) n (B2h (B5 a0) [] 0) (A7 0 (C1 (B2 E23 n (A2 Gj [1,1,1,1,1,1])) (B3 E23 Tryz.f212.results.toList))))else none))else none:=by
 kernel_rfl
def C8s(n:Nat)(x5:Ef)(x6:Ef)(x7:Int)(K:Ex->S6->DU):lbC E23 (A2 Gj [1,1,1,1,1,0,1,0,0]) 10007 n (B2h x5 x6 x7) K=
  bif decide (x7<(Ey x5:Int))then(match idx x5 x7 with|none=>none|some y1=>(bif smL y1 then(bif A3 (Ey x6+1) 24 then(K .normal (B2h x5 (x6++[E2 y1]) (Ew .i64 (x7+1))))else none)else none))else(K (.exit 0) ⟨[(5,.one (.sl .rs x5 (some 1019))),(6,.one (.sl .rs x6 (some 106))),(7,.one (.int .i64 x7)),(23,.one (.bool (decide (x7<(Ey x5:Int)))))],[106,1019]⟩):=by
 kernel_rfl
def C54(n:Nat)(x5:Ef)(x6:Ef)(x7:Int)(eY:Bool):(A7 0 (C1 (B2 E23 n (A2 Gj [1,1,1,1,1,1])) (B3 E23 Tryz.f212.results.toList))) (.exit 0) ⟨[(5,.one (.sl .rs x5 (some 1019))),(6,.one (.sl .rs x6 (some 106))),(7,.one (.int .i64 x7)),(23,.one (.bool eY))],[106,1019]⟩=
  bif M3 x6 then(C8 (lbC E23 (A2 Gj [1,1,1,1,1,1,1,1,0,1,0,0]) 10014 n) n (A9c (K0 x6) [] 0) (A7 2 (C1 (B2 E23 n (A2 Gj [1,1,1,1,1,1,1,1,1])) (B3 E23 Tryz.f212.results.toList))))else none:=by
 kernel_rfl
def B9U(n:Nat)(x9:Ef)(aP:DS)(cg:Int)(K:Ex->S6->DU):lbC E23 (A2 Gj [1,1,1,1,1,1,1,1,0,1,0,0]) 10014 n (A9c x9 aP cg) K=
  bif decide (cg<(Ey x9:Int))then(bif decide (cg>0)then(bif A3 (Ey aP+1) 4 then(match idx x9 cg with|none=>none|some y2=>(bif A3 (Ey (aP++[10])+Ey y2) 4 then(K .normal (A9c x9 ((aP++[10])++y2) (Ew .i64 (cg+1))))else none))else none)else(match idx x9 cg with|none=>none|some y3=>(bif A3 (Ey aP+Ey y3) 4 then(K .normal (A9c x9 (aP++y3) (Ew .i64 (cg+1))))else none)))else(K (.exit 2) ⟨[(9,.one (.sl .rs x9 none)),(10,.one (.sl .i32 aP (some 110))),(11,.one (.int .i64 cg)),(40,.one (.bool (decide (cg<(Ey x9:Int)))))],[110]⟩):=by
 kernel_rfl
def D3H(n:Nat)(x9:Ef)(aP:DS)(cg:Int)(sX:Bool):(A7 2 (C1 (B2 E23 n (A2 Gj [1,1,1,1,1,1,1,1,1])) (B3 E23 Tryz.f212.results.toList))) (.exit 2) ⟨[(9,.one (.sl .rs x9 none)),(10,.one (.sl .i32 aP (some 110))),(11,.one (.int .i64 cg)),(40,.one (.bool sX))],[110]⟩=
  bif D0 aP then(some (.tup [.str ((J9 aP).1),.int .i64 0]))else none:=by
 kernel_rfl
def A5a{l:DS}:M4 l=true↔∃r,l=92::34::34::34::r:=by
 constructor
 ·intro h;unfold M4 at h;split at h
  ·exact⟨_,rfl⟩
  ·cases h
 ·rintro⟨r,rfl⟩;rfl
def B4G{c:Int}{r:DS}(h:M4 (c::r)=false):E2 (c::r)=c::E2 r:=by
 conv=>lhs;unfold E2
 split
 ·rename_i cb;rw[cb]at h;cases h
 ·rename_i cb;cases cb;rfl
 ·rename_i cb;cases cb
def A95{c:Int}{r:DS}(h:M4 (c::r)=false):T1 (c::r)=if !M6 c||K3 (c::r)then false else T1 r:=by
 conv=>lhs;unfold T1
 split
 ·rename_i cb;rw[cb]at h;cases h
 ·rename_i cb;cases cb;rfl
 ·rename_i cb;cases cb
def D23{c x:Int}{r:DS}(h:M4 (c::r)=false):A0e x (c::r)=A0e c r:=by
 conv=>lhs;unfold A0e
 split
 ·rename_i cb;rw[cb]at h;cases h
 ·rename_i cb;cases cb;rfl
 ·rename_i cb;cases cb
def B8B(r:DS):E2 (92::34::34::34::r)=34::34::34::E2 r:=rfl
def C6G(r:DS):T1 (92::34::34::34::r)=T1 r:=rfl
def C8d(x:Int)(r:DS):A0e x (92::34::34::34::r)=A0e 0 r:=rfl
def A1R{l:DS}:K3 l=true↔∃r,l=34::34::34::r:=by
 constructor
 ·intro h;unfold K3 at h;split at h
  ·exact⟨_,rfl⟩
  ·cases h
 ·rintro⟨r,rfl⟩;rfl
def B27{l:DS}(h:3<=l.length):K3 l=(l[0]==34&&(l[1]==34&&l[2]==34)):=by
 match l,h with
 |a::b::c::r,_=>
  show K3 (a::b::c::r)=(a==34&&(b==34&&c==34));cases h:(a==34&&(b==34&&c==34))with
  |true=>
   simp only[Fs,beq_iff_eq]at h;obtain⟨rfl,rfl,rfl⟩:=h;rfl
  |false=>
   cases hq:K3 (a::b::c::r)with
   |false=>rfl
   |true=>
    obtain⟨r',hr⟩:=A1R.1 hq;simp only[Fp]at hr;obtain⟨rfl,rfl,rfl,_⟩:=hr;simp at h
def C0S{l:DS}(h:l.length<3):K3 l=false:=by
 cases hq:K3 l with
 |false=>rfl
 |true=>obtain⟨r,rfl⟩:=A1R.1 hq;simp at h;omega
def B0L(c:Int)(r:DS):M4 (c::r)=(c==92&&K3 r):=by
 cases h:(c==92&&K3 r)with
 |true=>
  simp only[Fs,beq_iff_eq]at h;obtain⟨rfl,h2⟩:=h;obtain⟨r',rfl⟩:=A1R.1 h2;rfl
 |false=>
  cases hq:M4 (c::r)with
  |false=>rfl
  |true=>
   obtain⟨r',hr⟩:=A5a.1 hq;simp only[Fp]at hr;obtain⟨rfl,rfl⟩:=hr;simp[K3]at h
def C8Y(l:DS)(hl:D0 l=true)(n:Nat):A5 E51 n Tryz.f195 [.sl .i32 l none]=some (.one (.bool (K3 l))):=by
 have av:=A4L hl;rw[C6X];by_cases h:l.length<3
 ·rw[Ej (Du:¬(l.length:Int)>=3),C0S h];rfl
 ·rw[Ei (Du:(l.length:Int)>=3),B27 Du,show(0:Int)=((0:Nat):Int)from rfl,show(1:Int)=((1:Nat):Int)from rfl,show(2:Int)=((2:Nat):Int)from rfl,D6 Du,D6 Du,D6 Du];dsimp only;cases l[0]==34<;>cases l[1]==34<;>rfl
def C0R{l:DS}{i:Nat}(h:i<l.length):O2 (l.drop i)=if l[i]=10 then true else if l[i]=13 then !(l[i+1]? ==some 10)else false:=by
 rw[U4 h];by_cases h1:l[i]=10
 ·rw[h1];rfl
 ·rw[Ek h1];by_cases h2:l[i]=13
  ·rw[h2,El rfl];show(!((l.drop (i+1)).head? ==some 10))=_;rw[List.head?_drop]
  ·rw[Ek h2];unfold O2;split
   ·rename_i cb;simp only[Fp]at cb;exact absurd cb.1 h1
   ·rename_i cb;simp only[Fp]at cb;exact absurd cb.1 h2
   ·rfl
def D0p(l:DS)(hl:D0 l=true)(i:Nat)(hi:i<l.length)(n:Nat):A5 E52 n Tryz.f218 [.sl .i32 l none,.int .i64 i]=some (.one (.bool (O2 (l.drop i)))):=by
 have av:=A4L hl;rw[C59,D6 hi,C0R hi,J3 Du];dsimp only;by_cases h1:l[i]=10
 ·rw[beqT h1,El h1];rfl
 ·rw[beqF h1,Ek h1];by_cases h2:l[i]=13
  ·rw[beqT h2,El h2];by_cases h3:i+1=l.length
   ·rw[beqT (Du:((i+1:Nat):Int)=(l.length:Int)),Ks Du];rfl
   ·rw[beqF (Du:((i+1:Nat):Int)≠(l.length:Int)),D6 Du,Fw Du];show some (Ent.one (Leaf.bool (l[i+1] !=10)))=some (Ent.one (Leaf.bool (!(some l[i+1]==some 10))));rfl
  ·rw[beqF h2,Ek h2];rfl
def C6j{l:DS}{i:Nat}(h:i+3<l.length):M4 (l.drop i)=(l[i]==92&&(l[i+1]==34&&(l[i+2]==34&&l[i+3]==34))):=by
 rw[U4 (i:=i) Du,B0L,B27 (by rw[Fh];omega)];have e0:(l.drop (i+1))[0]'(by rw[Fh];omega)=l[i+1]:=Eo
 have e1:(l.drop (i+1))[1]'(by rw[Fh];omega)=l[i+2]:=Eo
 have e2:(l.drop (i+1))[2]'(by rw[Fh];omega)=l[i+3]:=Eo
 rw[e0,e1,e2]
def C7w{l:DS}{i:Nat}(h:l.length<=i+3):M4 (l.drop i)=false:=by
 cases hq:M4 (l.drop i)with
 |false=>rfl
 |true=>
  obtain⟨r,hr⟩:=A5a.1 hq;have:=congrArg Ey hr;simp at this;omega
def D3Q(l:DS)(hl:D0 l=true)(i:Nat)(hi:i<l.length)(n:Nat):A5 E54 n Tryz.f239 [.sl .i32 l none,.int .i64 i]=some (.one (.bool (M4 (l.drop i)))):=by
 have av:=A4L hl;rw[B6Q,show(3:Int)=((3:Nat):Int)from rfl,A1n Du,J3 Du,show(2:Int)=((2:Nat):Int)from rfl,A1n Du,D6 hi];by_cases h:i+3<l.length
 ·rw[Ei (Du:((i+3:Nat):Int)<(l.length:Int)),C6j h,D6 Du,D6 Du,D6 Du];dsimp only;cases l[i]==92<;>cases l[i+1]==34<;>cases l[i+2]==34<;>rfl
 ·rw[Ej (Du:¬((i+3:Nat):Int)<(l.length:Int)),C7w Du];rfl
def A0w{l:DS}(h:smL l=true):l.length<=1073741824:=by simpa [smL]using h
def A8m{l:DS}:smL l=true↔l.length<=1073741824:=by simp[smL]
def A9o{l:DS}(h:smL l=true):D0 l=true:=V9.2 (by have:=A0w h;omega)
def B3A(l:DS):(E2 l).length<=l.length:=by
 fun_induction E2 l with
 |case1 r ih=>simp;omega
 |case2 c r h ih=>simp;omega
 |case3=>simp
def D4M(x:Int):A3Z x=if x=34 then false else !(x==92):=by
 unfold A3Z;by_cases h:x=34
 ·rw[beqT h,El h];rfl
 ·rw[beqF h,Ek h];simp
def C6H(l:DS)(hl:smL l=true)(n:Nat)(hn:l.length<n):A5 E40 n Iv [.sl .i32 l none]=some (.one (.sl .i32 (E2 l) (some 1))):=by
 have av:=A0w hl;have h4:=A9o hl;rw[D1P];refine(I8 (λp:DS×Nat=>A52 l p.1 p.2) (λp=>p.1.length<=p.2/\p.2<=l.length+4) (λp=>l.length - p.2) (λp=>(some (.one (.sl .i32 (p.1++E2 (l.drop p.2)) (some 1))):DU)) ?_ n ([],0) Eo Er).trans Eo;rintro⟨out,i⟩ ⟨h1,h2⟩ K bw bX bf;dsimp only at h1 h2 bf ⊢;rw[D1x];by_cases h:i<l.length
 ·rw[Ei (Du:(i:Int)<(l.length:Int)),Eg,h4,Ei (Du:(0:Int)<=(i:Int)),Gv,G4.2 Du,D6 h,G4.2 Du,J3 Du];have hd:=U4 h;cases he:M4 (l.drop i)with
  |true=>
   obtain⟨r,hr⟩:=A5a.1 he;have rC:l.drop (i+4)=r:=by
    have:=congrArg (Fg 4) hr;simpa using this
   have hw:Ew .i64 (((i+1:Nat):Int)+3)=((i+4:Nat):Int):=by
    rw[Q5 Du Du];omega
   rw[hw];have pz:=bf (out++[34,34,34],i+4) ⟨Es,Er⟩ Er;refine Gy (b:=K .normal (A52 l (out++[34,34,34]) ((i+4:Nat):Int))) rfl (pz.trans ?_);dsimp only;rw[rC,hr,B8B];simp
  |false=>
   have pz:=bf (out++[l[i]],i+1) ⟨Es,Er⟩ Er;refine Gy (b:=K .normal (A52 l (out++[l[i]]) ((i+1:Nat):Int))) rfl (pz.trans ?_);dsimp only;rw[hd]at he ⊢;rw[B4G he];simp
 ·rw[Ej (Du:¬(i:Int)<(l.length:Int)),Eh,bw,D4a,Fl Du,show E2 []=[]from rfl,Fu]
def B1A(r:DS):T1 (34::r)=if K3 (34::r)then false else T1 r:=by
 rw[A95 (by rw[B0L];rfl),show M6 34=true from Ep];simp
def C30{c:Int}{r:DS}(h:c≠34):K3 (34::c::r)=false:=by
 cases hq:K3 (34::c::r)with
 |false=>rfl
 |true=>obtain⟨r',hr⟩:=A1R.1 hq;simp only[Fp]at hr;exact absurd hr.2.1 h
def D3p{c:Int}{r:DS}(h:c≠34):K3 (34::34::c::r)=false:=by
 cases hq:K3 (34::34::c::r)with
 |false=>rfl
 |true=>obtain⟨r',hr⟩:=A1R.1 hq;simp only[Fp]at hr;exact absurd hr.2.2.1 h
def A4P(q:Nat)(l:DS):Bool:=T1 (List.replicate q 34++l)
def B3p{q:Nat}(hq:q<=2){c:Int}{r:DS}(h:c≠34):A4P q (c::r)=T1 (c::r):=by
 have:q=0\/q=1\/q=2:=Du
 rcases this with rfl|rfl|rfl
 ·rfl
 ·show T1 (34::c::r)=_;rw[B1A,C30 h];rfl
 ·show T1 (34::34::c::r)=_;rw[B1A,D3p h,Ek Eo,B1A,C30 h];rfl
def C9p(q:Nat)(r:DS):A4P q (34::r)=A4P (q+1) r:=by
 unfold A4P;rw[List.replicate_succ',Jq];rfl
def D3e(r:DS):A4P 3 r=false:=by
 show T1 (34::34::34::r)=_;rw[B1A,show K3 (34::34::34::r)=true from rfl];rfl
def C8i{q:Nat}(hq:q<=2):A4P q []=true:=by
 have:q=0\/q=1\/q=2:=Du
 rcases this with rfl|rfl|rfl<;>decide
def D0L(l:DS)(hl:smL l=true)(n:Nat)(hn:l.length<n):A5 E38 n Iw [.sl .i32 l none]=some (.one (.bool (A8e 0 l))):=by
 have av:=A0w hl;have h4:=A9o hl;rw[C8o];refine(I8 (λp:Nat×Int×Nat=>A7G l p.1 p.2.1 p.2.2) (λp=>p.1<=2/\p.2.2<=l.length+4) (λp=>l.length - p.2.2) (λp=>(some (.one (.bool (A4P p.1 (l.drop p.2.2)&&A3Z (A0e p.2.1 (l.drop p.2.2))))):DU)) ?_ n (0,0,0) Eo Er);rintro⟨q,last,i⟩ ⟨h1,h2⟩ K bw bX bf;dsimp only at h1 h2 bf ⊢;rw[C8U];by_cases h:i<l.length
 ·rw[Ei (Du:(i:Int)<(l.length:Int)),Eg,D6 h,h4,Ei (Du:(0:Int)<=(i:Int)),Gv,J3 Du,J3 Du];have hw:Ew .i64 ((i:Int)+4)=((i+4:Nat):Int):=by
   rw[Q5 Du Du];omega
  rw[hw];dsimp only;have hd:=U4 h;cases hs:M6 l[i]with
  |false=>
   have hc:l[i]≠34:=λe=>by rw[e]at hs;exact absurd hs Ep
   have he:M4 (l[i]::l.drop (i+1))=false:=by
    rw[B0L];by_cases e:l[i]=92
    ·rw[e]at hs;exact absurd hs Ep
    ·rw[beqF e];rfl
   rw[hd,B3p h1 hc,A95 he,hs];exact(bX _).trans rfl
  |true=>
   cases he:M4 (l.drop i)with
   |true=>
    obtain⟨r,hr⟩:=A5a.1 he;have rC:l.drop (i+4)=r:=by
     have:=congrArg (Fg 4) hr;simpa using this
    refine(bf (0,0,i+4) ⟨Eo,Er⟩ Er).trans ?_;dsimp only;rw[rC,hr,B3p h1 Ep,C6G,C8d];rfl
   |false=>
    rw[hd]at he ⊢;rw[D23 he];by_cases hc:l[i]=34
    ·rw[beqT hc,hc,C9p];by_cases hq:q=2
     ·subst hq;rw[D3e];exact(bX _).trans rfl
     ·rw[beqF (Du:((q+1:Nat):Int)≠3)];exact bf (q+1,34,i+1) ⟨Er,Er⟩ Er
    ·rw[beqF hc];refine(bf (0,l[i],i+1) ⟨Eo,Er⟩ Er).trans ?_;dsimp only;have hq:K3 (l[i]::l.drop (i+1))=false:=by
      cases hq:K3 (l[i]::l.drop (i+1))with
      |false=>rfl
      |true=>obtain⟨r',hr⟩:=A1R.1 hq;simp only[Fp]at hr;exact absurd hr.1 hc
     rw[B3p h1 hc,A95 he,hs,hq];rfl
 ·rw[Ej (Du:¬(i:Int)<(l.length:Int)),Eh,bw,C9h,Fl Du,C8i h1,show A0e last []=last from rfl,D4M];by_cases hq:last=34
  ·rw[A0z hq,El hq];rfl
  ·rw[X4 hq,Ek hq];rfl
def X8(cur:DS)(c:Int)(r:DS):I5 cur (c::r)=if O2 (c::r)then cur::I5 [] r else if c=13 then I5 cur r else I5 (cur++[c]) r:=rfl
def D3B(l:DS)(hl:smL l=true)(n:Nat)(hn:l.length<n):A5 E37 n Jg [.sl .i32 l none]=some (.one (.sl .rs (B5 l) (some 1))):=by
 have av:=A0w hl;have h4:=A9o hl;rw[B5Z];refine(I8 (λp:List (DS)×DS×Nat=>A7i l p.1 p.2.1 l (l.length:Int) p.2.2) (λp=>p.1.length<=p.2.2/\p.2.1.length<=p.2.2/\p.2.2<=l.length) (λp=>l.length - p.2.2) (λp=>(some (.one (.sl .rs (p.1++I5 p.2.1 (l.drop p.2.2)) (some 1))):DU)) ?_ n ([],[],0) Eo Er).trans rfl;rintro⟨all,cur,i⟩ ⟨h1,h2,h3⟩ K bw bX bf;dsimp only at h1 h2 h3 bf ⊢;rw[D0w];by_cases h:i<l.length
 ·rw[Ei (Du:(i:Int)<(l.length:Int)),Eg,D6 h,h4,Ei (Du:(0:Int)<=(i:Int)),Gv,J3 Du,G4.2 Du,G4.2 Du];dsimp only;have hd:=U4 h;rw[hd,X8, <-hd];cases he:O2 (l.drop i)with
  |true=>
   rw[El rfl];refine(bf (all++[cur],[],i+1) ⟨Es,Eo,Er⟩ Er).trans ?_;simp
  |false=>
   rw[Ek Eo];by_cases hc:l[i]=13
   ·rw[beqT hc,El hc];exact bf (all,cur,i+1) ⟨Er,Er,Er⟩ Er
   ·rw[beqF hc,Ek hc];exact bf (all,cur++[l[i]],i+1) ⟨Er,Es,Er⟩ Er
 ·rw[Ej (Du:¬(i:Int)<(l.length:Int)),Eh,bw,D5T,Fl Du,G4.2 Du];rfl
def A4A(i:Nat)(c:Int)(r:DS):W1 i (c::r)=if O2 (c::r)then((i+1:Nat):Int)::W1 (i+1) r else W1 (i+1) r:=rfl
def D6w(l:DS)(hl:smL l=true)(n:Nat)(hn:l.length<n):A5 E55 n Jo [.sl .i32 l none]=some (.one (.sl .i64 (T4 l) (some 1))):=by
 have av:=A0w hl;rw[B22];refine(I8 (λp:DS×Nat=>Z8 l p.1 p.2) (λp=>p.1.length<=p.2+1/\p.2<=l.length) (λp=>l.length - p.2) (λp=>(some (.one (.sl .i64 (p.1++W1 p.2 (l.drop p.2)) (some 1))):DU)) ?_ n ([0],0) Eo Er).trans rfl;rintro⟨s,i⟩ ⟨h1,h2⟩ K bw bX bf;dsimp only at h1 h2 bf ⊢;rw[D1J];by_cases h:i<l.length
 ·rw[Ei (Du:(i:Int)<(l.length:Int)),Eg,D6 h,J3 Du,G4.2 Du];dsimp only;have hd:=U4 h;have pA:O2 (l.drop i)=true->K .normal (Z8 l (s++[((i+1:Nat):Int)]) ((i+1:Nat):Int))=some (.one (.sl .i64 (s++W1 i (l.drop i)) (some 1))):=λhe=>by
   refine(bf (s++[((i+1:Nat):Int)],i+1) ⟨Es,Er⟩ Er).trans ?_;rw[hd]at he ⊢;rw[A4A,El he];simp
  have dk:O2 (l.drop i)=false->K .normal (Z8 l s ((i+1:Nat):Int))=some (.one (.sl .i64 (s++W1 i (l.drop i)) (some 1))):=λhe=>by
   refine(bf (s,i+1) ⟨Er,Er⟩ Er).trans ?_;rw[hd]at he ⊢;rw[A4A,he];rfl
  have dH:=C0R h;by_cases c1:l[i]=13
  ·have c2:l[i]≠10:=Du
   rw[Ek c2,El c1]at dH;rw[A0z c1,beqT c1];by_cases h3:i+1<l.length
   ·rw[Ei (Du:((i+1:Nat):Int)<(l.length:Int)),D6 h3];rw[Fw h3]at dH;by_cases c3:l[i+1]=10
    ·rw[c3]at dH;dsimp only;rw[beqT c3];exact dk (by rw[dH];rfl)
    ·dsimp only;rw[beqF c3];refine pA ?_;rw[dH];simp[c3]
   ·rw[Ej (Du:¬((i+1:Nat):Int)<(l.length:Int))];refine pA ?_;rw[dH,Ks Du];rfl
  ·rw[X4 c1,beqF c1];rw[Ek c1]at dH;by_cases c2:l[i]=10
   ·rw[A0z c2];exact pA (by rw[dH,El c2])
   ·rw[X4 c2];exact dk (by rw[dH,Ek c2])
 ·rw[Ej (Du:¬(i:Int)<(l.length:Int)),Eh,bw,D0S,Fl Du,show W1 i []=[]from rfl,Fu]
def C1X:∀(m:DS)(i:Nat),W1 i m=[]->∀cur,I5 cur m=[cur++m]
 |[],i,_,cur=>by simp[I5]
 |c::r,i,h,cur=>by
  rw[A4A]at h;rw[X8];cases he:O2 (c::r)with
  |true=>rw[he]at h;simp at h
  |false=>
   rw[he]at h;simp only[Kf,if_false]at h ⊢;have ih:=C1X r (i+1) h;by_cases hc:c=13
   ·subst hc;have h2:(!(r.head? ==some 10))=false:=he;cases r with
    |nil=>simp at h2
    |cons d r=>
     simp at h2;subst h2;rw[A4A]at h;rw[show O2 (10::r)=true from rfl]at h;simp at h
   ·rw[Ek hc,ih];simp
def A0q(m:DS)(j:Nat):Nat:=if m[j]?=some 10/\0<j/\m[j - 1]?=some 13 then j - 1 else j
def C2W:∀(m:DS)(i:Nat)(b:Int)(aw:DS),W1 i m=b::aw->
  ∃j:Nat,j<m.length/\b=((i+j+1:Nat):Int)/\aw=W1 (i+j+1) (m.drop (j+1))/\∀cur,I5 cur m=(cur++m.take (A0q m j))::I5 [] (m.drop (j+1))
 |[],i,b,aw,h=>by cases h
 |c::r,i,b,aw,h=>by
  rw[A4A]at h;cases he:O2 (c::r)with
  |true=>
   rw[he]at h;simp only[if_true,Fp]at h;refine⟨0,Eo,h.1.symm,by simpa using h.2.symm,λcur=>?_⟩;rw[X8,he];simp[A0q]
  |false=>
   rw[he]at h;simp only[Kf,if_false]at h;obtain⟨j,h1,h2,h3,h4⟩:=C2W r (i+1) b aw h;refine⟨j+1,Es,by rw[h2];congr 1;omega,by rw[h3,Ou];congr 1;omega,λcur=>?_⟩;rw[X8,he,Ou];simp only[Kf,if_false];by_cases hc:c=13
   ·subst hc;have gp:(!(r.head? ==some 10))=false:=he;cases r with
    |nil=>simp at gp
    |cons d r=>
     simp at gp;subst gp;rw[A4A,show O2 (10::r)=true from rfl]at h;simp only[if_true,Fp]at h;have hj:j=0:=by have:=h.1;rw[h2]at this;omega
     subst hj;rw[El rfl,h4];simp[A0q]
   ·rw[Ek hc,h4];have lP:(c::r).take (A0q (c::r) (j+1))=c::r.take (A0q r j):=by
     unfold A0q;rw[Ot,Od];cases j with
     |zero=>
      rw[List.getElem?_cons_zero,Ek (by rintro⟨_,_,h5⟩;exact hc (Hx h5)),Ek (by rintro⟨_,h5,_⟩;omega)];rfl
     |succ j=>
      rw[Ot,Od];by_cases hh:r[j+1]?=some 10/\r[j]?=some 13
      ·rw[El ⟨hh.1,Du,hh.2⟩,El ⟨hh.1,Du,hh.2⟩];rfl
      ·rw[Ek (λh5=>hh ⟨h5.1,h5.2.2⟩),Ek (λh5=>hh ⟨h5.1,h5.2.2⟩)];rfl
    rw[lP];simp
def C1A:∀(m:DS)(i:Nat),(W1 i m).length<=m.length
 |[],_=>by simp[W1]
 |c::r,i=>by
  rw[A4A];have:=C1A r (i+1);split<;>simp<;>omega
def C76(l:DS)(hl:smL l=true)(n:Nat)(hn:l.length+2<n):A5 E39 n Jd [.sl .i32 l none]=some (.one (.sl .rs (B5 l) (some 1))):=by
 have av:=A0w hl;have h4:=A9o hl;have gz:(T4 l).length<=l.length+1:=by have:=C1A l 0;simp[T4];omega
 rw[D1a,hl,Eg];refine(I8 (λp:List (DS)×Nat×Nat×Bool=>A1w l p.1 (T4 l) p.2.1)
  (λp=>p.1.length=p.2.1/\p.2.2.1<=l.length/\(p.2.2.2=true->p.2.1=(T4 l).length)/\(p.2.2.2=false->(T4 l).drop p.2.1=(p.2.2.1:Int)::W1 p.2.2.1 (l.drop p.2.2.1)))
  (λp=>(T4 l).length - p.2.1) (λp=>(some (.one (.sl .rs (bif p.2.2.2 then p.1 else p.1++I5 [] (l.drop p.2.2.1)) (some 1))):DU)) ?_ n ([],0,0,false)
  ⟨rfl,Fi _,(λh=>by cases h),λ_=>rfl⟩ Er).trans rfl
 rintro⟨out,k,a,done⟩ ⟨h1,h2,h3,h5⟩ K bw bX bf;dsimp only at h1 h2 h3 h5 bf ⊢;rw[D1Z];cases done with
 |true=>
  have hk:=h3 rfl;rw[Ej (Du:¬(k:Int)<((T4 l).length:Int)),Eh,bw,D70];rfl
 |false=>
  have hd:=h5 rfl;have hk:k<(T4 l).length:=by
   rcases Kn k (T4 l).length with h|h
   ·exact h
   ·rw[Fl h]at hd;cases hd
  rw[U4 hk]at hd;simp only[Fp]at hd;obtain⟨BZ,oh⟩:=hd;rw[Ei (Du:(k:Int)<((T4 l).length:Int)),Eg,J3 Du,D6 hk,BZ];dsimp only;rw[G4.2 (Du:(out.length+1)*24<=140737488355328)];by_cases h6:k+1<(T4 l).length
  ·rw[Ei (Du:((k+1:Nat):Int)<((T4 l).length:Int)),D6 h6];have eH:=oh;rw[U4 h6]at eH;obtain⟨j,j1,j2,j3,j4⟩:=C2W _ _ _ _ eH.symm;rw[Fh]at j1;rw[j2];dsimp only;have lQ:=j4 [];rw[Ia]at lQ;have eG:∀e:Nat,e=a+A0q (l.drop a) j->∀x,x=(l.drop a).take (e - a)->K .normal (A1w l (out++[x]) (T4 l) ((k+1:Nat):Int))=some (.one (.sl .rs (out++I5 [] (l.drop a)) (some 1))):=by
    intro e he x hx;have ej:e - a=A0q (l.drop a) j:=Du
    refine(bf (out++[x],k+1,a+j+1,false) ⟨Es,Er,(λh=>by cases h),λ_=>?_⟩ Er).trans ?_
    ·dsimp only;rw[U4 h6,j2,j3,Ib];rfl
    ·dsimp only;refine congrArg (λz:Ef=>(some (.one (.sl .rs z (some 1))):DU)) ?_;rw[lQ,hx,ej,Ib];show out++[_]++_=_;rw[Jq];rfl
   have w1:Ew .i64 (((a+j+1:Nat):Int) - 1)=((a+j:Nat):Int):=by rw[Q5 Du Du];omega
   rw[w1,D6 (Du:a+j<l.length)];dsimp only;have zp:(l.drop a)[j]?=some (l[a+j]'Du):=by rw[Ka,Fw Du]
   have ct:∀e:Nat,a<=e->e<=l.length->sub l (a:Int) (e:Int)=some ((l.drop a).take (e - a)):=λe iN ej=>A6j iN ej;have oN:∀e:Nat,a<=e->e<=l.length->Ew .i64 ((e:Int) - (a:Int))=((e - a:Nat):Int):=λe iN ej=>by rw[Q5 Du Du];omega
   have kF:∀e:Nat,e<=l.length->A3 e 4=true:=λe he=>G4.2 Du;have lR:A0q (l.drop a) j=j->(bif decide ((0:Int)<=((a+j - a:Nat):Int))&&A3 (Ez ((a+j - a:Nat):Int)) 4 then(match sub l (a:Int) ((a+j:Nat):Int)with|none=>none|some y7=>(bif A3 (0+Ey y7) 4 then(bif true then(K .normal (A1w l (out++[y7]) (T4 l) ((k+1:Nat):Int)))else none)else none))else none)=some (.one (.sl .rs (out++I5 [] (l.drop a)) (some 1))):=by
    intro lP;rw[Ei Du,Gv,kF _ Du,ct _ Du Du];dsimp only;rw[kF _ (by rw[Gi,Fh];omega)];exact eG (a+j) Du _ rfl
   by_cases c1:l[a+j]=10
   ·rw[beqT c1];by_cases c2:0<j
    ·rw[Ei (Du:((a+j:Nat):Int)>(a:Int))];have w2:Ew .i64 (((a+j:Nat):Int) - 1)=((a+j - 1:Nat):Int):=by rw[Q5 Du Du];omega
     rw[w2,D6 (Du:a+j - 1<l.length)];dsimp only;have sY:(l.drop a)[j - 1]?=some (l[a+j - 1]'Du):=by
      have e:a+(j - 1)=a+j - 1:=Du
      rw[Ka,Fw Du];simp only[e]
     by_cases c3:l[a+j - 1]=13
     ·rw[beqT c3,oN (a+j - 1) Du Du];have lP:A0q (l.drop a) j=j - 1:=by unfold A0q;rw[zp,sY,c1,c3,El ⟨rfl,c2,rfl⟩]
      rw[Ei (Du:(0:Int)<=((a+j - 1 - a:Nat):Int)),Gv,kF _ Du,ct _ Du Du];dsimp only;rw[kF _ (by rw[Gi,Fh];omega)];exact eG (a+j - 1) Du _ rfl
     ·rw[beqF c3,oN (a+j) Du Du];exact lR (by unfold A0q;rw[sY,Ek (λh=>c3 (Hx h.2.2))])
    ·rw[Ej (Du:¬((a+j:Nat):Int)>(a:Int)),oN (a+j) Du Du];exact lR (by unfold A0q;rw[Ek (λh=>c2 h.2.1)])
   ·rw[beqF c1,oN (a+j) Du Du];exact lR (by unfold A0q;rw[zp,Ek (λh=>c1 (Hx h.1))])
  ·rw[Ej (Du:¬((k+1:Nat):Int)<((T4 l).length:Int))];have bv:W1 a (l.drop a)=[]:=by rw[<-oh,Fl Du]
   have lQ:=C1X _ _ bv [];rw[Ia]at lQ;have w2:Ew .i64 ((l.length:Int) - (a:Int))=((l.length - a:Nat):Int):=by rw[Q5 Du Du];omega
   rw[w2,Ei (Du:(0:Int)<=((l.length - a:Nat):Int)),Gv,G4.2 Du,A75 h2];dsimp only;rw[G4.2 (by rw[Fh];omega)];refine Gy (b:=K .normal (A1w l (out++[l.drop a]) (T4 l) ((k+1:Nat):Int))) rfl ?_;refine(bf (out++[l.drop a],k+1,a,true) ⟨Es,h2,(λ_=>Er),(λh=>by cases h)⟩ Er).trans ?_;refine congrArg (λz:Ef=>(some (.one (.sl .rs z (some 1))):DU)) ?_;rw[lQ];rfl
def L4(ls:Ef):Nat:=(ls.map Ey).sum
def A3h(l:DS)(ls:Ef):L4 (l::ls)=l.length+L4 ls:=by simp[L4]
def B9G(a b:Ef):L4 (a++b)=L4 a+L4 b:=by simp[L4]
def B07{a b:Ef}(h:a.Sublist b):L4 a<=L4 b:=by
 induction h with
 |slnil=>simp
 |cons x _ ih=>rw[A3h];omega
 |cons_cons x _ ih=>rw[A3h,A3h];omega
def B2l{a:Ef}{x:DS}(h:x∈a):x.length<=L4 a:=by
 have:=B07 (List.singleton_sublist.2 h);simpa [L4]using this
def C4j{f:DS->DS}(hf:∀l,(f l).length<=l.length)(a:Ef):L4 (a.map f)<=L4 a:=by
 induction a with
 |nil=>simp
 |cons l r ih=>have:=hf l;rw[Gg,A3h,A3h];omega
def B0T:∀(m cur:DS),L4 (I5 cur m)<=cur.length+m.length/\(I5 cur m).length<=m.length+1
 |[],cur=>by simp[I5,L4]
 |c::r,cur=>by
  rw[X8];split
  ·have:=B0T r [];rw[A3h];simp at this ⊢;omega
  ·split
   ·have:=B0T r cur;simp;omega
   ·have:=B0T r (cur++[c]);simp at this ⊢;omega
def A82(l:DS):L4 (B5 l)<=l.length/\(B5 l).length<=l.length+1:=by
 have:=B0T l [];simpa [B5]using this
def B3a(ls:Ef):(R9 ls).Sublist ls:=by
 unfold R9;have h1:=(Ov (l:=(List.dropWhile B8 ls).reverse) B8).reverse;rw[Oh]at h1;exact h1.trans (Ov _)
def C0g(ls:Ef):L4 (K0 ls)<=L4 ls/\(K0 ls).length<=ls.length:=by
 unfold K0;have h1:=B07 (B3a (N9 ls));have h2:=(B3a (N9 ls)).length_le;have h3:L4 (N9 ls)<=L4 ls:=by
  unfold N9;rw[B9G];have:=C4j (f:=λl=>l.drop (X1 ls).toNat) (λl=>Eo) (ls.drop 1);have h4:L4 (ls.take 1)+L4 (ls.drop 1)=L4 ls:=by rw[<-B9G,Kp]
  omega
 have h4:(N9 ls).length=ls.length:=by unfold N9;simp;omega
 omega
def C3g{ls:Ef}(h1:L4 ls<=1073741824)(h2:ls.length<=1073741825):M3 ls=true:=by
 unfold M3;simp only[Fs,Gu];exact⟨G4.2 Du,λx hx=>V9.2 (by have:=B2l hx;omega)⟩
def C0L(ls:Ef):(J0 ls).length<=L4 ls+ls.length:=by
 cases ls with
 |nil=>simp[J0]
 |cons l r=>
  unfold J0;rw[A3h];have:(r.flatMap (10:: ·)).length<=L4 r+r.length:=by
   induction r with
   |nil=>simp
   |cons x r ih=>rw[Gr,Gc,A3h];simp only[Fm];omega
  rw[Gc,Fm];omega
def C7k{ls:Ef}{i:Nat}(h:i<ls.length)(h0:0<i):J0 (ls.take (i+1))=J0 (ls.take i)++[10]++ls[i]:=by
 match ls,i,h,h0 with
 |l::r,i+1,h,_=>
  simp only[Fm,Nat.add_lt_add_iff_right]at h;rw[Oe,Oe,Gq h];show l++(r.take i++[r[i]]).flatMap (10:: ·)=(l++(r.take i).flatMap (10:: ·))++[10]++r[i];rw[Ku];simp
def C8S{ls:Ef}(h:0<ls.length):J0 (ls.take 1)=ls[0]:=by
 match ls,h with
 |l::r,_=>simp[J0]
def D5z(r:DS):((E2 r).head? ==some 10)=(r.head? ==some 10):=by
 fun_cases E2 r with
 |case1 r=>rfl
 |case2 c r h=>rfl
 |case3=>rfl
def A5j(c:Int)(r:DS):O2 (c::r)=if c=10 then true else if c=13 then !(r.head? ==some 10)else false:=by
 by_cases h1:c=10
 ·subst h1;rfl
 ·rw[Ek h1];by_cases h2:c=13
  ·subst h2;rfl
  ·rw[Ek h2];unfold O2;split
   ·rename_i cb;simp only[Fp]at cb;exact absurd cb.1 h1
   ·rename_i cb;simp only[Fp]at cb;exact absurd cb.1 h2
   ·rfl
def D0i{x y:DS}(h:x<+:y)(hx:M4 y=false):M4 x=false:=by
 cases hq:M4 x with
 |false=>rfl
 |true=>
  obtain⟨z,rfl⟩:=h;obtain⟨r,rfl⟩:=A5a.1 hq;rw[show M4 (92::34::34::34::r++z)=true from rfl]at hx;cases hx
def A4f(cur:DS)(c:Int)(r:DS)(h1:c≠10)(h2:c≠13):I5 cur (c::r)=I5 (cur++[c]) r:=by
 rw[X8,A5j,Ek h1,Ek h2];simp[h2]
def C6K:∀(l cur lT:DS),(∀x,x<+:l->E2 (cur++x)=lT++E2 x)->I5 lT (E2 l)=(I5 cur l).map E2:=by
 intro l
 fun_induction E2 l with
 |case1 r ih=>
  intro cur lT h;rw[A4f _ _ _ Ep Ep,A4f _ _ _ Ep Ep,A4f _ _ _ Ep Ep,
   A4f cur _ _ Ep Ep,A4f _ _ _ Ep Ep,A4f _ _ _ Ep Ep,A4f _ _ _ Ep Ep]
  refine ih _ _ (λx hx=>?_);have:=h (92::34::34::34::x) (by simpa using hx);rw[B8B]at this;simpa using this
 |case2 c r aC ih=>
  intro cur lT h;have he:M4 (c::r)=false:=by
   cases hq:M4 (c::r)with
   |false=>rfl
   |true=>
    obtain⟨r',hr⟩:=A5a.1 hq;simp only[Fp]at hr;exact absurd hr.2 (λe=>aC r' hr.1 e)
  have dH:O2 (c::E2 r)=O2 (c::r):=by rw[A5j,A5j,D5z]
  rw[X8,X8,dH];cases hq:O2 (c::r)with
  |true=>
   simp only[if_true,Gg];rw[ih [] [] (λx _=>rfl)];have:=h [] (Me);rw[Fu,show E2 []=[]from rfl,Fu]at this;rw[this]
  |false=>
   simp only[Kf,if_false];by_cases hc:c=13
   ·rw[El hc,El hc];subst hc;have fY:r.head? =some 10:=by
     rw[A5j]at hq;simpa using hq
    match r,fY with
    |10::r',_=>
     have um:=ih [] [] (λx _=>rfl);have eH:E2 (10::r')=10::E2 r':=B4G (by rw[B0L];rfl);rw[eH]at um ⊢;rw[X8,show O2 (10::E2 r')=true from rfl,X8,show O2 (10::r')=true from rfl]at um ⊢;simp only[if_true,Gg,Fp]at um ⊢;refine⟨?_,um.2⟩;have:=h [] (Me);rw[Fu,show E2 []=[]from rfl,Fu]at this;exact this.symm
   ·rw[Ek hc,Ek hc];refine ih _ _ (λx hx=>?_);have qA:c::x<+:c::r:=by simpa using hx
    have:=h (c::x) qA;rw[B4G (D0i qA he)]at this;simpa using this
 |case3=>
  intro cur lT h;have:=h [] (Me);rw[Fu,show E2 []=[]from rfl,Fu]at this;simp[I5,this]
def D41(l:DS):B5 (E2 l)=(B5 l).map E2:=C6K l [] [] (λx _=>rfl)
def B9b(l:DS):Z0 l=if T1 l&&A3Z (A0e 0 l)then((J9 (J0 (K0 (B5 (E2 l))))).1,0)else([],60):=rfl
def C5L{ls:Ef}(h1:L4 ls<=1073741824)(h2:ls.length<=1073741825){n:Nat}(hn:ls.length<n){body:S6->(Ex->S6->DU)->DU}{k:Ex->S6->DU}{st:DS->Int->S6}
  (lM:∀(out:DS)(i:Nat),ls.length<=i->D0 out=true->∀K:Ex->S6->DU,(∀j s,K (.exit j) s=k (.exit j) s)->body (st out i) K=some (.tup [.str (J9 out).1,.int .i64 0]))
  (bG:∀(out:DS)(i:Nat)(h:i<ls.length),A3 (out.length+1) 4=true->A3 ((out++[10]).length+ls[i].length) 4=true->A3 (out.length+ls[i].length) 4=true->∀K:Ex->S6->DU,
   body (st out i) K=K .normal (st (if 0<i then(out++[10])++ls[i]else out++ls[i]) ((i+1:Nat):Int))):
  C8 body n (st [] 0) k=some (.tup [.str (J9 (J0 ls)).1,.int .i64 0]):=by
 refine(I8 (λi:Nat=>st (J0 (ls.take i)) i) (λi=>i<=ls.length) (λi=>ls.length - i) (λi=>(some (.tup [.str (J9 (J0 ls)).1,.int .i64 0]):DU)) ?_ n 0 (Fi _) Du);intro i hi K bw bX bf;have hj:=C0L (ls.take i);have ht:=B07 (List.take_sublist i ls);have hl:(ls.take i).length<=i:=Kq _ _;by_cases h:i<ls.length
 ·have hm:=B2l (Ft h);rw[bG _ i h (G4.2 Du) (G4.2 Es) (G4.2 Du) K];have:(if 0<i then(J0 (ls.take i)++[10])++ls[i]else J0 (ls.take i)++ls[i])=J0 (ls.take (i+1)):=by
   by_cases h0:0<i
   ·rw[El h0,C7k h h0]
   ·have:i=0:=Du
    subst this;rw[Ek h0,C8S h];rfl
  rw[this];exact bf (i+1) Du Du
 ·rw[lM _ i Du (V9.2 Du) K bw,Ga Du]
def C8h{l:DS}(hl:smL l=true):L4 (K0 (B5 (E2 l)))<=1073741824/\(K0 (B5 (E2 l))).length<=l.length+1:=by
 have h0:=A0w hl;have h1:=B3A l;have h2:=A82 (E2 l);have h3:=C0g (B5 (E2 l));omega
def D3s(l:DS)(hl:smL l=true)(n:Nat)(hn:l.length+2<n):A5 E23 n Gj [.sl .i32 l none]=some (.tup [.str (Z0 l).1,.int .i64 (Z0 l).2]):=by
 have av:=A0w hl;rw[C7G,hl,Eg,B9b];have hb:A8e 0 l=(T1 l&&A3Z (A0e 0 l)):=rfl;rw[hb];cases hm:T1 l&&A3Z (A0e 0 l)with
 |false=>rfl
 |true=>
  have h1:=A82 l;have h3:=C8h hl;rw[D41]at h3 ⊢;rw[El rfl];show C8 _ n _ _=_;refine(I8 (λi:Nat=>B2h (B5 l) (((B5 l).take i).map E2) i) (λi=>i<=(B5 l).length) (λi=>(B5 l).length - i) (λi=>(some (.tup [.str (J9 (J0 (K0 ((B5 l).map E2)))).1,.int .i64 0]):DU)) ?_ n 0 (Fi _) Du);intro i hi K bw bX bf;rw[C8s];by_cases h:i<(B5 l).length
  ·have hm:=B2l (Ft h);rw[Ei (Du:(i:Int)<((B5 l).length:Int)),Eg,D6 h,J3 Du];dsimp only;rw[A8m.2 Du,G4.2 (by rw[Kr,Gi];omega)];have e:((B5 l).take i).map E2++[E2 (B5 l)[i]]=((B5 l).take (i+1)).map E2:=by
    rw[Gq h,List.map_append];rfl
   rw[e];exact bf (i+1) Du Du
  ·rw[Ej (Du:¬(i:Int)<((B5 l).length:Int)),Eh,bw,C54,Ga Du];have h2:=C4j B3A (B5 l);rw[C3g Du (by rw[Kr];omega),Eg];generalize K0 ((B5 l).map E2)=ls at h3;refine C5L (n:=n) h3.1 Du Du (st:=λout i=>A9c ls out i) (λout i hi ho K bw=>?_) (λout i h r1 r2 r3 K=>?_)
   ·rw[B9U,Ej (Du:¬(i:Int)<(ls.length:Int)),Eh,bw,D3H,ho];rfl
   ·rw[B9U,Ei (Du:(i:Int)<(ls.length:Int)),Eg,D6 h,J3 Du];dsimp only;rw[r1,r2,r3];by_cases h0:0<i
    ·rw[Ei (Du:(i:Int)>0),El h0];rfl
    ·rw[Ej (Du:¬(i:Int)>0),Ek h0];rfl
def D14{a b:Int}(h:(O3 a b).2=true):D2 (O3 a b).1=true:=by
 unfold O3 at h ⊢;split at h
 ·cases h
 ·rename_i hc;rw[Ek hc];simp at hc;rw[X0];dsimp only;omega
def D05{l:DS}(h:(X9 l).2≠0):D2 (X9 l).1=true:=by
 have hr:=D3b l;by_cases c1:E5 l<0\/(56320<=E5 l/\E5 l<=57343)
 ·rw[B5L l c1]at h;exact absurd rfl h
 by_cases c2:E5 l<55296\/57343<E5 l
 ·rw[B3g l Du c2,X0];dsimp only;omega
 ·rw[C1R l Du Du Du]at h ⊢;by_cases c3:10<=l.length/\l[4]?=some 92/\l[5]?=some 117/\(O3 (E5 l) (E5 (l.drop 6))).2=true
  ·rw[El c3];exact D14 c3.2.2.2
  ·rw[Ek c3]at h;exact absurd rfl h
def C5Z{c:Int}(h:0<=P5 c):D2 (P5 c)=true:=by
 rcases (D5i c).1 h with rfl|rfl|rfl|rfl|rfl|rfl|rfl|rfl<;>decide
def C2U{c:Int}(h:M6 c=true):D2 c=true:=by
 unfold M6 at h;rw[X0];split at h
 ·simp at h;omega
 ·simp at h;omega
def D7O{l:DS}(h:(J6 l).2≠0):D2 (J6 l).1=true:=by
 cases l with
 |nil=>exact absurd rfl h
 |cons c r=>
  have hp:J6 (c::r)=if A0u c then(c,1)else if c=92 then A1Y (c::r)else(0,0):=rfl
  rw[hp]at h ⊢;by_cases c1:A0u c=true
  ·rw[El c1];refine C2U ?_;unfold A0u at c1;simp only[Fs]at c1;exact c1.1.1.1.1
  ·rw[Ek c1]at h ⊢;by_cases c2:c=92
   ·rw[El c2]at h ⊢;by_cases h2:(c::r).length<2
    ·rw[B4U h2]at h;exact absurd rfl h
    rw[C3Q 0 _ Du]at h ⊢;by_cases c3:0<=P5 (c::r)[1]
    ·rw[El c3];exact C5Z c3
    ·rw[Ek c3]at h ⊢;by_cases c4:(c::r)[1]=117
     ·rw[El c4]at h ⊢;exact D05 h
     ·rw[Ek c4]at h;exact absurd rfl h
   ·rw[Ek c2]at h;exact absurd rfl h
def quotedL_valid:∀(n:Nat)(l va:DS),l.length<=n->A18 l=some va->va.all D2=true/\va.length<=l.length:=by
 intro n
 induction n with
 |zero=>
  intro l va hl h;have:l=[]:=Ha Du;subst this;rw[B7J]at h;cases h;exact⟨rfl,Ff _⟩
 |succ n ih=>
  intro l va hl h;by_cases aC:l=[]
  ·subst aC;rw[B7J]at h;cases h;exact⟨rfl,Ff _⟩
  ·rw[C1h aC]at h;have hr:=B2q l;by_cases hp:(J6 l).2=0
   ·rw[El hp]at h;cases h
   ·rw[Ek hp]at h;obtain⟨v,hv,rfl⟩:=Jw.1 h;have cV:0<l.length:=Jz.2 aC;obtain⟨i1,i2⟩:=ih _ v (by rw[Fh];omega) hv;rw[Fh]at i2;exact⟨by rw[Fx,D7O hp,i1];rfl,Es⟩
def A8P{l:DS}(h:l.all D2=true):J9 l=(B7 l,true):=by unfold J9;rw[El h]
def A22(a b:DS):B7 (a++b)=B7 a++B7 b:=by unfold B7 toB;simp
def A39(l:DS):(B7 l).length<=4*l.length:=by
 have:=flat_u8F_len l;unfold B7 toB;rw[Kr];exact this
def B5S:T6:=λf ls=>match f with
 |194=>S41 ls
 |219=>S27 ls
 |_=>none
def A23:Env Ty6 A4:=mk6 B5S noC (lkE [(0,[2]),(1,[5,6,7,8,9,10,11,12,13,14,15,16]),(2,[0,17]),(3,[17,18,19]),(4,[0,20]),(5,[0,20]),(7,[24,25,26]),(8,[4,27,28,29,30,31,32,33,34,35]),(9,[21,22,23,36]),(10,[36,37]),(11,[21,22,23,24])]) 38
def A7H(ic:Ef)(fu:Int)(eY:Int):S6:=⟨[(21,.one (.sl .rs ic none)),(22,.one (.int .i64 fu)),(23,.one (.int .i64 eY))],[]⟩
def D5E(n:Nat)(a0:Ef):A5 A23 n Jf [.sl .rs a0 none]=
  match idx a0 0 with|none=>none|some y1=>(bif D0 y1 then(bif(B8 y1)==false then(match idx a0 (Ew .i64 ((Ey a0:Int) - 1))with|none=>none|some y2=>(bif D0 y2 then(bif B8 y2 then(some (.one (.bool false)))else(bif(Ey a0:Int)==1 then(some (.one (.bool true)))else(C8 (lbC A23 (A2 Jf [1,1,1,0,1,0,0]) 10006 n) n (A7H a0 (Ey a0:Int) 0) (A7 0 (C1 (B2 A23 n (A2 Jf [1,1,1,1])) (B3 A23 Tryz.f193.results.toList))))))else none))else(some (.one (.bool false))))else none):=by
 kernel_rfl
def D2n(n:Nat)(ic:Ef)(fu:Int)(eY:Int)(K:Ex->S6->DU):lbC A23 (A2 Jf [1,1,1,0,1,0,0]) 10006 n (A7H ic fu eY) K=
  bif decide (eY<fu)then(match idx ic eY with|none=>none|some y3=>(bif D0 y3 then(bif(!(B8 y3))==true then(match idx y3 0 with|none=>none|some y4=>(bif !(K6 y4)then(K .ret ⟨[(2,.one (.bool true))],[]⟩)else(K .normal (A7H ic fu (Ew .i64 (eY+1))))))else(K .normal (A7H ic fu (Ew .i64 (eY+1)))))else none))else(K (.exit 0) ⟨[(21,.one (.sl .rs ic none)),(22,.one (.int .i64 fu)),(23,.one (.int .i64 eY)),(24,.one (.bool (decide (eY<fu))))],[]⟩):=by
 kernel_rfl
def C6L(n:Nat)(ic:Ef)(fu:Int)(eY:Int)(iW:Bool):(A7 0 (C1 (B2 A23 n (A2 Jf [1,1,1,1])) (B3 A23 Tryz.f193.results.toList))) (.exit 0) ⟨[(21,.one (.sl .rs ic none)),(22,.one (.int .i64 fu)),(23,.one (.int .i64 eY)),(24,.one (.bool iW))],[]⟩=
  some (.one (.bool false)):=by
 kernel_rfl
def B6f:T6:=λf ls=>match f with
 |224=>S30 ls
 |225=>S42 ls
 |_=>none
def A2K:Env Ty6 A4:=mk6 B6f noC (lkE [(0,[2]),(1,[7,8,9,10]),(2,[11,12,13,14,15,16,17]),(3,[3,4,18,19,20]),(4,[0,21]),(5,[21]),(6,[22,23,24]),(7,[26,27,42]),(8,[25,28,29,30,31,32]),(9,[6,33,34,35,36,37,38,39,40,41]),(10,[0,5,42]),(11,[0,5,25,43,44,45])]) 46
def A8A(x0:Ef)(x5:Int):S6:=⟨[(0,.one (.sl .rs x0 none)),(5,.one (.int .i64 x5))],[]⟩
def D11(n:Nat)(a0:Ef):A5 A2K n Jc [.sl .rs a0 none]=
  match idx a0 0 with|none=>none|some y1=>(bif D0 y1 then(match idx a0 (Ew .i64 ((Ey a0:Int) - 1))with|none=>none|some y2=>(bif D0 y2 then(bif(B8 y1)==false then(bif B8 y2 then(some (.one (.bool false)))else(C8 (lbC A2K (A2 Jc [1,1,1,1,0,1,0,0]) 10006 n) n (A8A a0 0) (A7 0 (C1 (B2 A2K n (A2 Jc [1,1,1,1,1])) (B3 A2K Tryz.f199.results.toList)))))else(some (.one (.bool false))))else none))else none):=by
 kernel_rfl
def C9g(n:Nat)(x0:Ef)(x5:Int)(K:Ex->S6->DU):lbC A2K (A2 Jc [1,1,1,1,0,1,0,0]) 10006 n (A8A x0 x5) K=
  bif decide (x5<(Ey x0:Int))then(match idx x0 x5 with|none=>none|some y3=>(bif D0 y3 then(bif((G3 y3)==0)==true then(match idx x0 x5 with|none=>none|some y4=>(bif decide ((Ey y4:Int)>0)then(K .ret ⟨[(2,.one (.bool true))],[]⟩)else(K .normal (A8A x0 (Ew .i64 (x5+1))))))else(K .normal (A8A x0 (Ew .i64 (x5+1)))))else none))else(K (.exit 0) ⟨[(0,.one (.sl .rs x0 none)),(5,.one (.int .i64 x5)),(25,.one (.bool (decide (x5<(Ey x0:Int)))))],[]⟩):=by
 kernel_rfl
def D4t(n:Nat)(x0:Ef)(x5:Int)(jh:Bool):(A7 0 (C1 (B2 A2K n (A2 Jc [1,1,1,1,1])) (B3 A2K Tryz.f199.results.toList))) (.exit 0) ⟨[(0,.one (.sl .rs x0 none)),(5,.one (.int .i64 x5)),(25,.one (.bool jh))],[]⟩=
  some (.one (.bool ((Ey x0:Int)==1))):=by
 kernel_rfl
def A2T:Env Ty6 A4:=mk6 noT noC (lkE [(0,[2]),(3,[5,6,7]),(4,[8,9,10,11,12,13,14,15,16,17,18,19,20,21,22,23,24,25,26,27,28,29,30,31,32,33,34,35]),(5,[36,37,38,39]),(6,[40,41]),(7,[36,42,43,44,45,46,47,48]),(8,[49,50]),(9,[0,3,4,8,51])]) 52
def A2y(x0:DS)(x3:DS)(x4:Int):S6:=⟨[(0,.one (.sl .i32 x0 none)),(3,.one (.sl .i32 x3 (some 103))),(4,.one (.int .i64 x4))],[103]⟩
def C85(n:Nat)(a0:DS):A5 A2T n Jb [.sl .i32 a0 none]=
  C8 (lbC A2T (A2 Jb [1,1,1,0,0,0]) 10003 n) n (A2y a0 [] 0) (A7 0 (C1 (B2 A2T n (A2 Jb [1,1,1,1])) (B3 A2T Tryz.f201.results.toList))):=by
 kernel_rfl
def C9M(n:Nat)(x0:DS)(x3:DS)(x4:Int)(K:Ex->S6->DU):lbC A2T (A2 Jb [1,1,1,0,0,0]) 10003 n (A2y x0 x3 x4) K=
  bif decide (x4<(Ey x0:Int))then(bif(decide ((Ew .i64 (x4+2))<(Ey x0:Int)))==true then(match idx x0 x4 with|none=>none|some y1=>(bif(y1==34)==true then(match idx x0 (Ew .i64 (x4+1))with|none=>none|some y2=>(bif(y2==34)==true then(match idx x0 (Ew .i64 (x4+2))with|none=>none|some y3=>(bif y3==34 then(bif A3 (Ey x3+4) 4 then(K .normal (A2y x0 (x3++[92,34,34,34]) (Ew .i64 (x4+3))))else none)else(match idx x0 x4 with|none=>none|some y4=>(bif A3 (Ey x3+1) 4 then(K .normal (A2y x0 (x3++[y4]) (Ew .i64 (x4+1))))else none))))else(match idx x0 x4 with|none=>none|some y5=>(bif A3 (Ey x3+1) 4 then(K .normal (A2y x0 (x3++[y5]) (Ew .i64 (x4+1))))else none))))else(match idx x0 x4 with|none=>none|some y6=>(bif A3 (Ey x3+1) 4 then(K .normal (A2y x0 (x3++[y6]) (Ew .i64 (x4+1))))else none))))else(match idx x0 x4 with|none=>none|some y7=>(bif A3 (Ey x3+1) 4 then(K .normal (A2y x0 (x3++[y7]) (Ew .i64 (x4+1))))else none)))else(K (.exit 0) ⟨[(0,.one (.sl .i32 x0 none)),(3,.one (.sl .i32 x3 (some 103))),(4,.one (.int .i64 x4)),(8,.one (.bool (decide (x4<(Ey x0:Int)))))],[103]⟩):=by
 kernel_rfl
def D29(n:Nat)(x0:DS)(x3:DS)(x4:Int)(x8:Bool):(A7 0 (C1 (B2 A2T n (A2 Jb [1,1,1,1])) (B3 A2T Tryz.f201.results.toList))) (.exit 0) ⟨[(0,.one (.sl .i32 x0 none)),(3,.one (.sl .i32 x3 (some 103))),(4,.one (.int .i64 x4)),(8,.one (.bool x8))],[103]⟩=
  some (.one (.sl .i32 x3 (some 1))):=by
 kernel_rfl
def B68:T6:=λf ls=>match f with
 |190=>A9J ls
 |191=>S32 ls
 |192=>S37 ls
 |193=>B6a ls
 |194=>S41 ls
 |195=>S51 ls
 |196=>S33 ls
 |_=>none
def K5:Env Ty6 A4:=mk6 B68 noC (lkE [(0,[2,3]),(1,[13]),(2,[0,14]),(3,[14,15,16,17,18,19]),(4,[0,5,20,21,22]),(5,[4,23]),(6,[23]),(8,[27,28,29]),(9,[7,30,31,32,33,34,35]),(10,[4,24,25,26,36]),(11,[36,37]),(12,[24,25,26,27,38,39]),(13,[40,41]),(14,[4,8,42]),(15,[42,43]),(16,[8,44,45,46,47,48,49,50,51,52]),(17,[53,54,55,56]),(18,[53]),(19,[57,58,59]),(20,[61,62]),(21,[60,63,64,65]),(22,[66,67,68,69]),(23,[70,71]),(24,[66,72,73,74,75,76,77,78]),(25,[4,9,10,12,60,79,80,81,82,83,84,85]),(26,[11,86])]) 87
def A7q(x4:DS)(iW:DS)(jh:Int)(ig:Int):S6:=⟨[(4,.one (.sl .i32 x4 (some 1017))),(24,.one (.sl .i32 iW (some 1017))),(25,.one (.int .i64 jh)),(26,.one (.int .i64 ig))],[1017]⟩
def A3J(x4:DS)(x9:DS)(aP:Int):S6:=⟨[(4,.one (.sl .i32 x4 (some 1017))),(9,.one (.sl .i32 x9 (some 143))),(10,.one (.int .i64 aP))],[143,1017]⟩
def B23(n:Nat)(a0:DT):A5 K5 n Fz [.str a0]=
  bif a0==[]then(some (.tup [.str [34,34,34,34,34,34],.bool true]))else(bif smS a0 then(bif decide ((((C3 a0).2:Nat):Int)<(Ey a0:Int))then(some (.tup [.str [],.bool false]))else(C8 (lbC K5 (A2 Fz [1,1,1,1,0,1,0,0]) 10007 n) n (A7q ((C3 a0).1) ((C3 a0).1) (Ey ((C3 a0).1):Int) 0) (A7 0 (C1 (B2 K5 n (A2 Fz [1,1,1,1,1])) (B3 K5 Tryz.f155.results.toList)))))else none):=by
 kernel_rfl
def C8T(n:Nat)(x4:DS)(iW:DS)(jh:Int)(ig:Int)(K:Ex->S6->DU):lbC K5 (A2 Fz [1,1,1,1,0,1,0,0]) 10007 n (A7q x4 iW jh ig) K=
  bif decide (ig<jh)then(match idx iW ig with|none=>none|some y1=>(bif(!(M6 y1))==false then(bif y1==13 then(K .ret ⟨[(2,.one (.str [])),(3,.one (.bool false))],[]⟩)else(K .normal (A7q x4 iW jh (Ew .i64 (ig+1)))))else(K .ret ⟨[(2,.one (.str [])),(3,.one (.bool false))],[]⟩)))else(K (.exit 0) ⟨[(4,.one (.sl .i32 x4 (some 1017))),(24,.one (.sl .i32 iW (some 1017))),(25,.one (.int .i64 jh)),(26,.one (.int .i64 ig)),(27,.one (.bool (decide (ig<jh))))],[1017]⟩):=by
 kernel_rfl
def C57(n:Nat)(x4:DS)(iW:DS)(jh:Int)(ig:Int)(nf:Bool):(A7 0 (C1 (B2 K5 n (A2 Fz [1,1,1,1,1])) (B3 K5 Tryz.f155.results.toList))) (.exit 0) ⟨[(4,.one (.sl .i32 x4 (some 1017))),(24,.one (.sl .i32 iW (some 1017))),(25,.one (.int .i64 jh)),(26,.one (.int .i64 ig)),(27,.one (.bool nf))],[1017]⟩=
  bif smL x4 then(bif M3 (B5 x4)&&decide (1<=Ey (B5 x4))then(bif !(U7 (B5 x4))then(some (.tup [.str [],.bool false]))else(bif(decide ((Ey (B5 x4):Int)>1))==false then(match idx x4 0 with|none=>none|some y2=>(bif !(K6 y2)then(bif A3 (3+1) 4 then(C8 (lbC K5 (A2 Fz [1,1,1,1,1,1,1,1,1,0,1,0,0]) 10019 n) n (A3J x4 ([34,34,34]++[10]) 0) (A7 2 (C1 (B2 K5 n (A2 Fz [1,1,1,1,1,1,1,1,1,1])) (B3 K5 Tryz.f155.results.toList))))else none)else(C8 (lbC K5 (A2 Fz [1,1,1,1,1,1,1,1,1,0,1,0,0]) 10019 n) n (A3J x4 [34,34,34] 0) (A7 2 (C1 (B2 K5 n (A2 Fz [1,1,1,1,1,1,1,1,1,1])) (B3 K5 Tryz.f155.results.toList))))))else(bif A3 (3+1) 4 then(C8 (lbC K5 (A2 Fz [1,1,1,1,1,1,1,1,1,0,1,0,0]) 10019 n) n (A3J x4 ([34,34,34]++[10]) 0) (A7 2 (C1 (B2 K5 n (A2 Fz [1,1,1,1,1,1,1,1,1,1])) (B3 K5 Tryz.f155.results.toList))))else none)))else none)else none:=by
 kernel_rfl
def D33(n:Nat)(x4:DS)(x9:DS)(aP:Int)(K:Ex->S6->DU):lbC K5 (A2 Fz [1,1,1,1,1,1,1,1,1,0,1,0,0]) 10019 n (A3J x4 x9 aP) K=
  bif decide (aP<(Ey x4:Int))then(match sub x4 aP (Ey x4:Int)with|none=>none|some y3=>(bif D0 y3 then(bif K3 y3 then(bif A3 (Ey x9+4) 4 then(K .normal (A3J x4 (x9++[92,34,34,34]) (Ew .i64 ((Ew .i64 (aP+2))+1))))else none)else(match idx x4 aP with|none=>none|some y4=>(bif A3 (Ey x9+1) 4 then(K .normal (A3J x4 (x9++[y4]) (Ew .i64 (aP+1))))else none)))else none))else(K (.exit 2) ⟨[(4,.one (.sl .i32 x4 (some 1017))),(9,.one (.sl .i32 x9 (some 143))),(10,.one (.int .i64 aP)),(60,.one (.bool (decide (aP<(Ey x4:Int)))))],[143,1017]⟩):=by
 kernel_rfl
def D5c(n:Nat)(x4:DS)(x9:DS)(aP:Int)(Ca:Bool):(A7 2 (C1 (B2 K5 n (A2 Fz [1,1,1,1,1,1,1,1,1,1])) (B3 K5 Tryz.f155.results.toList))) (.exit 2) ⟨[(4,.one (.sl .i32 x4 (some 1017))),(9,.one (.sl .i32 x9 (some 143))),(10,.one (.int .i64 aP)),(60,.one (.bool Ca))],[143,1017]⟩=
  bif A3 (Ey x9+4) 4 then(bif D0 (x9++[10,34,34,34])then(some (.tup [.str ((J9 (x9++[10,34,34,34])).1),.bool true]))else none)else none:=by
 kernel_rfl
def B3k:T6:=λf ls=>match f with
 |52=>S223 ls
 |121=>S53 ls
 |125=>S35 ls
 |198=>S39 ls
 |199=>B3J ls
 |200=>S56 ls
 |201=>B33 ls
 |_=>none
def M1:Env Ty6 A4:=mk6 B3k noC (lkE [(0,[2,3]),(1,[16,17,18,19,20,21]),(2,[5,22,23,24]),(3,[0,4,25]),(4,[25]),(5,[26,27,28]),(6,[30,31,45]),(7,[29,32,33,34,35,36]),(8,[7,37,38,39,40,41,42,43,44]),(9,[0,4,6,45]),(10,[6,29]),(11,[0,46]),(12,[4,8,47,48,49,50]),(13,[4,47,51,52]),(14,[53,54]),(15,[10,55]),(16,[8,9,56]),(17,[56,57]),(18,[58,59,60,61,62,63,64,65,66,67,68]),(19,[69,70,71]),(20,[69]),(21,[72,73,74]),(22,[76,77]),(23,[75,78,79,80,81,82]),(24,[13,15,83,84,85,86,87]),(25,[14,88,89,90,91]),(26,[8,9,11,12,75,92,93,94])]) 95
def A9h(x0:DT)(x4:DS)(x6:Int):S6:=⟨[(0,.one (.str x0)),(4,.one (.sl .i32 x4 (some 1019))),(6,.one (.int .i64 x6))],[1019]⟩
def A2u(x8:DT)(x9:Ef)(cg:DT)(b9:Int):S6:=⟨[(8,.one (.str x8)),(9,.one (.sl .rs x9 (some 1052))),(11,.one (.str cg)),(12,.one (.int .i64 b9))],[1052]⟩
def B3B(n:Nat)(a0:DT):A5 M1 n Fy [.str a0]=
  bif A3 (Ey a0) 1 then(bif isB (Gk (λ(c:UInt8)=>(c.toNat:Int)) a0)&&smL (Gk (λ(c:UInt8)=>(c.toNat:Int)) a0)then(bif(((C3 (toB (Gk (λ(c:UInt8)=>(c.toNat:Int)) a0))).2:Nat):Int) !=(Ey a0:Int)then(some (.tup [.str [],.bool false]))else(C8 (lbC M1 (A2 Fy [1,1,1,0,1,0,0]) 10005 n) n (A9h a0 ((C3 (toB (Gk (λ(c:UInt8)=>(c.toNat:Int)) a0))).1) 0) (A7 0 (C1 (B2 M1 n (A2 Fy [1,1,1,1])) (B3 M1 Tryz.f163.results.toList)))))else none)else none:=by
 kernel_rfl
def C4T(n:Nat)(x0:DT)(x4:DS)(x6:Int)(K:Ex->S6->DU):lbC M1 (A2 Fy [1,1,1,0,1,0,0]) 10005 n (A9h x0 x4 x6) K=
  bif decide (x6<(Ey x4:Int))then(match idx x4 x6 with|none=>none|some y1=>(bif(!(M6 y1))==false then(match idx x4 x6 with|none=>none|some y2=>(bif y2==13 then(K .ret ⟨[(2,.one (.str [])),(3,.one (.bool false))],[]⟩)else(K .normal (A9h x0 x4 (Ew .i64 (x6+1))))))else(K .ret ⟨[(2,.one (.str [])),(3,.one (.bool false))],[]⟩)))else(K (.exit 0) ⟨[(0,.one (.str x0)),(4,.one (.sl .i32 x4 (some 1019))),(6,.one (.int .i64 x6)),(29,.one (.bool (decide (x6<(Ey x4:Int)))))],[1019]⟩):=by
 kernel_rfl
def C0q(n:Nat)(x0:DT)(x4:DS)(x6:Int)(sZ:Bool):(A7 0 (C1 (B2 M1 n (A2 Fy [1,1,1,1])) (B3 M1 Tryz.f163.results.toList))) (.exit 0) ⟨[(0,.one (.str x0)),(4,.one (.sl .i32 x4 (some 1019))),(6,.one (.int .i64 x6)),(29,.one (.bool sZ))],[1019]⟩=
  bif x0==[]then(bif decide (Ey [34,34,34]+Ey [34,34,34]<=9223372036854775807)then(some (.tup [.str ([34,34,34]++[34,34,34]),.bool true]))else none)else(bif smL x4 then(bif M3 (B5 x4)&&decide (1<=Ey (B5 x4))then(bif !(U7 (B5 x4))then(some (.tup [.str [],.bool false]))else(bif(decide ((Ey (B5 x4):Int)>1))==false then(match idx (B5 x4) 0 with|none=>none|some y3=>(match idx y3 0 with|none=>none|some y4=>(bif !(K6 y4)then(bif decide (Ey [34,34,34]+Ey [10]<=9223372036854775807)then(C8 (lbC M1 (A2 Fy [1,1,1,1,1,1,1,1,1,1,1,0,1,0,0]) 10021 n) n (A2u [34,34,34] (B5 x4) ([34,34,34]++[10]) 0) (A7 2 (C1 (B2 M1 n (A2 Fy [1,1,1,1,1,1,1,1,1,1,1,1])) (B3 M1 Tryz.f163.results.toList))))else none)else(C8 (lbC M1 (A2 Fy [1,1,1,1,1,1,1,1,1,1,1,0,1,0,0]) 10021 n) n (A2u [34,34,34] (B5 x4) [34,34,34] 0) (A7 2 (C1 (B2 M1 n (A2 Fy [1,1,1,1,1,1,1,1,1,1,1,1])) (B3 M1 Tryz.f163.results.toList)))))))else(bif decide (Ey [34,34,34]+Ey [10]<=9223372036854775807)then(C8 (lbC M1 (A2 Fy [1,1,1,1,1,1,1,1,1,1,1,0,1,0,0]) 10021 n) n (A2u [34,34,34] (B5 x4) ([34,34,34]++[10]) 0) (A7 2 (C1 (B2 M1 n (A2 Fy [1,1,1,1,1,1,1,1,1,1,1,1])) (B3 M1 Tryz.f163.results.toList))))else none)))else none)else none):=by
 kernel_rfl
def D3d(n:Nat)(x8:DT)(x9:Ef)(cg:DT)(b9:Int)(K:Ex->S6->DU):lbC M1 (A2 Fy [1,1,1,1,1,1,1,1,1,1,1,0,1,0,0]) 10021 n (A2u x8 x9 cg b9) K=
  bif decide (b9<(Ey x9:Int))then(match idx x9 b9 with|none=>none|some y5=>(bif smL y5 then(bif D0 (maskF y5)then(bif decide (Ey cg+Ey ((J9 (maskF y5)).1)<=9223372036854775807)then(bif decide (Ey (cg++((J9 (maskF y5)).1))+Ey [10]<=9223372036854775807)then(K .normal (A2u x8 x9 ((cg++((J9 (maskF y5)).1))++[10]) (Ew .i64 (b9+1))))else none)else none)else none)else none))else(K (.exit 2) ⟨[(8,.one (.str x8)),(9,.one (.sl .rs x9 (some 1052))),(11,.one (.str cg)),(12,.one (.int .i64 b9)),(75,.one (.bool (decide (b9<(Ey x9:Int)))))],[1052]⟩):=by
 kernel_rfl
def D6I(n:Nat)(x8:DT)(x9:Ef)(cg:DT)(b9:Int)(Cb:Bool):(A7 2 (C1 (B2 M1 n (A2 Fy [1,1,1,1,1,1,1,1,1,1,1,1])) (B3 M1 Tryz.f163.results.toList))) (.exit 2) ⟨[(8,.one (.str x8)),(9,.one (.sl .rs x9 (some 1052))),(11,.one (.str cg)),(12,.one (.int .i64 b9)),(75,.one (.bool Cb))],[1052]⟩=
  bif decide (Ey cg+Ey x8<=9223372036854775807)then(some (.tup [.str (cg++x8),.bool true]))else none:=by
 kernel_rfl
def B6W:T6:=λf ls=>match f with
 |217=>B6L ls
 |_=>none
def A3w:Env Ty6 A4:=mk6 B6W noC (lkE [(0,[2,3]),(1,[0,10]),(3,[11]),(5,[13,14,15,16]),(6,[17]),(7,[8,18,19,20,21,22,23,24,25]),(8,[9,26]),(9,[4,5,6,7,12,27,28,29]),(10,[6,7,18,27,30,31,32,33]),(11,[4,5,12,13,14,34,35,36])]) 37
def A9n(x4:DT)(x5:DS)(b9:DT)(cA:Nat):S6:=⟨[(4,.one (.str x4)),(5,.one (.sl .i32 x5 (some 105))),(12,.iter b9 cA)],[105]⟩
def C7D(n:Nat)(a0:DT):A5 A3w n Jh [.str a0]=
  C8 (lbC A3w (A2 Jh [1,1,1,0,1,0,0]) 10004 n) n (A9n a0 [] a0 0) (A7 0 (C1 (B2 A3w n (A2 Jh [1,1,1,1])) (B3 A3w Tryz.f190.results.toList))):=by
 kernel_rfl
def C7B(n:Nat)(x4:DT)(x5:DS)(b9:DT)(cA:Nat)(K:Ex->S6->DU):lbC A3w (A2 Jh [1,1,1,0,1,0,0]) 10004 n (A9n x4 x5 b9 cA) K=
  bif decide (cA<Ey b9)then(bif((Ig ⟨b9.toArray⟩ cA).1:Int)==65533 then(match sub x4 (cA:Int) (Ey x4:Int)with|none=>none|some y1=>(bif true then(bif((dgF y1).2)==1 then(K .ret ⟨[(2,.one (.sl .i32 x5 (some 105))),(3,.one (.int .i64 (cA:Int)))],[105]⟩)else(bif A3 (Ey x5+1) 4 then(K .normal (A9n x4 (x5++[((Ig ⟨b9.toArray⟩ cA).1:Int)]) b9 (cA+(Ig ⟨b9.toArray⟩ cA).2)))else none))else none))else(bif A3 (Ey x5+1) 4 then(K .normal (A9n x4 (x5++[((Ig ⟨b9.toArray⟩ cA).1:Int)]) b9 (cA+(Ig ⟨b9.toArray⟩ cA).2)))else none))else(K (.exit 0) ⟨[(4,.one (.str x4)),(5,.one (.sl .i32 x5 (some 105))),(12,.iter b9 cA),(13,.tup [.bool false]),(14,.one (.bool false))],[105]⟩):=by
 kernel_rfl
def C6Q(n:Nat)(x4:DT)(x5:DS)(b9:DT)(cA:Nat):(A7 0 (C1 (B2 A3w n (A2 Jh [1,1,1,1])) (B3 A3w Tryz.f190.results.toList))) (.exit 0) ⟨[(4,.one (.str x4)),(5,.one (.sl .i32 x5 (some 105))),(12,.iter b9 cA),(13,.tup [.bool false]),(14,.one (.bool false))],[105]⟩=
  some (.tup [.sl .i32 x5 (some 1),.int .i64 (Ey x4:Int)]):=by
 kernel_rfl
def A2V:Env Ty6 A4:=mk6 noT noC (lkE [(0,[4]),(1,[6,7,8,9]),(2,[0,1,10]),(3,[10]),(4,[11,12,13]),(5,[15,16,25]),(6,[14,17,18,19,20,21,22,23,24]),(7,[0,1,5,25]),(8,[0,1,5,14])]) 26
def B0R(x0:DS)(x1:DS)(x5:Int):S6:=⟨[(0,.one (.sl .u8 x0 none)),(1,.one (.sl .u8 x1 none)),(5,.one (.int .i64 x5))],[]⟩
def C5k(n:Nat)(a0:DS)(a1:DS):A5 A2V n Jj [.sl .u8 a0 none,.sl .u8 a1 none]=
  bif(Ey a0:Int) !=(Ey a1:Int)then(some (.one (.bool false)))else(C8 (lbC A2V (A2 Jj [1,1,0,1,0,0]) 10004 n) n (B0R a0 a1 0) (A7 0 (C1 (B2 A2V n (A2 Jj [1,1,1])) (B3 A2V Tryz.f173.results.toList)))):=by
 kernel_rfl
def C8C(n:Nat)(x0:DS)(x1:DS)(x5:Int)(K:Ex->S6->DU):lbC A2V (A2 Jj [1,1,0,1,0,0]) 10004 n (B0R x0 x1 x5) K=
  bif decide (x5<(Ey x0:Int))then(match idx x0 x5 with|none=>none|some y1=>(match idx x1 x5 with|none=>none|some y2=>(bif y1 !=y2 then(K .ret ⟨[(4,.one (.bool false))],[]⟩)else(K .normal (B0R x0 x1 (Ew .i64 (x5+1)))))))else(K (.exit 0) ⟨[(0,.one (.sl .u8 x0 none)),(1,.one (.sl .u8 x1 none)),(5,.one (.int .i64 x5)),(14,.one (.bool (decide (x5<(Ey x0:Int)))))],[]⟩):=by
 kernel_rfl
def C8b(n:Nat)(x0:DS)(x1:DS)(x5:Int)(cr:Bool):(A7 0 (C1 (B2 A2V n (A2 Jj [1,1,1])) (B3 A2V Tryz.f173.results.toList))) (.exit 0) ⟨[(0,.one (.sl .u8 x0 none)),(1,.one (.sl .u8 x1 none)),(5,.one (.int .i64 x5)),(14,.one (.bool cr))],[]⟩=
  some (.one (.bool true)):=by
 kernel_rfl
def A25:Env Ty6 A4:=mk6 noT noC (lkE [(0,[2]),(1,[6]),(2,[3,7,8,9,10,11,12,13,14,15,16]),(4,[17,18,19]),(5,[21,22]),(6,[20,23,24,25,26,27,28,29,30,31]),(7,[0,4,5,20,32,33])]) 34
def B2v(x0:DS)(x4:Int)(x5:Int):S6:=⟨[(0,.one (.sl .u8 x0 none)),(4,.one (.int .i64 x4)),(5,.one (.int .i64 x5))],[]⟩
def D53(n:Nat)(a0:DS):A5 A25 n Jk [.sl .u8 a0 none]=
  match idx a0 0 with|none=>none|some y1=>(match idx [0,128,32,16,8] (Ey a0:Int)with|none=>none|some y2=>(bif !decide (y2=0)then(C8 (lbC A25 (A2 Jk [1,1,1,0,1,0,0]) 10004 n) n (B2v a0 (Ge (Ew .i64 y1) y2) 1) (A7 0 (C1 (B2 A25 n (A2 Jk [1,1,1,1])) (B3 A25 Tryz.f171.results.toList))))else none)):=by
 kernel_rfl
def D15(n:Nat)(x0:DS)(x4:Int)(x5:Int)(K:Ex->S6->DU):lbC A25 (A2 Jk [1,1,1,0,1,0,0]) 10004 n (B2v x0 x4 x5) K=
  bif decide (x5<(Ey x0:Int))then(match idx x0 x5 with|none=>none|some y3=>(K .normal (B2v x0 (Ew .i64 ((Ew .i64 (x4*64))+(Ge (Ew .i64 y3) 64))) (Ew .i64 (x5+1)))))else(K (.exit 0) ⟨[(0,.one (.sl .u8 x0 none)),(4,.one (.int .i64 x4)),(5,.one (.int .i64 x5)),(20,.one (.bool (decide (x5<(Ey x0:Int)))))],[]⟩):=by
 kernel_rfl
def D4N(n:Nat)(x0:DS)(x4:Int)(x5:Int)(wN:Bool):(A7 0 (C1 (B2 A25 n (A2 Jk [1,1,1,1])) (B3 A25 Tryz.f171.results.toList))) (.exit 0) ⟨[(0,.one (.sl .u8 x0 none)),(4,.one (.int .i64 x4)),(5,.one (.int .i64 x5)),(20,.one (.bool wN))],[]⟩=
  some (.one (.int .i32 (Ew .i32 x4))):=by
 kernel_rfl
def B7i:T6:=λf ls=>match f with
 |171=>B5x ls
 |172=>S50 ls
 |173=>B6C ls
 |_=>none
def A1F:Env Ty6 A4:=mk6 B7i noC (lkE [(0,[2,3]),(2,[7,8,9,10,11,12,13]),(3,[5,15,16,33]),(4,[14,17,18,19,20]),(5,[21,22]),(6,[6,23,24,25,26,27,28,29,30,31,32]),(7,[0,4,5,33,34,35]),(8,[0,4,14])]) 36
def A6L(x0:DS)(x4:Int):S6:=⟨[(0,.one (.sl .u8 x0 none)),(4,.one (.int .i64 x4))],[]⟩
def C6h(n:Nat)(a0:DS):A5 A1F n Hw [.sl .u8 a0 none]=
  C8 (lbC A1F (A2 Hw [1,0,1,0,0]) 10002 n) n (A6L a0 1) (A7 0 (C1 (B2 A1F n (A2 Hw [1,1])) (B3 A1F Tryz.f120.results.toList))):=by
 kernel_rfl
def D0b(n:Nat)(x0:DS)(x4:Int)(K:Ex->S6->DU):lbC A1F (A2 Hw [1,0,1,0,0]) 10002 n (A6L x0 x4) K=
  bif(decide (x4<=4))==true then(bif decide (x4<=(Ey x0:Int))then(match sub x0 0 x4 with|none=>none|some y1=>(bif isB y1&&decide (1<=Ey y1)&&decide (Ey y1<=4)then(bif((Ey (P3 (I9 y1)):Int)==x4)==true then(match sub x0 0 x4 with|none=>none|some y2=>(bif A3 (Ey (P3 (I9 y1))) 1&&A3 (Ey y2) 1 then(bif eqI (P3 (I9 y1)) y2 then(K .ret ⟨[(2,.one (.int .i32 (I9 y1))),(3,.one (.int .i64 x4))],[]⟩)else(K .normal (A6L x0 (Ew .i64 (x4+1)))))else none))else(K .normal (A6L x0 (Ew .i64 (x4+1)))))else none))else(K (.exit 0) ⟨[(0,.one (.sl .u8 x0 none)),(4,.one (.int .i64 x4)),(14,.one (.bool (decide (x4<=(Ey x0:Int)))))],[]⟩))else(K (.exit 0) ⟨[(0,.one (.sl .u8 x0 none)),(4,.one (.int .i64 x4)),(14,.one (.bool false))],[]⟩):=by
 kernel_rfl
def D6S(n:Nat)(x0:DS)(x4:Int)(cr:Bool):(A7 0 (C1 (B2 A1F n (A2 Hw [1,1])) (B3 A1F Tryz.f120.results.toList))) (.exit 0) ⟨[(0,.one (.sl .u8 x0 none)),(4,.one (.int .i64 x4)),(14,.one (.bool cr))],[]⟩=
  some (.tup [.int .i32 0,.int .i64 0]):=by
 kernel_rfl
def C6A(n:Nat)(x0:DS)(x4:Int):(A7 0 (C1 (B2 A1F n (A2 Hw [1,1])) (B3 A1F Tryz.f120.results.toList))) (.exit 0) ⟨[(0,.one (.sl .u8 x0 none)),(4,.one (.int .i64 x4)),(14,.one (.bool false))],[]⟩=
  some (.tup [.int .i32 0,.int .i64 0]):=by
 kernel_rfl
def B24:T6:=λf ls=>match f with
 |120=>B4J ls
 |_=>none
def A1L:Env Ty6 A4:=mk6 B24 noC (lkE [(0,[2,3]),(3,[8,9,10]),(4,[11,12,13,14,15,16,17,18]),(5,[19]),(6,[6,20,21,22,23,24]),(7,[7,25,26,27]),(8,[0,4,5,6,7,11,20,28,29])]) 30
def A8Y(x0:DS)(x4:DS)(x5:Int):S6:=⟨[(0,.one (.sl .u8 x0 none)),(4,.one (.sl .i32 x4 (some 104))),(5,.one (.int .i64 x5))],[104]⟩
def D28(n:Nat)(a0:DS):A5 A1L n Ht [.sl .u8 a0 none]=
  C8 (lbC A1L (A2 Ht [1,1,1,0,0,0]) 10003 n) n (A8Y a0 [] 0) (A7 0 (C1 (B2 A1L n (A2 Ht [1,1,1,1])) (B3 A1L Tryz.f52.results.toList))):=by
 kernel_rfl
def D7n(n:Nat)(x0:DS)(x4:DS)(x5:Int)(K:Ex->S6->DU):lbC A1L (A2 Ht [1,1,1,0,0,0]) 10003 n (A8Y x0 x4 x5) K=
  bif decide (x5<(Ey x0:Int))then(match sub x0 x5 (Ey x0:Int)with|none=>none|some y1=>(bif isB y1&&decide (1<=Ey y1)&&A3 (Ey y1) 1 then(bif((R1 y1).2)==0 then(K (.exit 0) ⟨[(0,.one (.sl .u8 x0 none)),(4,.one (.sl .i32 x4 (some 104))),(5,.one (.int .i64 x5)),(6,.one (.int .i32 ((R1 y1).1))),(7,.one (.int .i64 ((R1 y1).2))),(20,.one (.bool (((R1 y1).2)==0)))],[104]⟩)else(bif A3 (Ey x4+1) 4 then(K .normal (A8Y x0 (x4++[(R1 y1).1]) (Ew .i64 (x5+((R1 y1).2)))))else none))else none))else(K (.exit 0) ⟨[(0,.one (.sl .u8 x0 none)),(4,.one (.sl .i32 x4 (some 104))),(5,.one (.int .i64 x5)),(11,.one (.bool (decide (x5<(Ey x0:Int)))))],[104]⟩):=by
 kernel_rfl
def C5J(n:Nat)(x0:DS)(x4:DS)(x5:Int)(x6:Int)(x7:Int)(wN:Bool):(A7 0 (C1 (B2 A1L n (A2 Ht [1,1,1,1])) (B3 A1L Tryz.f52.results.toList))) (.exit 0) ⟨[(0,.one (.sl .u8 x0 none)),(4,.one (.sl .i32 x4 (some 104))),(5,.one (.int .i64 x5)),(6,.one (.int .i32 x6)),(7,.one (.int .i64 x7)),(20,.one (.bool wN))],[104]⟩=
  some (.tup [.sl .i32 x4 (some 1),.int .i64 x5]):=by
 kernel_rfl
def D7b(n:Nat)(x0:DS)(x4:DS)(x5:Int)(cg:Bool):(A7 0 (C1 (B2 A1L n (A2 Ht [1,1,1,1])) (B3 A1L Tryz.f52.results.toList))) (.exit 0) ⟨[(0,.one (.sl .u8 x0 none)),(4,.one (.sl .i32 x4 (some 104))),(5,.one (.int .i64 x5)),(11,.one (.bool cg))],[104]⟩=
  some (.tup [.sl .i32 x4 (some 1),.int .i64 x5]):=by
 kernel_rfl
def B5D:Env Ty6 A4:=mk6 noT noC (lkE [(0,[2,3,4]),(1,[5,6,7,8,9]),(2,[0,10]),(3,[10,11,12]),(4,[0,13,14,15,16,17,18])]) 19
def C84(n:Nat)(a0:Int):A5 B5D n Tryz.f222 [.int .i32 a0]=
  bif(decide (a0<65536))==false then(bif decide (a0>1114111)then(some (.tup [.int .i32 0,.int .i32 0,.bool false]))else(some (.tup [.int .i32 (Ew .i32 (55296+((Ew .i32 (a0 - 65536)) / 2^(Ez 10)))),.int .i32 (Ew .i32 (56320+(bits .and .i32 (Ew .i32 (a0 - 65536)) 1023))),.bool true])))else(some (.tup [.int .i32 0,.int .i32 0,.bool false])):=by
 kernel_rfl
def B3d:Env Ty6 A4:=mk6 noT noC (lkE [(0,[2,3,4]),(1,[6,7,8,9,10]),(2,[0,11]),(3,[0,11,12,13]),(4,[5,14,15,16,17,18,19])]) 20
def D0u(n:Nat)(a0:Int):A5 B3d n Tryz.f227 [.int .i32 a0]=
  bif(decide (a0<65536))==false then(bif decide (a0>1114111)then(some (.tup [.int .i32 0,.int .i32 0,.bool false]))else(some (.tup [.int .i32 (Ew .i32 (55296+(Ew .i32 (Gm (Ew .i32 (a0 - 65536)) 1024)))),.int .i32 (Ew .i32 (56320+(Ge (Ew .i32 (a0 - 65536)) 1024))),.bool true])))else(some (.tup [.int .i32 0,.int .i32 0,.bool false])):=by
 kernel_rfl
def A2L:Env Ty6 A4:=mk6 noT noC (lkE [(0,[4]),(1,[6,7,8]),(3,[9]),(4,[11,12]),(5,[10,13,14,15,16,17,18,19,20,21]),(6,[0,1,5,10,22])]) 23
def A6i(x0:DS)(x1:Int)(x5:Int):S6:=⟨[(0,.one (.sl .i32 x0 (some 0))),(1,.one (.int .i32 x1)),(5,.one (.int .i64 x5))],[0]⟩
def D4J(n:Nat)(a0:DS)(a1:Int):A5 A2L n Iy [.sl .i32 a0 (some 0),.int .i32 a1]=
  bif A3 (Ey a0+2) 4 then(C8 (lbC A2L (A2 Iy [1,1,0,1,0,0]) 10003 n) n (A6i (a0++[92,117]) a1 12) (A7 0 (C1 (B2 A2L n (A2 Iy [1,1,1])) (B3 A2L Tryz.f223.results.toList))))else none:=by
 kernel_rfl
def C9i(n:Nat)(x0:DS)(x1:Int)(x5:Int)(K:Ex->S6->DU):lbC A2L (A2 Iy [1,1,0,1,0,0]) 10003 n (A6i x0 x1 x5) K=
  bif decide (x5>=0)then(bif decide (0<=x5)&&decide (x5<=31)&&decide (Kw=Kw)then(match idx [48,49,50,51,52,53,54,55,56,57,65,66,67,68,69,70] (bits .and .i32 (x1 / 2^(Ez x5)) 15)with|none=>none|some y1=>(bif A3 (Ey x0+1) 4 then(K .normal (A6i (x0++[Ew .i32 (Gz y1:Int)]) x1 (Ew .i64 (x5 - 4))))else none))else none)else(K (.exit 0) ⟨[(0,.one (.sl .i32 x0 (some 0))),(1,.one (.int .i32 x1)),(5,.one (.int .i64 x5)),(10,.one (.bool (decide (x5>=0))))],[0]⟩):=by
 kernel_rfl
def D6F(n:Nat)(x0:DS)(x1:Int)(x5:Int)(aP:Bool):(A7 0 (C1 (B2 A2L n (A2 Iy [1,1,1])) (B3 A2L Tryz.f223.results.toList))) (.exit 0) ⟨[(0,.one (.sl .i32 x0 (some 0))),(1,.one (.int .i32 x1)),(5,.one (.int .i64 x5)),(10,.one (.bool aP))],[0]⟩=
  some (.one (.sl .i32 x0 (some 0))):=by
 kernel_rfl
def B5k:T6:=λf ls=>match f with
 |222=>B6l ls
 |223=>B3i ls
 |_=>none
def D6R:Gn->Ed:=λf=>match f with
 |223=>some 0
 |_=>none
def B54:Env Ty6 A4:=mk6 B5k D6R (lkE [(0,[4]),(2,[10]),(3,[11]),(4,[0,1,8,9,12,13,14,15]),(5,[9,17]),(6,[0,1,8,16,18,19,20]),(7,[16,22]),(8,[0,1,8,21,23,24,25]),(9,[21,27]),(10,[0,1,8,26,28,29,30]),(11,[26,32]),(12,[0,1,8,31,33,34,35]),(13,[8,31,37]),(14,[0,1,36,38,39,40]),(15,[36,41,42,43,44,45,46]),(16,[7]),(17,[0,1,5,6,47,48,49,50,51,52]),(18,[5,6,47,53,54,55,56,57]),(19,[0,1,58,59,60,61]),(20,[0,1,58,62,63,64,65])]) 66
def D50(n:Nat)(a0:DS)(a1:Int):A5 B54 n Tryz.f197 [.sl .i32 a0 (some 0),.int .i32 a1]=
  bif a1==34 then(bif a1==34 then(bif A3 (Ey a0+2) 4 then(some (.one (.sl .i32 (a0++[92,a1]) (some 0))))else none)else(bif a1==8 then(bif A3 (Ey a0+2) 4 then(some (.one (.sl .i32 (a0++[92,98]) (some 0))))else none)else(bif a1==9 then(bif A3 (Ey a0+2) 4 then(some (.one (.sl .i32 (a0++[92,116]) (some 0))))else none)else(bif a1==10 then(bif A3 (Ey a0+2) 4 then(some (.one (.sl .i32 (a0++[92,110]) (some 0))))else none)else(bif a1==12 then(bif A3 (Ey a0+2) 4 then(some (.one (.sl .i32 (a0++[92,102]) (some 0))))else none)else(bif a1==13 then(bif A3 (Ey a0+2) 4 then(some (.one (.sl .i32 (a0++[92,114]) (some 0))))else none)else(bif(E0 a1).2.2 then(bif A3 (Ey a0+6) 4&&decide (0<=((E0 a1).1))&&decide (((E0 a1).1)<=65535)then(bif A3 (Ey (L2 a0 (H7 ((E0 a1).1)))+6) 4&&decide (0<=((E0 a1).2.1))&&decide (((E0 a1).2.1)<=65535)then(some (.one (.sl .i32 (L2 (L2 a0 (H7 ((E0 a1).1))) (H7 ((E0 a1).2.1))) (some 0))))else none)else none)else(bif(decide (a1<32))==false then(bif a1==127 then(bif A3 (Ey a0+6) 4&&decide (0<=a1)&&decide (a1<=65535)then(some (.one (.sl .i32 (L2 a0 (H7 a1)) (some 0))))else none)else(bif A3 (Ey a0+1) 4 then(some (.one (.sl .i32 (a0++[a1]) (some 0))))else none))else(bif A3 (Ey a0+6) 4&&decide (0<=a1)&&decide (a1<=65535)then(some (.one (.sl .i32 (L2 a0 (H7 a1)) (some 0))))else none)))))))))else(bif a1==92 then(bif A3 (Ey a0+2) 4 then(some (.one (.sl .i32 (a0++[92,a1]) (some 0))))else none)else(bif a1==8 then(bif A3 (Ey a0+2) 4 then(some (.one (.sl .i32 (a0++[92,98]) (some 0))))else none)else(bif a1==9 then(bif A3 (Ey a0+2) 4 then(some (.one (.sl .i32 (a0++[92,116]) (some 0))))else none)else(bif a1==10 then(bif A3 (Ey a0+2) 4 then(some (.one (.sl .i32 (a0++[92,110]) (some 0))))else none)else(bif a1==12 then(bif A3 (Ey a0+2) 4 then(some (.one (.sl .i32 (a0++[92,102]) (some 0))))else none)else(bif a1==13 then(bif A3 (Ey a0+2) 4 then(some (.one (.sl .i32 (a0++[92,114]) (some 0))))else none)else(bif(E0 a1).2.2 then(bif A3 (Ey a0+6) 4&&decide (0<=((E0 a1).1))&&decide (((E0 a1).1)<=65535)then(bif A3 (Ey (L2 a0 (H7 ((E0 a1).1)))+6) 4&&decide (0<=((E0 a1).2.1))&&decide (((E0 a1).2.1)<=65535)then(some (.one (.sl .i32 (L2 (L2 a0 (H7 ((E0 a1).1))) (H7 ((E0 a1).2.1))) (some 0))))else none)else none)else(bif(decide (a1<32))==false then(bif a1==127 then(bif A3 (Ey a0+6) 4&&decide (0<=a1)&&decide (a1<=65535)then(some (.one (.sl .i32 (L2 a0 (H7 a1)) (some 0))))else none)else(bif A3 (Ey a0+1) 4 then(some (.one (.sl .i32 (a0++[a1]) (some 0))))else none))else(bif A3 (Ey a0+6) 4&&decide (0<=a1)&&decide (a1<=65535)then(some (.one (.sl .i32 (L2 a0 (H7 a1)) (some 0))))else none))))))))):=by
 kernel_rfl
def A26:Env Ty6 A4:=mk6 noT noC (lkE [(0,[2]),(4,[7]),(5,[9,10]),(6,[8,11,12,13,14,15]),(7,[6,16,17,18,19,20,21,22]),(8,[0,3,4,5,8,23])]) 24
def A9W(x0:Int)(x3:DT)(x4:DT)(x5:Int):S6:=⟨[(0,.one (.int .i32 x0)),(3,.one (.str x3)),(4,.one (.str x4)),(5,.one (.int .i64 x5))],[]⟩
def D2z(n:Nat)(a0:Int):A5 A26 n Ix [.int .i32 a0]=
  C8 (lbC A26 (A2 Ix [1,1,1,0,1,0,0]) 10004 n) n (A9W a0 [48,49,50,51,52,53,54,55,56,57,65,66,67,68,69,70] [92,117] 12) (A7 0 (C1 (B2 A26 n (A2 Ix [1,1,1,1])) (B3 A26 Tryz.f226.results.toList))):=by
 kernel_rfl
def D7j(n:Nat)(x0:Int)(x3:DT)(x4:DT)(x5:Int)(K:Ex->S6->DU):lbC A26 (A2 Ix [1,1,1,0,1,0,0]) 10004 n (A9W x0 x3 x4 x5) K=
  bif decide (x5>=0)then(bif decide (0<=x5)&&decide (x5<=31)&&decide (Kw=Kw)then(match sub x3 (bits .and .i64 (Ew .i64 (x0 / 2^(Ez x5))) 15) (Ew .i64 ((bits .and .i64 (Ew .i64 (x0 / 2^(Ez x5))) 15)+1))with|none=>none|some y1=>(bif decide (Ey x4+Ey y1<=9223372036854775807)then(K .normal (A9W x0 x3 (x4++y1) (Ew .i64 (x5 - 4))))else none))else none)else(K (.exit 0) ⟨[(0,.one (.int .i32 x0)),(3,.one (.str x3)),(4,.one (.str x4)),(5,.one (.int .i64 x5)),(8,.one (.bool (decide (x5>=0))))],[]⟩):=by
 kernel_rfl
def C6F(n:Nat)(x0:Int)(x3:DT)(x4:DT)(x5:Int)(x8:Bool):(A7 0 (C1 (B2 A26 n (A2 Ix [1,1,1,1])) (B3 A26 Tryz.f226.results.toList))) (.exit 0) ⟨[(0,.one (.int .i32 x0)),(3,.one (.str x3)),(4,.one (.str x4)),(5,.one (.int .i64 x5)),(8,.one (.bool x8))],[]⟩=
  some (.one (.str x4)):=by
 kernel_rfl
def B4q:T6:=λf ls=>match f with
 |125=>S35 ls
 |226=>B4t ls
 |227=>B4u ls
 |_=>none
def A3s:Env Ty6 A4:=mk6 B4q noC (lkE [(0,[2]),(4,[11,12,13]),(5,[15,16,22]),(6,[14,17,18,19,20,21]),(7,[0,3,4,5,22,23,24,25,26,27,28]),(8,[3,4,5,14,29,30,31,32,33]),(9,[0,34,35,36]),(10,[34,37,38,39,40,41,42]),(11,[8]),(12,[0,6,7,43,44,45,46,47,48]),(13,[0,6,7,10,43,49,50,51,52,53,54]),(14,[9,55])]) 56
def A9Q(x0:Int)(x3:DT)(x4:DT)(x5:Int):S6:=⟨[(0,.one (.int .i32 x0)),(3,.one (.str x3)),(4,.one (.str x4)),(5,.one (.int .i64 x5))],[]⟩
def D4u(n:Nat)(a0:Int):A5 A3s n Ja [.int .i32 a0]=
  C8 (lbC A3s (A2 Ja [1,1,1,0,1,0,0]) 10004 n) n (A9Q a0 [34,92,98,102,110,114,116] [34,92,8,12,10,13,9] 0) (A7 0 (C1 (B2 A3s n (A2 Ja [1,1,1,1])) (B3 A3s Tryz.f202.results.toList))):=by
 kernel_rfl
def C68(n:Nat)(x0:Int)(x3:DT)(x4:DT)(x5:Int)(K:Ex->S6->DU):lbC A3s (A2 Ja [1,1,1,0,1,0,0]) 10004 n (A9Q x0 x3 x4 x5) K=
  bif decide (x5<(Ey x4:Int))then(match idx x4 x5 with|none=>none|some y1=>(bif(Ew .i32 (Gz y1:Int))==x0 then(match sub x3 x5 (Ew .i64 (x5+1))with|none=>none|some y2=>(bif decide (Ey [92]+Ey y2<=9223372036854775807)then(K .ret ⟨[(2,.one (.str ([92]++y2)))],[]⟩)else none))else(K .normal (A9Q x0 x3 x4 (Ew .i64 (x5+1))))))else(K (.exit 0) ⟨[(0,.one (.int .i32 x0)),(3,.one (.str x3)),(4,.one (.str x4)),(5,.one (.int .i64 x5)),(14,.one (.bool (decide (x5<(Ey x4:Int)))))],[]⟩):=by
 kernel_rfl
def D6k(n:Nat)(x0:Int)(x3:DT)(x4:DT)(x5:Int)(cr:Bool):(A7 0 (C1 (B2 A3s n (A2 Ja [1,1,1,1])) (B3 A3s Tryz.f202.results.toList))) (.exit 0) ⟨[(0,.one (.int .i32 x0)),(3,.one (.str x3)),(4,.one (.str x4)),(5,.one (.int .i64 x5)),(14,.one (.bool cr))],[]⟩=
  bif(decide (x0<32))==false then(bif x0==127 then(bif decide (0<=x0)&&decide (x0<=65535)then(some (.one (.str (B7 (H7 x0)))))else none)else(bif(E0 x0).2.2 then(bif decide (0<=((E0 x0).1))&&decide (((E0 x0).1)<=65535)then(bif decide (0<=((E0 x0).2.1))&&decide (((E0 x0).2.1)<=65535)then(bif decide (Ey (B7 (H7 ((E0 x0).1)))+Ey (B7 (H7 ((E0 x0).2.1)))<=9223372036854775807)then(some (.one (.str ((B7 (H7 ((E0 x0).1)))++(B7 (H7 ((E0 x0).2.1)))))))else none)else none)else none)else(bif D0 [x0]then(some (.one (.str ((J9 [x0]).1))))else none)))else(bif decide (0<=x0)&&decide (x0<=65535)then(some (.one (.str (B7 (H7 x0)))))else none):=by
 kernel_rfl
def B47:T6:=λf ls=>match f with
 |190=>A9J ls
 |196=>S33 ls
 |197=>B5h ls
 |_=>none
def D6Y:Gn->Ed:=λf=>match f with
 |197=>some 0
 |_=>none
def A2q:Env Ty6 A4:=mk6 B47 D6Y (lkE [(0,[2,3]),(1,[11,12,13,14,15]),(2,[0,5,16,17,18]),(3,[4,19]),(4,[19,20]),(5,[4]),(7,[24,25,26]),(8,[8,27,28,29]),(9,[30]),(10,[6,10,21,22,23,24,31,32,33,34,35,36,37]),(11,[9,38])]) 39
def A9V(x6:DS)(ic:DS)(fu:Int)(eY:Int):S6:=⟨[(6,.one (.sl .i32 x6 (some 120))),(21,.one (.sl .i32 ic (some 1013))),(22,.one (.int .i64 fu)),(23,.one (.int .i64 eY))],[120,1013]⟩
def C73(n:Nat)(a0:DT):A5 A2q n Jm [.str a0]=
  bif smS a0 then(bif decide ((((C3 a0).2:Nat):Int)<(Ey a0:Int))then(some (.tup [.str [],.int .i64 1]))else(C8 (lbC A2q (A2 Jm [1,1,1,1,0,1,0,0]) 10006 n) n (A9V [34] ((C3 a0).1) (Ey ((C3 a0).1):Int) 0) (A7 0 (C1 (B2 A2q n (A2 Jm [1,1,1,1,1])) (B3 A2q Tryz.f156.results.toList)))))else none:=by
 kernel_rfl
def D5O(n:Nat)(x6:DS)(ic:DS)(fu:Int)(eY:Int)(K:Ex->S6->DU):lbC A2q (A2 Jm [1,1,1,1,0,1,0,0]) 10006 n (A9V x6 ic fu eY) K=
  bif decide (eY<fu)then(match idx ic eY with|none=>none|some y1=>(bif A3 (Ey x6+12) 4&&D2 y1 then(K .normal (A9V (L2 x6 (wrF y1)) ic fu (Ew .i64 (eY+1))))else none))else(K (.exit 0) ⟨[(6,.one (.sl .i32 x6 (some 120))),(21,.one (.sl .i32 ic (some 1013))),(22,.one (.int .i64 fu)),(23,.one (.int .i64 eY)),(24,.one (.bool (decide (eY<fu))))],[120,1013]⟩):=by
 kernel_rfl
def C9w(n:Nat)(x6:DS)(ic:DS)(fu:Int)(eY:Int)(iW:Bool):(A7 0 (C1 (B2 A2q n (A2 Jm [1,1,1,1,1])) (B3 A2q Tryz.f156.results.toList))) (.exit 0) ⟨[(6,.one (.sl .i32 x6 (some 120))),(21,.one (.sl .i32 ic (some 1013))),(22,.one (.int .i64 fu)),(23,.one (.int .i64 eY)),(24,.one (.bool iW))],[120,1013]⟩=
  bif A3 (Ey x6+1) 4 then(bif D0 (x6++[34])then(some (.tup [.str ((J9 (x6++[34])).1),.int .i64 0]))else none)else none:=by
 kernel_rfl
def B5F:T6:=λf ls=>match f with
 |52=>S223 ls
 |202=>B2Y ls
 |_=>none
def A08:Env Ty6 A4:=mk6 B5F noC (lkE [(0,[2,3]),(1,[9,10,11,12,13,14]),(2,[0,5,15,16,17]),(3,[4,18]),(4,[18]),(6,[19,20,21]),(7,[23,24]),(8,[22,25,26,27,28,29]),(9,[8,30,31,32]),(10,[4,6,7,22,33,34])]) 35
def B2c(x4:DS)(x6:DT)(x7:Int):S6:=⟨[(4,.one (.sl .i32 x4 (some 1012))),(6,.one (.str x6)),(7,.one (.int .i64 x7))],[1012]⟩
def B5r(n:Nat)(a0:DT):A5 A08 n Jl [.str a0]=
  bif A3 (Ey a0) 1 then(bif isB (Gk (λ(c:UInt8)=>(c.toNat:Int)) a0)&&smL (Gk (λ(c:UInt8)=>(c.toNat:Int)) a0)then(bif(((C3 (toB (Gk (λ(c:UInt8)=>(c.toNat:Int)) a0))).2:Nat):Int) !=(Ey a0:Int)then(some (.tup [.str [],.int .i64 1]))else(C8 (lbC A08 (A2 Jl [1,1,1,1,0,1,0,0]) 10006 n) n (B2c ((C3 (toB (Gk (λ(c:UInt8)=>(c.toNat:Int)) a0))).1) [34] 0) (A7 0 (C1 (B2 A08 n (A2 Jl [1,1,1,1,1])) (B3 A08 Tryz.f164.results.toList)))))else none)else none:=by
 kernel_rfl
def D0F(n:Nat)(x4:DS)(x6:DT)(x7:Int)(K:Ex->S6->DU):lbC A08 (A2 Jl [1,1,1,1,0,1,0,0]) 10006 n (B2c x4 x6 x7) K=
  bif decide (x7<(Ey x4:Int))then(match idx x4 x7 with|none=>none|some y1=>(bif D2 y1 then(bif decide (Ey x6+Ey (B7 (wrF y1))<=9223372036854775807)then(K .normal (B2c x4 (x6++(B7 (wrF y1))) (Ew .i64 (x7+1))))else none)else none))else(K (.exit 0) ⟨[(4,.one (.sl .i32 x4 (some 1012))),(6,.one (.str x6)),(7,.one (.int .i64 x7)),(22,.one (.bool (decide (x7<(Ey x4:Int)))))],[1012]⟩):=by
 kernel_rfl
def D5f(n:Nat)(x4:DS)(x6:DT)(x7:Int)(fu:Bool):(A7 0 (C1 (B2 A08 n (A2 Jl [1,1,1,1,1])) (B3 A08 Tryz.f164.results.toList))) (.exit 0) ⟨[(4,.one (.sl .i32 x4 (some 1012))),(6,.one (.str x6)),(7,.one (.int .i64 x7)),(22,.one (.bool fu))],[1012]⟩=
  bif decide (Ey x6+Ey [34]<=9223372036854775807)then(some (.tup [.str (x6++[34]),.int .i64 0]))else none:=by
 kernel_rfl
end Go.Aev.Bv
namespace Go.Aev.Bv
open Go.Lib
def B05{l:DT}:Y7 l=true↔((Fb l).1=65533/\(Fb l).2=1):=by simp[Y7]
def B7x(l:DT):D2 ((Fb l).1:Int)=true:=by
 rw[decodeL_N];have h:=decodeN_valid l.length (l.getD 0 0).toNat (l.getD 1 0).toNat (l.getD 2 0).toNat (l.getD 3 0).toNat (UInt8.toNat_lt _);rw[X0];omega
def D7e{c:Int}(h:D2 c=true):encodeRune c=toB (u8F c):=by
 rw[X0]at h;unfold encodeRune toB u8F;by_cases h1:c<128
 ·rw[encodeRuneZ_one Du Du,El h1]
 rw[Ek h1];by_cases h2:c<2048
 ·rw[encodeRuneZ_two Du Du,El h2]
 rw[Ek h2];by_cases h3:c<65536
 ·rw[encodeRuneZ_three Du,El h3]
 ·rw[encodeRuneZ_four Du Du,Ek h3]
def C0D{l:DT}(aC:l≠[])(hv:Y7 l=false):toB (u8F ((Fb l).1:Int))=l.take (Fb l).2:=by
 rw[<-D7e (B7x l)];refine encode_decode l aC (λh=>?_);rw[B05.2 h]at hv;cases hv
def B8a(a b:DS):toB (a++b)=toB a++toB b:=by simp[toB]
def A0U(c:Int)(cs:DS):B7 (c::cs)=toB (u8F c)++B7 cs:=by unfold B7;rw[Gr,B8a]
def A8Z:B7 []=[]:=rfl
def A0v(l:DS):(toB l).length=l.length:=by simp[toB]
def A03{k:Nat}(h:k<256):(Ih k).toNat=k:=by simp[Nat.mod_eq_of_lt h]
def C3X{c:Int}(h:D2 c=true)(t:DT):Fb (toB (u8F c)++t)=(c.toNat,(u8F c).length)/\Y7 (toB (u8F c)++t)=false:=by
 rw[X0]at h;have bE:Fb (toB (u8F c)++t)=(c.toNat,(u8F c).length):=by
  rw[decodeL_N];unfold u8F;by_cases h1:c<128
  ·rw[El h1];simp only[toB,Gg,Jy,Gt,Ia,Kt,Fm,Gl];rw[A03 Du,decodeN_ascii _ _ _ _ _ Du]
  rw[Ek h1];by_cases h2:c<2048
  ·rw[El h2];simp only[toB,Gg,Jy,Gt,Ia,Kt,Mg,Fm,Gl];rw[A03 Du,A03 Du];unfold decodeN;rw[Ek Du,El Du,El Du];exact Lu Er rfl
  rw[Ek h2];by_cases h3:c<65536
  ·rw[El h3];simp only[toB,Gg,Jy,Gt,Ia,Kt,Mg,Fm,Gl];rw[A03 Du,A03 Du,A03 Du];unfold decodeN;rw[Ek Du,Ek Du,El Du,El Du];exact Lu Er rfl
  ·rw[Ek h3];simp only[toB,Gg,Jy,Gt,Ia,Kt,Mg,Fm,Gl];rw[A03 Du,A03 Du,A03 Du,A03 Du];unfold decodeN;rw[Ek Du,Ek Du,Ek Du,El Du,El Du];exact Lu Er rfl
 refine⟨bE,?_⟩;cases hb:Y7 (toB (u8F c)++t)with
 |false=>rfl
 |true=>
  have:=B05.1 hb;rw[bE]at this;dsimp only at this;have hl:(u8F c).length≠1:=by
   unfold u8F;rw[Ek Du];split
   ·simp
   ·split<;>simp
  exact absurd this.2 hl
def D6M:∀(n m:Nat)(l:DT),l.length<=n->l.length<=m->A1P n l=A1P m l:=by
 intro n
 induction n with
 |zero=>
  intro m l h1 h2;have:l=[]:=Ha Du;subst this;cases m<;>simp[A1P]
 |succ n ih=>
  intro m l h1 h2;cases m with
  |zero=>
   have:l=[]:=Ha Du;subst this;simp[A1P]
  |succ m=>
   unfold A1P;by_cases aC:l=[]
   ·rw[El aC,El aC]
   ·have hw:=If l;have hl:0<l.length:=Jz.2 aC;rw[Ek aC,Ek aC,ih m (l.drop (Fb l).2) (by rw[Fh];omega) (by rw[Fh];omega)]
def B0E:C3 []=([],0):=rfl
def B7z{l:DT}(h:Y7 l=true):C3 l=([],0):=by
 unfold C3;cases hl:l.length with
 |zero=>rfl
 |succ n=>
  unfold A1P;rw[El h];split<;>rfl
def B1v{l:DT}(aC:l≠[])(h:Y7 l=false):C3 l=(((Fb l).1:Int)::(C3 (l.drop (Fb l).2)).1,(Fb l).2+(C3 (l.drop (Fb l).2)).2):=by
 have hl:0<l.length:=Jz.2 aC;have hw:=If l;obtain⟨n,hn⟩:∃n,l.length=n+1:=⟨l.length - 1,Du⟩
 conv=>lhs;unfold C3
 rw[hn];unfold A1P;rw[Ek aC,h];unfold C3;rw[D6M n (l.drop (Fb l).2).length _ (by rw[Fh];omega) (Ff _)];rfl
def decF_enc:∀(n:Nat)(l:DT),l.length<=n->B7 (C3 l).1=l.take (C3 l).2/\(C3 l).1.all D2=true/\(C3 l).2<=l.length/\(C3 l).1.length<=(C3 l).2:=by
 intro n
 induction n with
 |zero=>
  intro l hl;have:l=[]:=Ha Du;subst this;simp[B0E,A8Z]
 |succ n ih=>
  intro l hl;by_cases aC:l=[]
  ·subst aC;simp[B0E,A8Z]
  ·cases hb:Y7 l with
   |true=>rw[B7z hb];simp[A8Z]
   |false=>
    have hw:=If l;have bh:=Kg l aC;have cV:0<l.length:=Jz.2 aC;obtain⟨i1,i2,i3,i4⟩:=ih (l.drop (Fb l).2) (by rw[Fh];omega);rw[Fh]at i3;rw[B1v aC hb];dsimp only;refine⟨?_,?_,Du,Es⟩
    ·rw[A0U,C0D aC hb,i1,List.take_add]
    ·rw[Fx,B7x,i2];rfl
def C16:∀(cs:DS),cs.all D2=true->C3 (B7 cs)=(cs,(B7 cs).length)
 |[],_=>rfl
 |c::cs,h=>by
  rw[Fx]at h;simp only[Fs]at h;have ih:=C16 cs h.2;obtain⟨d1,d2⟩:=C3X h.1 (B7 cs);have hu:=A74 c;rw[A0U];have aC:toB (u8F c)++B7 cs≠[]:=by
   intro e;have:=congrArg Ey e;rw[Gc,A0v,Gl]at this;omega
  have ta:(toB (u8F c)++B7 cs).drop (u8F c).length=B7 cs:=by
   rw[List.drop_append_of_le_length (by rw[A0v];omega),List.drop_of_length_le (by rw[A0v];omega)];rfl
  rw[B1v aC d2,d1];dsimp only;rw[ta,ih];have hc:=(X0.1 h.1);rw[Gc,A0v];have:((c.toNat:Nat):Int)=c:=Du
  rw[this]
def C8I(cs:DS):cs.length<=(B7 cs).length:=by
 induction cs with
 |nil=>simp
 |cons c cs ih=>have:=A74 c;rw[A0U,Gc,A0v];simp;omega
end Go.Aev.Bv
namespace Go.Aev.Bv
open Go.Proofs Go.Lib
def A7s{s:DT}:smS s=true↔s.length<=67108864:=by simp[smS]
def C5E(s:DT)(i:Nat)(h:i<s.length):dgF (s.drop i)=(((Fb (s.drop i)).1:Int),((Fb (s.drop i)).2:Int)):=by
 unfold dgF decodeGoB Fb;have:¬(ByteArray.mk (s.drop i).toArray).size=0:=by simp[ByteArray.size];omega
 rw[Ek this]
def A0O(out:DS)(i:Nat)(r:DS×Nat):DU:=some (.tup [.sl .i32 (out++r.1) (some 1),.int .i64 ((i+r.2:Nat):Int)])
def C6E(s:DT)(hs:smS s=true)(n:Nat)(hn:s.length<n):A5 A3w n Jh [.str s]=some (.tup [.sl .i32 (C3 s).1 (some 1),.int .i64 ((C3 s).2:Nat)]):=by
 have av:=A7s.1 hs;rw[C7D];refine(I8 (λp:DS×Nat=>A9n s p.1 s p.2) (λp=>p.1.length<=p.2/\p.2<=s.length) (λp=>s.length - p.2) (λp=>A0O p.1 p.2 (C3 (s.drop p.2))) ?_ n ([],0) Eo Er).trans (by simp[A0O]);rintro⟨out,i⟩ ⟨h1,h2⟩ K bw bX bf;dsimp only at h1 h2 bf ⊢;rw[C7B];by_cases h:i<s.length
 ·have aC:s.drop i≠[]:=by
   intro e;have:=congrArg Ey e;rw[Fh,Gl]at this;omega
  have hd:Ig ⟨s.toArray⟩ i=Fb (s.drop i):=by rw[<-decodeL_drop]
  have hw:=If (s.drop i);have bh:=Kg (s.drop i) aC;rw[Fh]at bh;rw[Ei h,Eg,hd,A75 Du];dsimp only;rw[C5E s i h,G4.2 Du];cases hb:Y7 (s.drop i)with
  |true=>
   obtain⟨b1,b2⟩:=B05.1 hb;rw[beqT (Du:((Fb (s.drop i)).1:Int)=65533)];dsimp only;rw[beqT (Du:((Fb (s.drop i)).2:Int)=1),B7z hb];refine(bX _).trans ?_;simp only[A0O,Fu,Mb];rfl
  |false=>
   have bG:=bf (out++[((Fb (s.drop i)).1:Int)],i+(Fb (s.drop i)).2) ⟨Es,Er⟩ Er;dsimp only at bG;have eG:A0O (out++[((Fb (s.drop i)).1:Int)]) (i+(Fb (s.drop i)).2) (C3 (s.drop (i+(Fb (s.drop i)).2)))=A0O out i (C3 (s.drop i)):=by
    rw[B1v aC hb,Ib];unfold A0O;simp[Md]
   rw[eG]at bG;by_cases b1:(Fb (s.drop i)).1=65533
   ·have b2:(Fb (s.drop i)).2≠1:=λb2=>by rw[B05.2 ⟨b1,b2⟩]at hb;cases hb
    rw[beqT (Du:((Fb (s.drop i)).1:Int)=65533)];dsimp only;rw[beqF (Du:((Fb (s.drop i)).2:Int)≠1)];exact bG
   ·rw[beqF (Du:((Fb (s.drop i)).1:Int)≠65533)];exact bG
 ·rw[Ej h,Eh,bw,C6Q,Fl Du,B0E];have:i=s.length:=Du
  subst this;simp[A0O]
def D7F(a b:DS)(ha:A3 a.length 1=true)(hb:A3 b.length 1=true)(n:Nat)(hn:a.length<n):A5 A2V n Jj [.sl .u8 a none,.sl .u8 b none]=some (.one (.bool (eqI a b))):=by
 have h1:=G4.1 ha;rw[C5k];by_cases hl:a.length=b.length
 ·rw[A0z (Du:(a.length:Int)=(b.length:Int)),Eh];refine(I8 (λi:Nat=>B0R a b i) (λi=>i<=a.length) (λi=>a.length - i) (λi=>(some (.one (.bool (a.drop i==b.drop i))):DU)) ?_ n 0 (Fi _) Du).trans (by simp[eqI]);intro i hi K bw bX bf;rw[C8C];by_cases h:i<a.length
  ·have h2:i<b.length:=Du
   rw[Ei (Du:(i:Int)<(a.length:Int)),Eg,D6 h,D6 h2];dsimp only;rw[Gb h,Gb h2,J3 Du];by_cases he:a[i]=b[i]
   ·rw[A0z he,Eh,bf (i+1) Du Du,Ox,he,BEq.rfl,Ml]
   ·rw[X4 he,Eg];refine(bX _).trans ?_;have:(a[i]::a.drop (i+1)==b[i]::b.drop (i+1))=false:=by rw[Ox,beq_false_of_ne he];rfl
    rw[this];rfl
  ·rw[Ej (Du:¬(i:Int)<(a.length:Int)),Eh,bw,C8b,Fl Du,Fl Du];rfl
 ·rw[X4 (Du:(a.length:Int)≠(b.length:Int)),Eg];have:eqI a b=false:=by
   unfold eqI;exact beq_false_of_ne λe=>hl (by rw[e])
  rw[this]
def A1S{l:DS}:isB l=true↔∀x∈l,0<=x/\x<=255:=by simp[isB]
def A4u:Int->DS->Int
 |n,[]=>n
 |n,c::r=>A4u (n*64+c % 64) r
def D0a:∀(l:DS)(h1:1<=l.length)(h4:l.length<=4)(hB:∀x∈l,0<=x/\x<=255)(q:Int)(hq:q=match l.length with|1=>128|2=>32|3=>16|_=>8),
  A4u (l[0] % q) (l.drop 1)=I9 l/\0<=I9 l/\I9 l<16777216
 |[a],_,_,hB,q,hq=>by subst hq;have:=hB a Eo;simp[A4u,I9];omega
 |[a,b],_,_,hB,q,hq=>by subst hq;have:=hB a Eo;simp[A4u,I9];omega
 |[a,b,c],_,_,hB,q,hq=>by subst hq;have:=hB a Eo;simp[A4u,I9];omega
 |[a,b,c,d],_,_,hB,q,hq=>by subst hq;have:=hB a Eo;simp[A4u,I9];omega
 |_::_::_::_::_::_,_,h4,_,_,_=>by simp at h4
def D0x(l:DS)(hb:isB l=true)(h1:1<=l.length)(h4:l.length<=4)(n:Nat)(hn:4<n):A5 A25 n Jk [.sl .u8 l none]=some (.one (.int .i32 (I9 l))):=by
 have hB:=A1S.1 hb;have hm:∀(i:Nat)(h:i<l.length),0<=l[i]/\l[i]<=255:=λi h=>hB _ (Ft h);have ji:idx l 0=some l[0]:=D6 (i:=0) Du;rw[D53,ji];dsimp only;obtain⟨q,hq,Dz,zq⟩:∃q:Int,idx [0,128,32,16,8] (l.length:Int)=some q/\8<=q/\q=(match l.length with|1=>128|2=>32|3=>16|_=>8):=by
  have:l.length=1\/l.length=2\/l.length=3\/l.length=4:=Du
  rcases this with h|h|h|h<;>rw[h]<;>exact⟨_,rfl,Ep,rfl⟩
 have lD:=hm 0 Du;rw[hq];dsimp only;rw[Ej (Du:¬q=0),Q5 Du Du,Jr Du];show C8 _ n _ _=_;have my:∀j:Nat,j<=4->(64:Int)^j<=64^4:=λj hj=>by
  have:j=0\/j=1\/j=2\/j=3\/j=4:=Du
  rcases this with rfl|rfl|rfl|rfl|rfl<;>decide
 refine(I8 (λp:Int×Nat=>B2v l p.1 p.2) (λp=>1<=p.2/\p.2<=l.length/\0<=p.1/\p.1<4*64^p.2) (λp=>l.length - p.2) (λp=>(some (.one (.int .i32 (Ew .i32 (A4u p.1 (l.drop p.2))))):DU)) ?_ n (l[0] % q,1) ?_ Er).trans ?_
 ·rintro⟨a,j⟩ ⟨j1,j2,a1,a2⟩ K bw bX bf;dsimp only at j1 j2 a1 a2 bf ⊢;have hp:=my j Du;rw[D15];by_cases h:j<l.length
  ·have hj:=hm j h;rw[Ei (Du:(j:Int)<(l.length:Int)),Eg,D6 h];dsimp only;rw[Q5 (n:=l[j]) Du Du,Jr Du,Q5 (n:=a*64) Du Du,Q5 Du Du,J3 Du,U4 h];refine bf (a*64+l[j] % 64,j+1) ⟨Er,Er,Er,?_⟩ Er;show a*64+l[j] % 64<4*64^(j+1);rw[Mi];omega
  ·rw[Ej (Du:¬(j:Int)<(l.length:Int)),Eh,bw,D4N,Fl Du];rfl
 ·refine⟨Ff _,h1,by simp only;exact Js _ Du,?_⟩;have:l[0] % q<q:=Jt _ Du;have ng:q<=128:=by
   rw[zq];split<;>decide
  simp only;omega
 ·have Cc:l.length=1\/l.length=2\/l.length=3\/l.length=4:=Du
  have eG:=D0a l h1 h4 hB q zq;dsimp only;rw[eG.1,w32 Du Du]
def C90{c:Int}(h:D2 c=true):isB (u8F c)=true:=by
 rw[X0]at h;rw[A1S];intro x hx;unfold u8F at hx;split at hx
 ·simp at hx;omega
 ·split at hx
  ·simp at hx;omega
  ·split at hx
   ·simp at hx;omega
   ·simp at hx;omega
def B8V:∀{a b:DS},isB a=true->isB b=true->toB a=toB b->a=b
 |[],[],_,_,_=>rfl
 |[],_::_,_,_,h=>by simp[toB]at h
 |_::_,[],_,_,h=>by simp[toB]at h
 |x::a,y::b,ha,hb,h=>by
  rw[A1S]at ha hb;have hx:=ha x Eo;have hy:=hb y Eo;simp only[toB,Gg,Fp]at h;have h1:=congrArg Gz h.1;rw[A03 Du,A03 Du]at h1;rw[B8V (A1S.2 λz hz=>ha z (by simp[hz])) (A1S.2 λz hz=>hb z (by simp[hz])) h.2,show x=y from Du]
def C96{c:Int}(h:D2 c=true):I9 (u8F c)=c:=by
 rw[X0]at h;unfold u8F;by_cases h1:c<128
 ·rw[El h1];simp only[I9];omega
 rw[Ek h1];by_cases h2:c<2048
 ·rw[El h2];simp only[I9];omega
 rw[Ek h2];by_cases h3:c<65536
 ·rw[El h3];simp only[I9];omega
 ·rw[Ek h3];simp only[I9];omega
def C3Z{l:DS}(h:isB l=true)(k:Nat):isB (l.take k)=true:=A1S.2 λx hx=>A1S.1 h x (List.mem_of_mem_take hx)
def D3x{l:DS}(h:isB l=true)(k:Nat):isB (l.drop k)=true:=A1S.2 λx hx=>A1S.1 h x (Ol hx)
def D2Q(l:DS)(k:Nat):toB (l.take k)=(toB l).take k:=by simp[toB,List.map_take]
def C8l(l:DS)(k:Nat):toB (l.drop k)=(toB l).drop k:=by simp[toB,Mf]
def D0O{l:DS}:toB l=[]↔l=[]:=by simp[toB]
def hit(l:DS)(k:Nat):Prop:=P3 (I9 (l.take k))=l.take k
def C9k{l:DS}{k:Nat}(h1:1<=k)(hk:k<=l.length)(h:hit l k):Y7 (toB l)=false/\Fb (toB l)=((I9 (l.take k)).toNat,k)/\0<=I9 (l.take k):=by
 unfold hit at h;have av:(l.take k).length=k:=by rw[Gi];omega
 have hv:D2 (I9 (l.take k))=true:=by
  cases hv:D2 (I9 (l.take k))with
  |true=>rfl
  |false=>
   unfold P3 at h;rw[hv]at h;have:=congrArg Ey h;rw[av]at this;simp at this;omega
 have hp:P3 (I9 (l.take k))=u8F (I9 (l.take k)):=by unfold P3;rw[hv];rfl
 rw[hp]at h;have hs:toB l=toB (u8F (I9 (l.take k)))++toB (l.drop k):=by rw[h, <-B8a,Kp]
 obtain⟨d1,d2⟩:=C3X hv (toB (l.drop k));have gw:(u8F (I9 (l.take k))).length=k:=by rw[h,av]
 rw[<-hs]at d1 d2;rw[gw]at d1;exact⟨d2,d1,by have:=X0.1 hv;omega⟩
def D1R{l:DS}(hB:isB l=true)(aC:l≠[])(hb:Y7 (toB l)=false):hit l (Fb (toB l)).2/\1<=(Fb (toB l)).2/\(Fb (toB l)).2<=4/\(Fb (toB l)).2<=l.length:=by
 have tc:toB l≠[]:=λe=>aC (D0O.1 e);have hv:=B7x (toB l);have he:=C0D tc hb;have hw:=If (toB l);have bh:=Kg (toB l) tc;rw[A0v]at bh;rw[<-D2Q]at he;have ej:=B8V (C90 hv) (C3Z hB _) he;have hu:=A74 ((Fb (toB l)).1:Int);have hl:(l.take (Fb (toB l)).2).length=(Fb (toB l)).2:=by rw[Gi];omega
 rw[ej,hl]at hu;refine⟨?_,hw,Du,bh⟩;unfold hit;rw[<-ej,C96 hv];unfold P3;rw[El hv]
def D4x(l:DS)(hB:isB l=true)(h1:1<=l.length)(hr:A3 l.length 1=true)(n:Nat)(hn:5<n):A5 A1F n Hw [.sl .u8 l none]=some (.tup [.int .i32 (R1 l).1,.int .i64 (R1 l).2]):=by
 have av:=G4.1 hr;have aC:l≠[]:=λe=>by subst e;simp at h1
 rw[C6h];refine(I8 (λk:Nat=>A6L l k) (λk=>1<=k/\k<=5/\k<=l.length+1/\∀j,1<=j->j<k->¬hit l j) (λk=>5 - k) (λk=>(some (.tup [.int .i32 (R1 l).1,.int .i64 (R1 l).2]):DU)) ?_ n 1 ⟨Ff _,Du,Du,λj h1 h2=>Du⟩ Du);intro k ⟨k1,k2,k3,dk⟩ K bw bX bf;rw[D0b];have td:l.length<k\/4<k->R1 l=(0,0):=λh=>by
  unfold R1;cases hb:Y7 (toB l)with
  |true=>rfl
  |false=>
   obtain⟨g1,g2,g3,g4⟩:=D1R hB aC hb;exact absurd g1 (dk _ g2 Du)
 by_cases h4:k<=4
 ·rw[Ei (Du:(k:Int)<=4)];by_cases hk:k<=l.length
  ·have hs:sub l 0 (k:Int)=some (l.take k):=by
    have:=A6j (l:=l) (lo:=0) (hi:=k) (Fi _) hk;simpa using this
   have fF:(l.take k).length=k:=by rw[Gi];omega
   rw[Ei (Du:(k:Int)<=(l.length:Int)),hs];dsimp only;rw[C3Z hB k,Ei (by rw[fF];exact k1:1<=(l.take k).length),Ei (by rw[fF];exact h4:(l.take k).length<=4),J3 Du];have dm:¬hit l k->K .normal (A6L l ((k+1:Nat):Int))=some (.tup [.int .i32 (R1 l).1,.int .i64 (R1 l).2]):=λCd=>
    bf (k+1) ⟨Du,Du,Du,λj j1 j2=>by
     by_cases hj:j=k
     ·subst hj;exact Cd
     ·exact dk j j1 Du⟩ Du
   by_cases jy:(P3 (I9 (l.take k))).length=k
   ·rw[beqT (Du:((P3 (I9 (l.take k))).length:Int)=(k:Int)),G4.2 Du,G4.2 Du];by_cases hh:hit l k
    ·obtain⟨g1,g2,g3⟩:=C9k k1 hk hh;have he:eqI (P3 (I9 (l.take k))) (l.take k)=true:=by unfold eqI;rw[show P3 (I9 (l.take k))=l.take k from hh];exact BEq.rfl
     rw[he];refine(bX _).trans ?_;unfold R1;rw[g1,g2];dsimp only;have:(((I9 (l.take k)).toNat:Nat):Int)=I9 (l.take k):=Du
     rw[this];rfl
    ·have he:eqI (P3 (I9 (l.take k))) (l.take k)=false:=by unfold eqI;exact beq_false_of_ne hh
     rw[he];exact dm hh
   ·rw[beqF (Du:((P3 (I9 (l.take k))).length:Int)≠(k:Int))];exact dm (λhh=>jy (by rw[show P3 (I9 (l.take k))=l.take k from hh,fF]))
  ·rw[Ej (Du:¬(k:Int)<=(l.length:Int)),td (.inl Du)];exact(bw _ _).trans (D6S n l k _)
 ·rw[Ej (Du:¬(k:Int)<=4),td (.inr Du)];exact(bw _ _).trans (C6A n l k)
def D0g(l:DS)(hB:isB l=true)(hl:smL l=true)(n:Nat)(hn:l.length<n):A5 A1L n Ht [.sl .u8 l none]=some (.tup [.sl .i32 (C3 (toB l)).1 (some 1),.int .i64 ((C3 (toB l)).2:Nat)]):=by
 have av:=A0w hl;rw[D28];refine(I8 (λp:DS×Nat=>A8Y l p.1 p.2) (λp=>p.1.length<=p.2/\p.2<=l.length) (λp=>l.length - p.2) (λp=>A0O p.1 p.2 (C3 (toB (l.drop p.2)))) ?_ n ([],0) Eo Er).trans (by simp[A0O]);rintro⟨out,i⟩ ⟨h1,h2⟩ K bw bX bf;dsimp only at h1 h2 bf ⊢;rw[D7n];by_cases h:i<l.length
 ·have du:(l.drop i).length=l.length - i:=Fh;have aC:toB (l.drop i)≠[]:=λe=>by
   have:=congrArg Ey e;rw[A0v,du,Gl]at this;omega
  rw[Ei (Du:(i:Int)<(l.length:Int)),Eg,A75 Du];dsimp only;rw[D3x hB i,Ei (Du:1<=(l.drop i).length),G4.2 Du,G4.2 Du];have hw:=If (toB (l.drop i));have bh:=Kg (toB (l.drop i)) aC;rw[A0v,du]at bh;cases hb:Y7 (toB (l.drop i))with
  |true=>
   have:R1 (l.drop i)=(0,0):=by unfold R1;rw[hb];rfl
   rw[this,B7z hb];refine Gy (bw _ _) ((C5J n l out i 0 0 true).trans ?_);simp[A0O]
  |false=>
   have:R1 (l.drop i)=(((Fb (toB (l.drop i))).1:Int),((Fb (toB (l.drop i))).2:Int)):=by unfold R1;rw[hb];rfl
   rw[this];dsimp only;rw[beqF (Du:((Fb (toB (l.drop i))).2:Int)≠0),A1n Du];refine Gy (b:=K .normal (A8Y l (out++[((Fb (toB (l.drop i))).1:Int)]) ((i+(Fb (toB (l.drop i))).2:Nat):Int))) rfl ?_;refine(bf (out++[((Fb (toB (l.drop i))).1:Int)],i+(Fb (toB (l.drop i))).2) ⟨Es,Er⟩ Er).trans ?_;dsimp only;rw[B1v aC hb, <-C8l,Ib];unfold A0O;simp[Md]
 ·rw[Ej (Du:¬(i:Int)<(l.length:Int)),Eh,bw,D7b,Fl Du,show toB []=[]from rfl,B0E];simp[A0O]
def D5p(x:Nat)(h:x<2147483648):bits .and .i32 (x:Int) 1023=((x % 1024:Nat):Int):=by
 show IntKind.i32.wrap ((Ky 32 (x:Int)&&& Ky 32 ((1023:Nat):Int)).toNat:Int)=_;rw[Pl,ofInt_u32 x Du,ofInt_u32 1023 Du,show(1023:Nat)=2^10 - 1 from rfl,Oc];exact wrap_i32_small _ Du
def D0q(x:Nat)(h:x<2147483648):bits .and .i64 (x:Int) 15=((x % 16:Nat):Int):=by
 show IntKind.i64.wrap ((Ky 64 (x:Int)&&& Ky 64 ((15:Nat):Int)).toNat:Int)=_;rw[Pl,ofInt_u64 x Du,ofInt_u64 15 Du,show(15:Nat)=2^4 - 1 from rfl,Oc];exact wrap_i64_small _ Du
def B30{c:Int}(h1:65536<=c)(h2:c<=1114111):E0 c=(55296+(c - 65536) / 1024,56320+(c - 65536) % 1024,true):=by
 unfold E0;rw[Ej (Du:¬c<65536),Ej (Du:¬1114111<c)];rfl
def A7y{c:Int}(h:c<65536\/1114111<c):E0 c=(0,0,false):=by
 unfold E0;rcases h with h|h
 ·rw[Ei h];rfl
 ·rw[Ei h,Bool.or_true];rfl
def D1D(c:Int)(n:Nat):A5 B5D n Tryz.f222 [.int .i32 c]=some (.tup [.int .i32 (E0 c).1,.int .i32 (E0 c).2.1,.bool (E0 c).2.2]):=by
 rw[C84];by_cases h1:c<65536
 ·rw[Ei h1,A7y (.inl h1)];rfl
 ·rw[Ej h1];by_cases h2:1114111<c
  ·rw[Ei (show c>1114111 from h2),A7y (.inr h2)];rfl
  ·rw[Ej (show¬c>1114111 from h2),B30 Du Du,w32 (n:=c - 65536) Du Du];have e:c - 65536=(((c - 65536).toNat:Nat):Int):=Du
   have e2:bits .and .i32 (c - 65536) 1023=(c - 65536) % 1024:=by
    rw[e,D5p _ Du];omega
   have e3:(c - 65536) / 2^(Ez 10)=(c - 65536) / 1024:=rfl;rw[e2,e3,w32 (n:=55296+_) Du Du,w32 (n:=56320+_) Du Du];rfl
def C6W(c:Int)(n:Nat):A5 B3d n Tryz.f227 [.int .i32 c]=some (.tup [.int .i32 (E0 c).1,.int .i32 (E0 c).2.1,.bool (E0 c).2.2]):=by
 rw[D0u];by_cases h1:c<65536
 ·rw[Ei h1,A7y (.inl h1)];rfl
 ·rw[Ej h1];by_cases h2:1114111<c
  ·rw[Ei (show c>1114111 from h2),A7y (.inr h2)];rfl
  ·rw[Ej (show¬c>1114111 from h2),B30 Du Du,w32 (n:=c - 65536) Du Du];rw[Kx Du,Jr Du,w32 (n:=(c - 65536) / 1024) Du Du,w32 (n:=55296+_) Du Du,w32 (n:=56320+_) Du Du];rfl
def digT:DT:=[48,49,50,51,52,53,54,55,56,57,65,66,67,68,69,70]
def D5W:∀i:Fin 16,((digT[i.1]'i.2).toNat:Int)=S2 i.1:=Ep
def A0l(c:Int):DS:=[S2 (c / 4096 % 16),S2 (c / 256 % 16),S2 (c / 16 % 16),S2 (c % 16)]
def B8q(c:Int):H7 c=[92,117]++A0l c:=rfl
def C1U{c:Int}(h0:0<=c)(h1:c<=65535)(j:Nat)(hj:j<4):(A0l c)[j]'(by simpa [A0l]using hj)=S2 (c / 2^(12 - 4*j) % 16):=by
 have:j=0\/j=1\/j=2\/j=3:=Du
 rcases this with rfl|rfl|rfl|rfl
 ·rfl
 ·rfl
 ·rfl
 ·show S2 (c % 16)=S2 (c / 2^0 % 16);rw[Int.pow_zero,Int.ediv_one]
def D0W(k:Nat):(0:Int)<2^k:=Pb Du
def B90{c:Int}(h0:0<=c)(h1:c<=65535)(k:Nat):0<=c / 2^k/\c / 2^k<=65535:=by
 have hp:=D0W k;exact⟨Int.ediv_nonneg h0 Du,Int.le_trans (Int.ediv_le_self _ h0) h1⟩
def C1y{c:Int}(h0:0<=c)(h1:c<=65535)(k:Nat):∃d:Nat,∃hd:d<16,bits .and .i32 (c / 2^k) 15=(d:Int)/\bits .and .i64 (c / 2^k) 15=(d:Int)/\((digT[d]'hd).toNat:Int)=S2 (c / 2^k % 16):=by
 obtain⟨b0,b1⟩:=B90 h0 h1 k;have e:c / 2^k=(((c / 2^k).toNat:Nat):Int):=Du
 refine⟨(c / 2^k).toNat % 16,Nat.mod_lt _ Du,?_,?_,?_⟩
 ·rw[e,and15_i32 _ Du];rfl
 ·rw[e,D0q _ Du];rfl
 ·rw[D5W ⟨(c / 2^k).toNat % 16,Nat.mod_lt _ Du⟩];dsimp only
  congr 1
  omega
def D5g(l:DS)(c:Int)(hr:A3 (l.length+6) 4=true)(h0:0<=c)(h1:c<=65535)(n:Nat)(hn:5<n):A5 A2L n Iy [.sl .i32 l (some 0),.int .i32 c]=some (.one (.sl .i32 (L2 l (H7 c)) (some 0))):=by
 have av:=G4.1 hr;rw[D4J,A4Y hr (Du:l.length+2<=l.length+6),Eg];have hD:(A0l c).length=4:=rfl;have cU:A6i (l++[92,117]) c 12=A6i (l++[92,117]++(A0l c).take 0) c (12 - 4*((0:Nat):Int)):=by rw[List.take_zero,Fu];rfl
 rw[cU];refine(I8 (λj:Nat=>A6i (l++[92,117]++(A0l c).take j) c (12 - 4*(j:Int))) (λj=>j<=4) (λj=>4 - j) (λj=>(some (.one (.sl .i32 (L2 l (H7 c)) (some 0))):DU)) ?_ n 0 (Fi _) Du);intro j hj K bw bX bf;rw[C9i];by_cases h:j<4
 ·obtain⟨d,hd,e1,_,e3⟩:=C1y h0 h1 (12 - 4*j);have iQ:(12 - 4*(j:Int)).toNat=12 - 4*j:=Du
  have hb:=A37 (digT[d]'hd);rw[Ei (Du:12 - 4*(j:Int)>=0),Ei (Du:12 - 4*(j:Int)<=31),iQ,e1,show idx [48,49,50,51,52,53,54,55,56,57,65,66,67,68,69,70] (d:Int)=some (digT[d]'hd)from D6 (l:=digT) hd];dsimp only;have hl:(l++[92,117]++(A0l c).take j).length=l.length+2+j:=by simp[hD];omega
  have hw:Ew .i64 (12 - 4*(j:Int) - 4)=12 - 4*((j+1:Nat):Int):=by rw[Q5 Du Du];omega
  rw[hl,G4.2 Du,w32 Du Du,hw,e3, <-C1U h0 h1 j h];refine Gy ?_ (bf (j+1) Du Du);rw[Gq (Du:j<(A0l c).length), <-Jq];rfl
 ·have:j=4:=Du
  subst this;rw[Ej (Ep:¬(12:Int) - 4*((4:Nat):Int)>=0),Eh,bw,D6F,Ga Du];unfold L2;rw[B8q,Jq]
def C3c{d:Int}(h0:0<=d)(h1:d<16):48<=S2 d/\S2 d<=70:=by unfold S2;split<;>omega
def D27{x:Int}(h:x<128):toB (u8F x)=[Ih x.toNat]:=by unfold u8F;rw[El h];rfl
def C8j{x:Int}(h:x<128):B7 [x]=[Ih x.toNat]:=by rw[A0U,D27 h,A8Z];rfl
def D7Z(c:Int)(h0:0<=c)(h1:c<=65535)(n:Nat)(hn:5<n):A5 A26 n Ix [.int .i32 c]=some (.one (.str (B7 (H7 c)))):=by
 rw[D2z];have hD:(A0l c).length=4:=rfl;refine(I8 (λj:Nat=>A9W c digT ([92,117]++B7 ((A0l c).take j)) (12 - 4*(j:Int))) (λj=>j<=4) (λj=>4 - j) (λj=>(some (.one (.str (B7 (H7 c)))):DU)) ?_ n 0 (Fi _) Du);intro j hj K bw bX bf;rw[D7j];by_cases h:j<4
 ·obtain⟨d,hd,_,e2,e3⟩:=C1y h0 h1 (12 - 4*j);obtain⟨b0,b1⟩:=B90 h0 h1 (12 - 4*j);have iQ:(12 - 4*(j:Int)).toNat=12 - 4*j:=Du
  have hs:sub digT (d:Int) ((d+1:Nat):Int)=some [digT[d]'hd]:=by
   rw[A6j Du (by have:digT.length=16:=rfl;omega)];have:d+1 - d=1:=Du
   rw[this,Gb (l:=digT) hd];rfl
  have DA:=C3c (d:=c / 2^(12 - 4*j) % 16) (Js _ Du) (Jt _ Du);have a8:B7 [S2 (c / 2^(12 - 4*j) % 16)]=[digT[d]'hd]:=by
   rw[C8j Du, <-e3];simp
  rw[Ei (Du:12 - 4*(j:Int)>=0),Ei (Du:12 - 4*(j:Int)<=31),iQ,Q5 (n:=c / _) Du Du,e2,J3 Du,hs];dsimp only;have gw:=A39 ((A0l c).take j);have wj:((A0l c).take j).length<=4:=by rw[Gi];omega
  have hw:Ew .i64 (12 - 4*(j:Int) - 4)=12 - 4*((j+1:Nat):Int):=by rw[Q5 Du Du];omega
  have du:decide ((([92,117]:DT)++B7 ((A0l c).take j)).length+[digT[d]'hd].length<=9223372036854775807)=true:=by
   refine Ei ?_;rw[Gc];simp only[Fm,Gl];omega
  rw[du,hw];refine Gy ?_ (bf (j+1) Du Du);rw[Gq (Du:j<(A0l c).length),A22,C1U h0 h1 j h,a8, <-Jq];rfl
 ·have:j=4:=Du
  subst this;rw[Ej (Ep:¬(12:Int) - 4*((4:Nat):Int)>=0),Eh,bw,C6F,Ga Du,B8q,A22];rfl
def A5p(c:Int):(H7 c).length=6:=rfl
def B75{c:Int}(h:(E0 c).2.2=true):(0<=(E0 c).1/\(E0 c).1<=65535)/\(0<=(E0 c).2.1/\(E0 c).2.1<=65535)/\65536<=c/\c<=1114111:=by
 by_cases h1:c<65536\/1114111<c
 ·rw[A7y h1]at h;cases h
 ·rw[B30 Du Du];dsimp only;omega
def C2I{c:Int}(h:c<65536):(E0 c).2.2=false:=by rw[A7y (.inl h)]
def C3Y{c:Int}(h:c≠34/\c≠92/\c≠8/\c≠9/\c≠10/\c≠12/\c≠13):wrF c=if(E0 c).2.2 then H7 (E0 c).1++H7 (E0 c).2.1 else if c<32\/c=127 then H7 c else [c]:=by
 obtain⟨h1,h2,h3,h4,h5,h6,h7⟩:=h;unfold wrF;rw[Ek Du,Ek h3,Ek h4,Ek h5,Ek h6,Ek h7]
def A8O(c:Int):1<=(wrF c).length/\(wrF c).length<=12:=by
 unfold wrF
 repeat' split
 all_goals simp[A5p]
def B2z{c:Int}:(H7 c).all D2=true:=by
 have hd:∀x:Int,0<=x->x<16->D2 (S2 x)=true:=λx h0 h1=>by
  have:=C3c h0 h1;rw[X0];omega
 unfold H7;simp only[Fx,List.all_nil,Ph];rw[hd _ (Js _ Du) (Jt _ Du),hd _ (Js _ Du) (Jt _ Du),hd _ (Js _ Du) (Jt _ Du),hd _ (Js _ Du) (Jt _ Du)];decide
def C74{c:Int}(h:D2 c=true):(wrF c).all D2=true:=by
 unfold wrF;split
 ·rename_i h1;rcases h1 with rfl|rfl<;>decide
 ·split
  ·decide
  ·split
   ·decide
   ·split
    ·decide
    ·split
     ·decide
     ·split
      ·decide
      ·split
       ·rw[Hb,B2z,B2z];rfl
       ·split
        ·exact B2z
        ·simp[h]
def C5y(l:DS)(c:Int)(hr:A3 (l.length+12) 4=true)(hv:D2 c=true)(n:Nat):A5 B54 n Tryz.f197 [.sl .i32 l (some 0),.int .i32 c]=some (.one (.sl .i32 (L2 l (wrF c)) (some 0))):=by
 have h:=X0.1 hv;rw[D50,A4Y hr (Du:l.length+2<=l.length+12),A4Y hr (Du:l.length+6<=l.length+12),A4Y hr (Du:l.length+1<=l.length+12)];by_cases c1:c=34
 ·subst c1;rfl
 rw[beqF c1];by_cases c2:c=92
 ·subst c2;rfl
 rw[beqF c2];by_cases c3:c=8
 ·subst c3;rfl
 rw[beqF c3];by_cases c4:c=9
 ·subst c4;rfl
 rw[beqF c4];by_cases c5:c=10
 ·subst c5;rfl
 rw[beqF c5];by_cases c6:c=12
 ·subst c6;rfl
 rw[beqF c6];by_cases c7:c=13
 ·subst c7;rfl
 rw[beqF c7,C3Y ⟨c1,c2,c3,c4,c5,c6,c7⟩];cases hs:(E0 c).2.2 with
 |true=>
  obtain⟨⟨s1,s2⟩,⟨s3,s4⟩,_⟩:=B75 hs;have hl:(L2 l (H7 (E0 c).1)).length+6=l.length+12:=by unfold L2;rw[Gc,A5p]
  rw[Ei s1,Ei s2,Ei s3,Ei s4,hl,hr,El rfl];show some _=some _;unfold L2;rw[Jq]
 |false=>
  rw[Ek Eo];by_cases c8:c<32
  ·rw[Ei c8,Ei (Du:0<=c),Ei (Du:c<=65535),El (.inl c8)];rfl
  ·rw[Ej c8];by_cases c9:c=127
   ·rw[beqT c9,Ei (Du:0<=c),Ei (Du:c<=65535),El (.inr c9)];rfl
   ·rw[beqF c9,Ek Du];rfl
def wnT:DT:=[34,92,98,102,110,114,116]
def wmT:DT:=[34,92,8,12,10,13,9]
def C8F:∀i:Fin 7,B7 (wrF ((wmT[i.1]'i.2).toNat:Int))=[92,wnT[i.1]'i.2]:=Eu
def C8G(c:Int)(hv:D2 c=true)(n:Nat)(hn:7<n):A5 A3s n Ja [.int .i32 c]=some (.one (.str (B7 (wrF c)))):=by
 have db:=X0.1 hv;rw[D4u];have hM:wmT.length=7:=rfl;refine(I8 (λi:Nat=>A9Q c wnT wmT i) (λi=>i<=7/\∀j:Nat,∀hj:j<7,j<i->((wmT[j]'hj).toNat:Int)≠c) (λi=>7 - i) (λi=>(some (.one (.str (B7 (wrF c)))):DU)) ?_ n 0 ⟨Fi _,λj _ h=>absurd h (Lz _)⟩ Du);intro i ⟨hi,hb⟩ K bw bX bf;rw[C68];by_cases h:i<7
 ·have h1:=A37 (wmT[i]'h);have ht:=C8F ⟨i,h⟩;have hs:sub wnT (i:Int) ((i+1:Nat):Int)=some [wnT[i]'h]:=by
   rw[A6j Du (by have:wnT.length=7:=rfl;omega)];have:i+1 - i=1:=Du
   rw[this,Gb (l:=wnT) h];rfl
  rw[Ei (Du:(i:Int)<(wmT.length:Int)),Eg,D6 (l:=wmT) h,J3 Du,hs];dsimp only;rw[w32 Du Du];cases hc:((wmT[i]'h).toNat:Int)==c with
  |true=>
   simp only[beq_iff_eq]at hc;rw[<-hc,ht];exact(bX _).trans rfl
  |false=>
   rw[Eh];refine bf (i+1) ⟨Du,λj hj en=>?_⟩ Du;by_cases lJ:j<i
   ·exact hb j hj lJ
   ·have:j=i:=Du
    subst this;exact λe=>by simp[e]at hc
 ·have g0:(34:Int)≠c:=hb 0 Du Du;have g1:(92:Int)≠c:=hb 1 Du Du;have g2:(8:Int)≠c:=hb 2 Du Du;have g3:(12:Int)≠c:=hb 3 Du Du;have g4:(10:Int)≠c:=hb 4 Du Du;have g5:(13:Int)≠c:=hb 5 Du Du;have g6:(9:Int)≠c:=hb 6 Du Du;rw[Ej (Du:¬(i:Int)<(wmT.length:Int)),Eh,bw,D6k,C3Y ⟨Du,Du,Du,Du,Du,Du,Du⟩];by_cases c8:c<32
  ·rw[Ei c8,Ei (Du:0<=c),Ei (Du:c<=65535),C2I Du,Ek Eo,El (.inl c8)];rfl
  ·rw[Ej c8];by_cases c9:c=127
   ·rw[beqT c9,Ei (Du:0<=c),Ei (Du:c<=65535),C2I Du,Ek Eo,El (.inr c9)];rfl
   ·rw[beqF c9];cases hs:(E0 c).2.2 with
    |true=>
     obtain⟨⟨s1,s2⟩,⟨s3,s4⟩,_⟩:=B75 hs;have l1:=A39 (H7 (E0 c).1);have l2:=A39 (H7 (E0 c).2.1);rw[A5p]at l1 l2;rw[Ei s1,Ei s2,Ei s3,Ei s4,Ei (Du:(B7 (H7 (E0 c).1)).length+(B7 (H7 (E0 c).2.1)).length<=9223372036854775807),El rfl,A22];rfl
    |false=>
     rw[Ek Eo,Ek Du,A8P (by simp[hv])];rfl
def C5X(cs:DS):(cs.flatMap wrF).length<=12*cs.length:=by
 induction cs with
 |nil=>simp
 |cons c cs ih=>have:=A8O c;rw[Gr,Gc,Fm];omega
def C5H{cs:DS}(h:cs.all D2=true):(cs.flatMap wrF).all D2=true:=by
 induction cs with
 |nil=>rfl
 |cons c cs ih=>
  simp only[Fx,Fs]at h;rw[Gr,Hb,C74 h.1,ih h.2];rfl
def D0v{cs:DS}(h:cs.all D2=true):(qtC cs).all D2=true:=by
 unfold qtC;rw[Hb,Fx,C5H h];decide
def B2T{cs:DS}{p:Int->Bool}(h:cs.all p=true){i:Nat}(hi:i<cs.length):p cs[i]=true:=Gu.1 h _ (Ft hi)
def D3R(s:DT)(hs:smS s=true)(n:Nat)(hn:s.length<n):A5 A2q n Jm [.str s]=some (.tup [.str (qtF s).1,.int .i64 (qtF s).2]):=by
 have av:=A7s.1 hs;obtain⟨d1,d2,d3,d4⟩:=decF_enc _ s (Ff _);rw[C73,hs,Eg];unfold qtF;by_cases h:(C3 s).2<s.length
 ·rw[Ei (Du:(((C3 s).2:Nat):Int)<(s.length:Int)),El h];rfl
 ·rw[Ej (Du:¬(((C3 s).2:Nat):Int)<(s.length:Int)),Ek h,Eh];generalize cE:(C3 s).1=cs at d2 d4;refine(I8 (λi:Nat=>A9V (34::(cs.take i).flatMap wrF) cs (cs.length:Int) i) (λi=>i<=cs.length) (λi=>cs.length - i) (λi=>(some (.tup [.str (B7 (qtC cs)),.int .i64 0]):DU)) ?_ n 0 (Fi _) Du);intro i hi K bw bX bf;have dv:=C5X (cs.take i);have fF:(cs.take i).length<=i:=Kq _ _;rw[D5O];by_cases h2:i<cs.length
  ·rw[Ei (Du:(i:Int)<(cs.length:Int)),Eg,D6 h2];dsimp only;rw[G4.2 (by rw[Fm];omega),B2T d2 h2,J3 Du];refine Gy ?_ (bf (i+1) Du Du);unfold L2;rw[Gq h2,Ku];simp
  ·rw[Ej (Du:¬(i:Int)<(cs.length:Int)),Eh,bw,C9w,Ga Du];rw[Ga Du]at dv;rw[G4.2 (by rw[Fm];omega),V9.2 (by rw[Gc,Fm];simp only[Fm,Gl];omega),A8P (show((34::cs.flatMap wrF)++[34]).all D2=true from D0v d2)];rfl
def B9M(s:DT):toB (s.map λc=>(c.toNat:Int))=s:=by
 unfold toB;rw[List.map_map];have:((λn:Int=>Ih n.toNat)∘λc:UInt8=>(c.toNat:Int))=id:=by
  funext c
  simp
 rw[this,List.map_id]
def B71(s:DT):isB (s.map λc=>(c.toNat:Int))=true:=by
 rw[A1S];intro x hx;obtain⟨c,_,rfl⟩:=List.mem_map.1 hx;exact A37 c
def C7O(cs:DS):B7 (cs.flatMap wrF)=cs.flatMap λc=>B7 (wrF c):=by
 induction cs with
 |nil=>rfl
 |cons c cs ih=>rw[Gr,Gr,A22,ih]
def C9T(cs:DS):(cs.flatMap λc=>B7 (wrF c)).length<=48*cs.length:=by
 induction cs with
 |nil=>simp
 |cons c cs ih=>have:=A8O c;have h2:=A39 (wrF c);rw[Gr,Gc,Fm];omega
def D3r(s:DT)(hs:smS s=true)(n:Nat)(hn:s.length<n):A5 A08 n Jl [.str s]=some (.tup [.str (qtF s).1,.int .i64 (qtF s).2]):=by
 have av:=A7s.1 hs;obtain⟨d1,d2,d3,d4⟩:=decF_enc _ s (Ff _);rw[B5r,G4.2 Du,B9M,B71,A8m.2 (by rw[Kr];omega)];unfold qtF;by_cases h:(C3 s).2<s.length
 ·rw[X4 (Du:(((C3 s).2:Nat):Int)≠(s.length:Int)),El h];rfl
 ·rw[A0z (Du:(((C3 s).2:Nat):Int)=(s.length:Int)),Ek h];show C8 _ n _ _=_;generalize cE:(C3 s).1=cs at d2 d4;refine(I8 (λi:Nat=>B2c cs (34::(cs.take i).flatMap λc=>B7 (wrF c)) i) (λi=>i<=cs.length) (λi=>cs.length - i) (λi=>(some (.tup [.str (B7 (qtC cs)),.int .i64 0]):DU)) ?_ n 0 (Fi _) Du);intro i hi K bw bX bf;have dv:=C9T (cs.take i);have fF:(cs.take i).length<=i:=Kq _ _;rw[D0F];by_cases h2:i<cs.length
  ·have hw:=A8O cs[i];have oN:=A39 (wrF cs[i]);rw[Ei (Du:(i:Int)<(cs.length:Int)),Eg,D6 h2];dsimp only;have du:decide ((34::(cs.take i).flatMap λc=>B7 (wrF c)).length+(B7 (wrF cs[i])).length<=9223372036854775807)=true:=Ei (by rw[Fm];omega);rw[B2T d2 h2,du,J3 Du];refine Gy ?_ (bf (i+1) Du Du);rw[Gq h2,Ku];simp
  ·rw[Ej (Du:¬(i:Int)<(cs.length:Int)),Eh,bw,D5f,Ga Du];rw[Ga Du]at dv;have du:decide ((34::cs.flatMap λc=>B7 (wrF c)).length+([34]:DX).length<=9223372036854775807)=true:=Ei (by rw[Fm];simp only[Fm,Gl];omega);rw[du,Eg];unfold qtC;rw[A22,A0U,C7O];rfl
end Go.Aev.Bv
namespace Go.Aev.Bv
open Go.Proofs
def E41:Env Ty6 A4:=mk6 noT noC (lkE [(0,[2]),(1,[0,3,4,5,6,7,8])]) 9
def D6X(n:Nat)(a0:Int):A5 E41 n Tryz.f194 [.int .i32 a0]=
  bif(a0==9)==false then(some (.one (.bool (a0==32))))else(some (.one (.bool true))):=by
 kernel_rfl
def T28:T6:=λf ls=>match f with
 |194=>S41 ls
 |_=>none
def E28:Env Ty6 A4:=mk6 T28 noC (lkE [(0,[2]),(2,[4,5,6,7,8,9,10,11,12,13]),(3,[14,15,16]),(4,[0,3,14,17])]) 18
def B1b(x0:DS)(x3:Int):S6:=⟨[(0,.one (.sl .i32 x0 none)),(3,.one (.int .i64 x3))],[]⟩
def B2H(n:Nat)(a0:DS):A5 E28 n Hu [.sl .i32 a0 none]=
  C8 (lbC E28 (A2 Hu [1,1,0,0,0]) 10002 n) n (B1b a0 0) (A7 0 (C1 (B2 E28 n (A2 Hu [1,1,1])) (B3 E28 Tryz.f237.results.toList))):=by
 kernel_rfl
def D1S(n:Nat)(x0:DS)(x3:Int)(K:Ex->S6->DU):lbC E28 (A2 Hu [1,1,0,0,0]) 10002 n (B1b x0 x3) K=
  bif(decide (x3<(Ey x0:Int)))==true then(match idx x0 x3 with|none=>none|some y1=>(bif K6 y1 then(K .normal (B1b x0 (Ew .i64 (x3+1))))else(K (.exit 0) ⟨[(0,.one (.sl .i32 x0 none)),(3,.one (.int .i64 x3)),(14,.one (.bool (K6 y1)))],[]⟩)))else(K (.exit 0) ⟨[(0,.one (.sl .i32 x0 none)),(3,.one (.int .i64 x3)),(14,.one (.bool false))],[]⟩):=by
 kernel_rfl
def D0Z(n:Nat)(x0:DS)(x3:Int)(cr:Bool):(A7 0 (C1 (B2 E28 n (A2 Hu [1,1,1])) (B3 E28 Tryz.f237.results.toList))) (.exit 0) ⟨[(0,.one (.sl .i32 x0 none)),(3,.one (.int .i64 x3)),(14,.one (.bool cr))],[]⟩=
  some (.one (.int .i64 x3)):=by
 kernel_rfl
def D1V(n:Nat)(x0:DS)(x3:Int):(A7 0 (C1 (B2 E28 n (A2 Hu [1,1,1])) (B3 E28 Tryz.f237.results.toList))) (.exit 0) ⟨[(0,.one (.sl .i32 x0 none)),(3,.one (.int .i64 x3)),(14,.one (.bool false))],[]⟩=
  some (.one (.int .i64 x3)):=by
 kernel_rfl
def T27:T6:=λf ls=>match f with
 |237=>S28 ls
 |_=>none
def E27:Env Ty6 A4:=mk6 T27 noC (lkE [(0,[2]),(1,[0,3,4,5,6,7])]) 8
def B3m(n:Nat)(a0:DS):A5 E27 n Tryz.f219 [.sl .i32 a0 none]=
  bif D0 a0 then(some (.one (.bool ((G3 a0)==(Ey a0:Int)))))else none:=by
 kernel_rfl
def E56:Env Ty6 A4:=mk6 noT noC (lkE [(0,[2]),(1,[0,3,4,5,6,7,8])]) 9
def B7p(n:Nat)(a0:Int):A5 E56 n Tryz.f200 [.int .i32 a0]=
  bif(a0==9)==false then(some (.one (.bool (a0==32))))else(some (.one (.bool true))):=by
 kernel_rfl
def T42:T6:=λf ls=>match f with
 |200=>S56 ls
 |_=>none
def E42:Env Ty6 A4:=mk6 T42 noC (lkE [(0,[2]),(2,[4,5,6,7,8,9,10,11,12,13]),(3,[14,15,16]),(4,[0,3,14,17])]) 18
def B1q(x0:DS)(x3:Int):S6:=⟨[(0,.one (.sl .i32 x0 none)),(3,.one (.int .i64 x3))],[]⟩
def D4Y(n:Nat)(a0:DS):A5 E42 n Hv [.sl .i32 a0 none]=
  C8 (lbC E42 (A2 Hv [1,1,0,0,0]) 10002 n) n (B1q a0 0) (A7 0 (C1 (B2 E42 n (A2 Hv [1,1,1])) (B3 E42 Tryz.f225.results.toList))):=by
 kernel_rfl
def D34(n:Nat)(x0:DS)(x3:Int)(K:Ex->S6->DU):lbC E42 (A2 Hv [1,1,0,0,0]) 10002 n (B1q x0 x3) K=
  bif(decide (x3<(Ey x0:Int)))==true then(match idx x0 x3 with|none=>none|some y1=>(bif K6 y1 then(K .normal (B1q x0 (Ew .i64 (x3+1))))else(K (.exit 0) ⟨[(0,.one (.sl .i32 x0 none)),(3,.one (.int .i64 x3)),(14,.one (.bool (K6 y1)))],[]⟩)))else(K (.exit 0) ⟨[(0,.one (.sl .i32 x0 none)),(3,.one (.int .i64 x3)),(14,.one (.bool false))],[]⟩):=by
 kernel_rfl
def D2V(n:Nat)(x0:DS)(x3:Int)(cr:Bool):(A7 0 (C1 (B2 E42 n (A2 Hv [1,1,1])) (B3 E42 Tryz.f225.results.toList))) (.exit 0) ⟨[(0,.one (.sl .i32 x0 none)),(3,.one (.int .i64 x3)),(14,.one (.bool cr))],[]⟩=
  some (.one (.int .i64 x3)):=by
 kernel_rfl
def D4f(n:Nat)(x0:DS)(x3:Int):(A7 0 (C1 (B2 E42 n (A2 Hv [1,1,1])) (B3 E42 Tryz.f225.results.toList))) (.exit 0) ⟨[(0,.one (.sl .i32 x0 none)),(3,.one (.int .i64 x3)),(14,.one (.bool false))],[]⟩=
  some (.one (.int .i64 x3)):=by
 kernel_rfl
def T30:T6:=λf ls=>match f with
 |225=>S42 ls
 |_=>none
def E30:Env Ty6 A4:=mk6 T30 noC (lkE [(0,[2]),(1,[0,3,4,5,6,7])]) 8
def B6r(n:Nat)(a0:DS):A5 E30 n Tryz.f224 [.sl .i32 a0 none]=
  bif D0 a0 then(some (.one (.bool ((G3 a0)==(Ey a0:Int)))))else none:=by
 kernel_rfl
def T29:T6:=λf ls=>match f with
 |225=>S42 ls
 |_=>none
def E29:Env Ty6 A4:=mk6 T29 noC (lkE [(0,[2]),(3,[6,7,8]),(4,[5,10,11,32]),(5,[9,12,13,14,15,16]),(6,[17,18,19,20,21,22,23,24,25,26,27,28,29,30,31]),(7,[5,32,33]),(8,[0,4,9,34]),(9,[3,35]),(10,[3,35,36])]) 37
def A4F(x0:Ef)(x3:Int)(x4:Int):S6:=⟨[(0,.one (.sl .rs x0 none)),(3,.one (.int .i64 x3)),(4,.one (.int .i64 x4))],[]⟩
def D01(n:Nat)(a0:Ef):A5 E29 n Iu [.sl .rs a0 none]=
  C8 (lbC E29 (A2 Iu [1,1,0,1,0,0]) 10003 n) n (A4F a0 (-1) 1) (A7 0 (C1 (B2 E29 n (A2 Iu [1,1,1])) (B3 E29 Tryz.f240.results.toList))):=by
 kernel_rfl
def D6q(n:Nat)(x0:Ef)(x3:Int)(x4:Int)(K:Ex->S6->DU):lbC E29 (A2 Iu [1,1,0,1,0,0]) 10003 n (A4F x0 x3 x4) K=
  bif decide (x4<(Ey x0:Int))then(match idx x0 x4 with|none=>none|some y1=>(bif D0 y1 then(match idx x0 x4 with|none=>none|some y2=>(bif(decide ((G3 y1)<(Ey y2:Int)))==true then(bif(decide (x3<0))==false then(bif decide ((G3 y1)<x3)then(K .normal (A4F x0 (G3 y1) (Ew .i64 (x4+1))))else(K .normal (A4F x0 x3 (Ew .i64 (x4+1)))))else(K .normal (A4F x0 (G3 y1) (Ew .i64 (x4+1)))))else(K .normal (A4F x0 x3 (Ew .i64 (x4+1))))))else none))else(K (.exit 0) ⟨[(0,.one (.sl .rs x0 none)),(3,.one (.int .i64 x3)),(4,.one (.int .i64 x4)),(9,.one (.bool (decide (x4<(Ey x0:Int)))))],[]⟩):=by
 kernel_rfl
def C7E(n:Nat)(x0:Ef)(x3:Int)(x4:Int)(x9:Bool):(A7 0 (C1 (B2 E29 n (A2 Iu [1,1,1])) (B3 E29 Tryz.f240.results.toList))) (.exit 0) ⟨[(0,.one (.sl .rs x0 none)),(3,.one (.int .i64 x3)),(4,.one (.int .i64 x4)),(9,.one (.bool x9))],[]⟩=
  bif decide (x3<0)then(some (.one (.int .i64 0)))else(some (.one (.int .i64 x3))):=by
 kernel_rfl
def D1W(c:Int)(n:Nat):A5 E41 n Tryz.f194 [.int .i32 c]=some (.one (.bool (K6 c))):=by
 rw[D6X];unfold K6;cases h:c==9<;>simp[h]
def C7o(c:Int)(n:Nat):A5 E56 n Tryz.f200 [.int .i32 c]=some (.one (.bool (K6 c))):=by
 rw[B7p];unfold K6;cases h:c==9<;>simp[h]
def A5A(x:Int)(l:DS):M7 (x::l)=if K6 x then M7 l+1 else 0:=by
 unfold M7;rw[Og];split<;>simp
def B8E{l:DS}{i:Nat}(h:i<l.length):i+M7 (l.drop i)=if K6 l[i]then(i+1)+M7 (l.drop (i+1))else i:=by
 rw[Gb h,A5A];split<;>omega
def D7Q(l:DS):M7 l<=l.length:=by
 induction l with
 |nil=>simp[M7]
 |cons x l ih=>rw[A5A];split<;>simp<;>omega
def B2g(l:DS):(G3 l==(l.length:Int))=B8 l:=by
 have h:M7 l=l.length↔B8 l=true:=by
  induction l with
  |nil=>simp[M7,B8]
  |cons x l ih=>
   rw[A5A];unfold B8 at ih ⊢;cases hx:K6 x with
   |true=>simp[hx, <-ih]
   |false=>simp[hx]
 unfold G3;cases hb:B8 l with
 |true=>rw[h.2 hb];simp
 |false=>
  have:M7 l≠l.length:=λe=>by rw[h.1 e]at hb;cases hb
  simp;omega
def C8D(l:DS)(hl:D0 l=true)(n:Nat)(hn:l.length<n):A5 E28 n Hu [.sl .i32 l none]=some (.one (.int .i64 (G3 l))):=by
 have av:=A4L hl;rw[B2H];refine(I8 (λi:Nat=>B1b l i) (λi=>i<=l.length) (λi=>l.length - i) (λi=>some (.one (.int .i64 ((i+M7 (l.drop i):Nat):Int)))) ?_ n 0 (Fi _) Du).trans (by simp[G3]);intro i hi K bw bX hn;rw[D1S];simp only[bT,He];by_cases h:i<l.length
 ·rw[El Du,D6 h,B8E h];dsimp only;cases hw:K6 l[i]with
  |true=>
   simp only[Eg,if_true];rw[J3 Du,hn (i+1) Du Du]
  |false=>simp only[Eh,bw,D0Z];rfl
 ·rw[Ek Du,bw,D1V,Fl Du];rfl
def D6K(l:DS)(hl:D0 l=true)(n:Nat)(hn:l.length<n):A5 E42 n Hv [.sl .i32 l none]=some (.one (.int .i64 (G3 l))):=by
 have av:=A4L hl;rw[D4Y];refine(I8 (λi:Nat=>B1q l i) (λi=>i<=l.length) (λi=>l.length - i) (λi=>some (.one (.int .i64 ((i+M7 (l.drop i):Nat):Int)))) ?_ n 0 (Fi _) Du).trans (by simp[G3]);intro i hi K bw bX hn;rw[D34];simp only[bT,He];by_cases h:i<l.length
 ·rw[El Du,D6 h,B8E h];dsimp only;cases hw:K6 l[i]with
  |true=>
   simp only[Eg,if_true];rw[J3 Du,hn (i+1) Du Du]
  |false=>simp only[Eh,bw,D2V];rfl
 ·rw[Ek Du,bw,D4f,Fl Du];rfl
def D0U(l:DS)(hl:D0 l=true)(n:Nat):A5 E27 n Tryz.f219 [.sl .i32 l none]=some (.one (.bool (B8 l))):=by
 rw[B3m,hl,B2g];rfl
def D1T(l:DS)(hl:D0 l=true)(n:Nat):A5 E30 n Tryz.f224 [.sl .i32 l none]=some (.one (.bool (B8 l))):=by
 rw[B6r,hl,B2g];rfl
def T16:T6:=λf ls=>match f with
 |224=>S30 ls
 |240=>S29 ls
 |_=>none
def E16:Env Ty6 A4:=mk6 T16 noC (lkE [(0,[2]),(1,[10,11]),(4,[12,13,14]),(5,[16,17]),(6,[15,18,19,20,21]),(7,[22,23,24,25,26,27,28]),(8,[29]),(9,[29,30]),(10,[31,32,33,34]),(11,[31]),(12,[6,35,36,37]),(13,[7,38,39,40,41]),(14,[0,3,5,15]),(15,[42,43,44,45,46,47,48,49,50,51]),(16,[52,53,54]),(17,[52,55,56]),(18,[57,58,59,60,61,62,63,64,65,66]),(19,[67,68,69]),(20,[4,8,9,67,70,71,72,73])]) 74
def A2p(x0:Ef)(x3:Int)(x4:Ef)(x5:Int):S6:=⟨[(0,.one (.sl .rs x0 none)),(3,.one (.int .i64 x3)),(4,.one (.sl .rs x4 (some 104))),(5,.one (.int .i64 x5))],[104]⟩
def A7O(x4:Ef)(x8:Int):S6:=⟨[(4,.one (.sl .rs x4 (some 104))),(8,.one (.int .i64 x8))],[104]⟩
def A60(x4:Ef)(x8:Int)(x9:Int):S6:=⟨[(4,.one (.sl .rs x4 (some 104))),(8,.one (.int .i64 x8)),(9,.one (.int .i64 x9))],[104]⟩
def C6q(n:Nat)(a0:Ef):A5 E16 n Fo [.sl .rs a0 none]=
  bif M3 a0 then(C8 (lbC E16 (A2 Fo [1,1,1,0,1,0,0]) 10004 n) n (A2p a0 (X1 a0) [] 0) (A7 0 (C1 (B2 E16 n (A2 Fo [1,1,1,1])) (B3 E16 Tryz.f234.results.toList))))else none:=by
 kernel_rfl
def C80(n:Nat)(x0:Ef)(x3:Int)(x4:Ef)(x5:Int)(K:Ex->S6->DU):lbC E16 (A2 Fo [1,1,1,0,1,0,0]) 10004 n (A2p x0 x3 x4 x5) K=
  bif decide (x5<(Ey x0:Int))then(match idx x0 x5 with|none=>none|some y1=>(bif(decide (x5>0))==true then(bif decide ((Ey y1:Int)<=x3)then(bif A3 (0+0) 4 then(bif A3 (Ey x4+1) 24 then(K .normal (A2p x0 x3 (x4++[[]]) (Ew .i64 (x5+1))))else none)else none)else(bif decide (x5>0)then(match sub y1 x3 (Ey y1:Int)with|none=>none|some y2=>(bif A3 (0+Ey y2) 4 then(bif A3 (Ey x4+1) 24 then(K .normal (A2p x0 x3 (x4++[y2]) (Ew .i64 (x5+1))))else none)else none))else(bif A3 (0+Ey y1) 4 then(bif A3 (Ey x4+1) 24 then(K .normal (A2p x0 x3 (x4++[y1]) (Ew .i64 (x5+1))))else none)else none)))else(bif decide (x5>0)then(match sub y1 x3 (Ey y1:Int)with|none=>none|some y3=>(bif A3 (0+Ey y3) 4 then(bif A3 (Ey x4+1) 24 then(K .normal (A2p x0 x3 (x4++[y3]) (Ew .i64 (x5+1))))else none)else none))else(bif A3 (0+Ey y1) 4 then(bif A3 (Ey x4+1) 24 then(K .normal (A2p x0 x3 (x4++[y1]) (Ew .i64 (x5+1))))else none)else none))))else(K (.exit 0) ⟨[(0,.one (.sl .rs x0 none)),(3,.one (.int .i64 x3)),(4,.one (.sl .rs x4 (some 104))),(5,.one (.int .i64 x5)),(15,.one (.bool (decide (x5<(Ey x0:Int)))))],[104]⟩):=by
 kernel_rfl
def C50(n:Nat)(x0:Ef)(x3:Int)(x4:Ef)(x5:Int)(ep:Bool):(A7 0 (C1 (B2 E16 n (A2 Fo [1,1,1,1])) (B3 E16 Tryz.f234.results.toList))) (.exit 0) ⟨[(0,.one (.sl .rs x0 none)),(3,.one (.int .i64 x3)),(4,.one (.sl .rs x4 (some 104))),(5,.one (.int .i64 x5)),(15,.one (.bool ep))],[104]⟩=
  C8 (lbC E16 (A2 Fo [1,1,1,1,1,0,0,0]) 10015 n) n (A7O x4 0) (A7 2 (C1 (B2 E16 n (A2 Fo [1,1,1,1,1,1])) (B3 E16 Tryz.f234.results.toList))):=by
 kernel_rfl
def D1p(n:Nat)(x4:Ef)(x8:Int)(K:Ex->S6->DU):lbC E16 (A2 Fo [1,1,1,1,1,0,0,0]) 10015 n (A7O x4 x8) K=
  bif(decide (x8<(Ey x4:Int)))==true then(match idx x4 x8 with|none=>none|some y4=>(bif D0 y4 then(bif B8 y4 then(K .normal (A7O x4 (Ew .i64 (x8+1))))else(K (.exit 2) ⟨[(4,.one (.sl .rs x4 (some 104))),(8,.one (.int .i64 x8)),(52,.one (.bool (B8 y4)))],[104]⟩))else none))else(K (.exit 2) ⟨[(4,.one (.sl .rs x4 (some 104))),(8,.one (.int .i64 x8)),(52,.one (.bool false))],[104]⟩):=by
 kernel_rfl
def D1m(n:Nat)(x4:Ef)(x8:Int)(Ce:Bool):(A7 2 (C1 (B2 E16 n (A2 Fo [1,1,1,1,1,1])) (B3 E16 Tryz.f234.results.toList))) (.exit 2) ⟨[(4,.one (.sl .rs x4 (some 104))),(8,.one (.int .i64 x8)),(52,.one (.bool Ce))],[104]⟩=
  C8 (lbC E16 (A2 Fo [1,1,1,1,1,1,1,0,0,0]) 10018 n) n (A60 x4 x8 (Ey x4:Int)) (A7 4 (C1 (B2 E16 n (A2 Fo [1,1,1,1,1,1,1,1])) (B3 E16 Tryz.f234.results.toList))):=by
 kernel_rfl
def D7k(n:Nat)(x4:Ef)(x8:Int):(A7 2 (C1 (B2 E16 n (A2 Fo [1,1,1,1,1,1])) (B3 E16 Tryz.f234.results.toList))) (.exit 2) ⟨[(4,.one (.sl .rs x4 (some 104))),(8,.one (.int .i64 x8)),(52,.one (.bool false))],[104]⟩=
  C8 (lbC E16 (A2 Fo [1,1,1,1,1,1,1,0,0,0]) 10018 n) n (A60 x4 x8 (Ey x4:Int)) (A7 4 (C1 (B2 E16 n (A2 Fo [1,1,1,1,1,1,1,1])) (B3 E16 Tryz.f234.results.toList))):=by
 kernel_rfl
def C7y(n:Nat)(x4:Ef)(x8:Int)(x9:Int)(K:Ex->S6->DU):lbC E16 (A2 Fo [1,1,1,1,1,1,1,0,0,0]) 10018 n (A60 x4 x8 x9) K=
  bif(decide (x9>x8))==true then(match idx x4 (Ew .i64 (x9 - 1))with|none=>none|some y5=>(bif D0 y5 then(bif B8 y5 then(K .normal (A60 x4 x8 (Ew .i64 (x9 - 1))))else(K (.exit 4) ⟨[(4,.one (.sl .rs x4 (some 104))),(8,.one (.int .i64 x8)),(9,.one (.int .i64 x9)),(67,.one (.bool (B8 y5)))],[104]⟩))else none))else(K (.exit 4) ⟨[(4,.one (.sl .rs x4 (some 104))),(8,.one (.int .i64 x8)),(9,.one (.int .i64 x9)),(67,.one (.bool false))],[104]⟩):=by
 kernel_rfl
def D37(n:Nat)(x4:Ef)(x8:Int)(x9:Int)(Cf:Bool):(A7 4 (C1 (B2 E16 n (A2 Fo [1,1,1,1,1,1,1,1])) (B3 E16 Tryz.f234.results.toList))) (.exit 4) ⟨[(4,.one (.sl .rs x4 (some 104))),(8,.one (.int .i64 x8)),(9,.one (.int .i64 x9)),(67,.one (.bool Cf))],[104]⟩=
  match sub x4 x8 x9 with|none=>none|some y6=>(some (.one (.sl .rs y6 none))):=by
 kernel_rfl
def C5P(n:Nat)(x4:Ef)(x8:Int)(x9:Int):(A7 4 (C1 (B2 E16 n (A2 Fo [1,1,1,1,1,1,1,1])) (B3 E16 Tryz.f234.results.toList))) (.exit 4) ⟨[(4,.one (.sl .rs x4 (some 104))),(8,.one (.int .i64 x8)),(9,.one (.int .i64 x9)),(67,.one (.bool false))],[104]⟩=
  match sub x4 x8 x9 with|none=>none|some y7=>(some (.one (.sl .rs y7 none))):=by
 kernel_rfl
def D0B(l:DS):decide (G3 l<(l.length:Int))= !B8 l:=by
 rw[<-B2g];have:=D7Q l;unfold G3;by_cases h:M7 l=l.length
 ·rw[h];simp
 ·have h1:((M7 l:Int)==(l.length:Int))=false:=Es
  rw[h1];simp;omega
def B66(m:Int)(l:DS)(r:Ef):V2 m (l::r)=V2 (if !B8 l&&(decide (m<0)||decide (G3 l<m))then G3 l else m) r:=rfl
def D1g(ls:Ef)(hl:M3 ls=true)(n:Nat)(hn:ls.length<n):A5 E29 n Iu [.sl .rs ls none]=some (.one (.int .i64 (X1 ls))):=by
 have av:=A6t hl;rw[D01];refine(I8 (λp:Int×Nat=>A4F ls p.1 p.2) (λp=>1<=p.2) (λp=>ls.length - p.2) (λp=>some (.one (.int .i64 (if V2 p.1 (ls.drop p.2)<0 then 0 else V2 p.1 (ls.drop p.2))))) ?_ n (-1,1) (Ff _) Er).trans rfl;rintro⟨m,i⟩ hi K bw bX hn;dsimp only at hi hn ⊢;rw[D6q];simp only[bT,He];by_cases h:i<ls.length
 ·rw[El Du,D6 h,Gb h,B66];dsimp only;rw[A0Y hl (Ft h)];simp only[Eg,He];have hb:=D0B ls[i];have hw:Ew .i64 ((i:Int)+1)=((i+1:Nat):Int):=J3 Du;rw[hw];have h1:=λm'=>hn (m',i+1) Eo (by dsimp only;omega);dsimp only at h1;simp only[h1,bF];by_cases c1:G3 ls[i]<(ls[i].length:Int)
  ·rw[El c1];rw[Ei c1]at hb;rw[<-hb];by_cases c2:m<0
   ·simp[c2]
   ·by_cases c3:G3 ls[i]<m<;>simp[c2,c3]
  ·rw[Ek c1];rw[Ej c1]at hb;rw[<-hb];simp
 ·rw[Ek Du,bw,C7E,Fl Du];simp only[V2,He];by_cases hm:m<0<;>simp[hm]
section
variable {α:Type}(p:α->Bool)
def tw(l:List α):Nat:=(l.takeWhile p).length
def rt(l:List α):Nat:=(l.reverse.dropWhile p).length
def B2p(x:α)(l:List α):tw p (x::l)=if p x then tw p l+1 else 0:=by
 unfold tw;rw[Og];split<;>simp
def D0z{l:List α}{i:Nat}(h:i<l.length):i+tw p (l.drop i)=if p l[i]then(i+1)+tw p (l.drop (i+1))else i:=by
 rw[Gb h,B2p];split<;>omega
def D4l{l:List α}{i:Nat}(h:i<l.length):rt p (l.take (i+1))=if p l[i]then rt p (l.take i)else i+1:=by
 unfold rt;rw[<-Of h,Oi,List.reverse_singleton,List.singleton_append,Kv];split
 ·rfl
 ·simp;omega
def C7c(l:List α):l.drop (tw p l)=l.dropWhile p:=by
 induction l with
 |nil=>simp[tw]
 |cons x l ih=>
  rw[B2p,Kv];cases h:p x<;>simp[ih]
def D4P(l:List α):l.take (rt p l)=(l.reverse.dropWhile p).reverse:=by
 have h:l.reverse=l.reverse.takeWhile p++l.reverse.dropWhile p:=(List.takeWhile_append_dropWhile ..).symm;have h2:l=(l.reverse.dropWhile p).reverse++(l.reverse.takeWhile p).reverse:=by
  have h3:=congrArg List.reverse h;rw[Oh,Oi]at h3;exact h3
 unfold rt;have h4:(l.reverse.dropWhile p).length=(l.reverse.dropWhile p).reverse.length:=Eo
 rw[h4];generalize (l.reverse.dropWhile p).reverse=a at*;generalize (l.reverse.takeWhile p).reverse=b at*;subst h2;rw[List.take_left'];rfl
def C2A{β:Type}(q:β->Bool):∀{l:List α}{m:List β},l.map p=m.map q->tw p l=tw q m
 |[],[],_=>rfl
 |[],_::_,h=>by simp at h
 |_::_,[],h=>by simp at h
 |x::l,y::m,h=>by
  simp only[Gg,Fp]at h;rw[B2p,B2p,h.1,C2A q h.2]
def B9t{β:Type}(q:β->Bool):∀{l:List α}{m:List β},l.map p=m.map q->(l.dropWhile p).length=(m.dropWhile q).length
 |[],[],_=>rfl
 |[],_::_,h=>by simp at h
 |_::_,[],h=>by simp at h
 |x::l,y::m,h=>by
  have h0:=h;simp only[Gg,Fp]at h;rw[Kv,Kv,h.1];cases q y with
  |true=>exact B9t q h.2
  |false=>simpa using congrArg Ey h0
def D7i{β:Type}(q:β->Bool){l:List α}{m:List β}(h:l.map p=m.map q):rt p l=rt q m:=by
 unfold rt;exact B9t p q (by rw[Om,Om,h])
end
def D6e{l m:Ef}(h:m.map B8=l.map B8):(l.drop (tw B8 m)).take (rt B8 (m.drop (tw B8 m)))=R9 l:=by
 rw[C2A B8 B8 h];rw[D7i B8 B8 (l:=m.drop (tw B8 l)) (m:=l.drop (tw B8 l)) (by rw[Mf,Mf,h])];rw[D4P,C7c];rfl
def B2D:∀(ls:Ef)(m:Int),(0<=m->0<=V2 m ls/\V2 m ls<=m)/\(∀l∈ls,B8 l=false->0<=V2 m ls/\V2 m ls<=G3 l)
 |[],m=>⟨λh=>⟨h,Int.le_refl _⟩,λl hl=>by cases hl⟩
 |x::ls,m=>by
  rw[B66];have hx:0<=G3 x:=by unfold G3;omega
  by_cases hb:B8 x=true
  ·have h1:(if !B8 x&&(decide (m<0)||decide (G3 x<m))then G3 x else m)=m:=by simp[hb]
   rw[h1];obtain⟨a,b⟩:=B2D ls m;refine⟨a,λl hl di=>?_⟩;rcases Jp.1 hl with rfl|hl
   ·rw[hb]at di;cases di
   ·exact b l hl di
  ·have bH:B8 x=false:=by simpa using hb
   generalize hm:(if !B8 x&&(decide (m<0)||decide (G3 x<m))then G3 x else m)=m';have h0:0<=m'/\m'<=G3 x/\(0<=m->m'<=m):=by
    rw[bH]at hm;by_cases c1:m<0
    ·simp[c1]at hm;omega
    ·by_cases c2:G3 x<m
     ·simp[c2]at hm;omega
     ·simp[c1,c2]at hm;omega
   obtain⟨a,b⟩:=B2D ls m';have a':=a h0.1;refine⟨λh=>⟨a'.1,by have:=h0.2.2 h;omega⟩,λl hl di=>?_⟩;rcases Jp.1 hl with rfl|hl
   ·exact⟨a'.1,Du⟩
   ·exact b l hl di
def D46{l:DS}{n:Nat}(h:B8 l=false->n<=M7 l):B8 (l.drop n)=B8 l:=by
 cases hb:B8 l with
 |true=>
  unfold B8 at hb ⊢;simp only[Gu]at hb ⊢;exact λx hx=>hb x (Ol hx)
 |false=>
  have hn:=h hb;have dB:B8 l=(B8 (l.take n)&&B8 (l.drop n)):=by
   unfold B8;rw[<-Hb,Kp]
  have iE:B8 (l.take n)=true:=by
   clear dB hb h
   induction l generalizing n with
   |nil=>simp[B8]
   |cons x l ih=>
    cases n with
    |zero=>rfl
    |succ n=>
     rw[A5A]at hn;cases hw:K6 x with
     |false=>rw[hw]at hn;simp at hn
     |true=>
      rw[hw]at hn;simp only[if_true]at hn;have:=ih (n:=n) Du;unfold B8 at this ⊢;simp[hw,this]
  rw[iE,hb]at dB;simpa using dB.symm
def A1p(c:Int)(ls:Ef):Ef:=ls.take 1++(ls.drop 1).map λl=>l.drop c.toNat
def B0D(ls:Ef):N9 ls=A1p (V2 (-1) (ls.drop 1)) ls:=by
 unfold N9 A1p X1;have:(if V2 (-1) (ls.drop 1)<0 then(0:Int)else V2 (-1) (ls.drop 1)).toNat=(V2 (-1) (ls.drop 1)).toNat:=by split<;>omega
 simp only[this]
def A9j(c:Int)(ls:Ef):(A1p c ls).length=ls.length:=by
 unfold A1p;simp;omega
def B8Z{c:Int}{ls:Ef}{i:Nat}(h:i<ls.length):(A1p c ls)[i]'(by rw[A9j];exact h)=if 0<i then ls[i].drop c.toNat else ls[i]:=by
 unfold A1p;by_cases hi:0<i
 ·rw[El hi,List.getElem_append_right Es];simp
  congr 2
  omega
 ·have:i=0:=Du
  subst this;rw[Ek hi,List.getElem_append_left Es];simp
def D0V{c:Int}{ls:Ef}(h:M3 ls=true):M3 (A1p c ls)=true:=by
 unfold M3;rw[A9j];have h0:=h;simp only[M3,Fs]at h;rw[h.1,Ml,Gu];intro x hx;obtain⟨i,hi,rfl⟩:=On hx;have cK:i<ls.length:=by rw[A9j]at hi;exact hi
 rw[B8Z cK];have:=V9.1 (A0Y h0 (Ft cK));split
 ·rw[V9,Fh];omega
 ·exact A0Y h0 (Ft cK)
def C2F(ls:Ef)(hl:M3 ls=true)(f:Nat)(hf:f<=ls.length)(n:Nat)(hn:ls.length<n):
  C8 (lbC E16 (A2 Fo [1,1,1,1,1,1,1,0,0,0]) 10018 n) n (A60 ls f (ls.length:Int)) (A7 4 (C1 (B2 E16 n (A2 Fo [1,1,1,1,1,1,1,1])) (B3 E16 Tryz.f234.results.toList)))=
   some (.one (.sl .rs ((ls.drop f).take (rt B8 (ls.drop f))) none)):=by
 have av:=A6t hl;have e0:(ls.length:Int)=((f+(ls.length - f):Nat):Int):=Du
 rw[e0];refine(I8 (λt:Nat=>A60 ls f ((f+t:Nat):Int)) (λt=>f+t<=ls.length) (λt=>t) (λt=>(some (.one (.sl .rs ((ls.drop f).take (rt B8 ((ls.drop f).take t))) none)):DU)) ?_ n (ls.length - f) Du Du).trans (by rw[show(ls.drop f).take (ls.length - f)=ls.drop f from Ga Eo]);intro t ht K bw bX bf;have ct:∀t,f+t<=ls.length->sub ls (f:Int) ((f+t:Nat):Int)=some ((ls.drop f).take t):=λt ht=>by
  rw[A6j Du ht];have:f+t - f=t:=Du
  rw[this]
 rw[C7y];simp only[bT,He];cases t with
 |zero=>
  rw[Ek Du,bw,C5P,ct 0 ht];rfl
 |succ t=>
  rw[El Du];have e:((f+(t+1):Nat):Int)=((f+t+1:Nat):Int):=Du
  have aH:f+t<ls.length:=Du
  have jj:t<(ls.drop f).length:=Es
  rw[e,D2J Du,D6 aH];dsimp only;rw[A0Y hl (Ft aH),Eg,D4l B8 jj];have hg:(ls.drop f)[t]=ls[f+t]:=Eo
  rw[hg];cases hb:B8 ls[f+t]with
  |true=>
   simp only[Eg,if_true];exact bf t Du Du
  |false=>
   simp only[Eh];have h2:=ct (t+1) ht;rw[<-Md]at h2;rw[bw,D37,h2];rfl
def D2p(ls:Ef)(hl:M3 ls=true)(n:Nat)(hn:ls.length<n):
  C8 (lbC E16 (A2 Fo [1,1,1,1,1,0,0,0]) 10015 n) n (A7O ls 0) (A7 2 (C1 (B2 E16 n (A2 Fo [1,1,1,1,1,1])) (B3 E16 Tryz.f234.results.toList)))=
   some (.one (.sl .rs (R9 ls) none)):=by
 have av:=A6t hl;refine(I8 (λi:Nat=>A7O ls i) (λi=>i<=ls.length) (λi=>ls.length - i) (λi=>(some (.one (.sl .rs ((ls.drop (i+tw B8 (ls.drop i))).take (rt B8 (ls.drop (i+tw B8 (ls.drop i))))) none)):DU)) ?_ n 0 (Fi _) Du).trans ?_
 ·intro i hi K bw bX bf;rw[D1p];simp only[bT,He];by_cases h:i<ls.length
  ·rw[El Du,D6 h];dsimp only;rw[A0Y hl (Ft h),Eg,D0z B8 h];cases hb:B8 ls[i]with
   |true=>
    simp only[Eg,if_true];rw[J3 Du];exact bf (i+1) Du Du
   |false=>
    simp only[Eh];rw[bw,D1m];exact C2F ls hl i hi n hn
  ·rw[Ek Du,bw,D7k];have h2:tw B8 (ls.drop i)=0:=by rw[Fl Du];rfl
   rw[h2];exact C2F ls hl i hi n hn
 ·have h0:0+tw B8 (ls.drop 0)=tw B8 ls:=Eo
  rw[h0];exact congrArg (λx:Ef=>(some (.one (.sl .rs x none)):DU)) (D6e rfl)
def D3v(ls:Ef):0<=X1 ls:=by
 unfold X1;dsimp only;split<;>omega
def C6k(ls:Ef)(hl:M3 ls=true)(n:Nat)(hn:ls.length<n):A5 E16 n Fo [.sl .rs ls none]=some (.one (.sl .rs (K0 ls) none)):=by
 have av:=A6t hl;rw[C6q,hl,Eg];have lP:∀{i:Nat}(h:i<ls.length),(N9 ls)[i]'(by rw[B0D,A9j];exact h)=if 0<i then ls[i].drop (X1 ls).toNat else ls[i]:=by
  intro i h;have h1:N9 ls=A1p (X1 ls) ls:=rfl;simp only[h1];exact B8Z h
 have dp:(N9 ls).length=ls.length:=by rw[B0D,A9j]
 have fM:=D3v ls;refine(I8 (λi:Nat=>A2p ls (X1 ls) ((N9 ls).take i) i) (λi=>i<=ls.length) (λi=>ls.length - i) (λi=>(some (.one (.sl .rs (K0 ls) none)):DU)) ?_ n 0 (Fi _) Du);intro i hi K bw bX bf;rw[C80];simp only[bT,He];by_cases h:i<ls.length
 ·rw[El Du,D6 h];dsimp only;have Cc:=V9.1 (A0Y hl (Ft h));have hr:A3 (((N9 ls).take i).length+1) 24=true:=G4.2 (by rw[Gi];omega);have hw:Ew .i64 ((i:Int)+1)=((i+1:Nat):Int):=J3 Du;have bG:∀y:DS,y=(N9 ls)[i]'(by rw[dp];exact h)->K .normal (A2p ls (X1 ls) ((N9 ls).take i++[y]) ((i+1:Nat):Int))=some (.one (.sl .rs (K0 ls) none)):=by
   intro y hy;rw[hy,Of (by rw[dp];exact h)];exact bf (i+1) Du Du
  have aO:=lP h;have kF:∀k:Nat,k<=ls[i].length->A3 (0+k) 4=true:=λk hk=>G4.2 Du;rw[hr,hw];simp only[Eg];by_cases h0:0<i
  ·rw[El h0]at aO;rw[El Du];by_cases h1:(ls[i].length:Int)<=X1 ls
   ·rw[El h1,kF 0 (Fi _),Eg];refine bG [] ?_;rw[aO,Fl Du]
   ·rw[Ek h1,El Du];have h2:X1 ls=((X1 ls).toNat:Int):=Du
    rw[h2,A75 Du, <-h2];dsimp only;rw[kF _ Eo,Eg];exact bG _ aO.symm
  ·rw[Ek h0]at aO;rw[Ek Du,Ek Du,kF _ (Ff _),Eg];exact bG _ aO.symm
 ·rw[Ek Du,bw,C50,Ga Du];have wO:M3 (N9 ls)=true:=D0V hl;exact D2p (N9 ls) wO n Du
end Go.Aev.Bv
namespace Go.Aev.Bv
open Go.Proofs Go.Lib
def D5v{l:DS}(h:B8 l=false)(h0:0<l.length):decide (G3 l=0)= !K6 l[0]:=by
 match l,h0 with
 |x::r,_=>
  show decide (G3 (x::r)=0)= !K6 x;unfold G3;rw[A5A];cases K6 x<;>simp;omega
def D10{l:DS}(h:B8 l=false):0<l.length:=by
 cases l with
 |nil=>cases h
 |cons=>simp
def A02(l:DS):Bool:= !B8 l&&decide (G3 l=0)
def D38(l:DS):A02 l=(decide (G3 l=0)&&decide (0<(l.length:Int))):=by
 have hb:=B2g l;unfold A02;rw[<-hb];by_cases h0:G3 l=0
 ·rw[h0];by_cases h1:l.length=0
  ·rw[h1];rfl
  ·rw[beqF (Du:(0:Int)≠(l.length:Int)),Ei (Du:0<(l.length:Int))];rfl
 ·rw[Ej h0,Bool.and_false,Bool.false_and]
def C1G{ls:Ef}(h:0<ls.length):U7 ls=(!B8 ls[0]&&(!B8 (ls[ls.length - 1]'Du)&&(decide (ls.length=1)||ls.any A02))):=by
 have h1:ls.headD []=ls[0]:=by
  cases ls with
  |nil=>simp at h
  |cons a r=>rfl
 have h2:ls.getLastD []=ls[ls.length - 1]'Du:=by
  have aC:ls≠[]:=λe=>by subst e;simp at h
  rw[List.getLastD_eq_getLast?,List.getLast?_eq_getElem?,Fw Du];rfl
 unfold U7;rw[h1,h2];rfl
def C2n{ls:Ef}{i:Nat}(h:i<ls.length):(ls.drop i).any A02=(A02 ls[i]||(ls.drop (i+1)).any A02):=by
 rw[Gb h,Mh]
def D7t(ls:Ef)(hl:M3 ls=true)(h1:1<=ls.length)(n:Nat)(hn:ls.length<n):A5 A23 n Jf [.sl .rs ls none]=some (.one (.bool (U7 ls))):=by
 have av:=A6t hl;have ji:idx ls 0=some ls[0]:=D6 (i:=0) Du;have jz:idx ls ((ls.length - 1:Nat):Int)=some (ls[ls.length - 1]'Du):=D6 Du;have hw:Ew .i64 ((ls.length:Int) - 1)=((ls.length - 1:Nat):Int):=by rw[Q5 Du Du];omega
 rw[D5E,ji,hw,jz,C1G Du];dsimp only;rw[A0Y hl (Ft _),A0Y hl (Ft _)];cases lD:B8 ls[0]with
 |true=>rfl
 |false=>
  cases qL:B8 (ls[ls.length - 1]'Du)with
  |true=>rfl
  |false=>
   by_cases a8:ls.length=1
   ·rw[beqT (Du:(ls.length:Int)=1),Ei a8];rfl
   ·rw[beqF (Du:(ls.length:Int)≠1),Ej a8];show C8 _ n _ _=_;refine(I8 (λi:Nat=>A7H ls (ls.length:Int) i) (λi=>i<=ls.length) (λi=>ls.length - i) (λi=>(some (.one (.bool ((ls.drop i).any A02))):DU)) ?_ n 0 (Fi _) Du).trans rfl;intro i hi K bw bX bf;rw[D2n];by_cases h:i<ls.length
    ·rw[Ei (Du:(i:Int)<(ls.length:Int)),Eg,D6 h,J3 Du,C2n h];dsimp only;rw[A0Y hl (Ft h)];have bG:=bf (i+1) Du Du;unfold A02;cases hb:B8 ls[i]with
     |true=>exact bG
     |false=>
      have hp:=D10 hb;have hy:idx ls[i] 0=some ls[i][0]:=D6 (i:=0) hp;rw[hy,D5v hb hp];dsimp only;cases DB:K6 ls[i][0]with
      |true=>exact bG
      |false=>exact(bX _).trans rfl
    ·rw[Ej (Du:¬(i:Int)<(ls.length:Int)),Eh,bw,C6L,Fl Du];rfl
def C53(ls:Ef)(hl:M3 ls=true)(h1:1<=ls.length)(n:Nat)(hn:ls.length<n):A5 A2K n Jc [.sl .rs ls none]=some (.one (.bool (U7 ls))):=by
 have av:=A6t hl;have ji:idx ls 0=some ls[0]:=D6 (i:=0) Du;have jz:idx ls ((ls.length - 1:Nat):Int)=some (ls[ls.length - 1]'Du):=D6 Du;have hw:Ew .i64 ((ls.length:Int) - 1)=((ls.length - 1:Nat):Int):=by rw[Q5 Du Du];omega
 rw[D11,ji,hw,jz,C1G Du];dsimp only;rw[A0Y hl (Ft _),A0Y hl (Ft _)];cases lD:B8 ls[0]with
 |true=>rfl
 |false=>
  cases qL:B8 (ls[ls.length - 1]'Du)with
  |true=>rfl
  |false=>
   show C8 _ n _ _=_;refine(I8 (λi:Nat=>A8A ls i) (λi=>i<=ls.length) (λi=>ls.length - i) (λi=>(some (.one (.bool ((ls.drop i).any A02||decide (ls.length=1)))):DU)) ?_ n 0 (Fi _) Du).trans (by rw[List.drop_zero,Bool.or_comm];rfl);intro i hi K bw bX bf;rw[C9g];by_cases h:i<ls.length
   ·rw[Ei (Du:(i:Int)<(ls.length:Int)),Eg,D6 h,J3 Du,C2n h];dsimp only;rw[A0Y hl (Ft h),D38];have bG:=bf (i+1) Du Du;by_cases c0:G3 ls[i]=0
    ·rw[beqT c0,Ei c0];by_cases c1:0<(ls[i].length:Int)
     ·rw[Ei (show(ls[i].length:Int)>0 from c1)];exact(bX _).trans rfl
     ·rw[Ej (show¬(ls[i].length:Int)>0 from c1)];exact bG
    ·rw[beqF c0,Ej c0];exact bG
   ·rw[Ej (Du:¬(i:Int)<(ls.length:Int)),Eh,bw,D4t,Fl Du];by_cases a8:ls.length=1
    ·rw[beqT (Du:(ls.length:Int)=1),Ei a8];rfl
    ·rw[beqF (Du:(ls.length:Int)≠1),Ej a8];rfl
def B6g(r:DS):maskF (34::34::34::r)=92::34::34::34::maskF r:=rfl
def A98{c:Int}{r:DS}(h:K3 (c::r)=false):maskF (c::r)=c::maskF r:=by
 conv=>lhs;unfold maskF
 split
 ·rename_i cb;rw[cb]at h;cases h
 ·rename_i cb;cases cb;rfl
 ·rename_i cb;cases cb
def A9Z(l:DS):(maskF l).length<=2*l.length:=by
 fun_induction maskF l with
 |case1 r ih=>simp;omega
 |case2 c r h ih=>simp;omega
 |case3=>simp
def C3n{p:Int->Bool}(Cg:p 92=true)(l:DS)(h:l.all p=true):(maskF l).all p=true:=by
 fun_induction maskF l with
 |case1 r ih=>
  simp only[Fx,Fs]at h ⊢;exact⟨Cg,h.1,h.2.1,h.2.2.1,ih h.2.2.2⟩
 |case2 c r aC ih=>
  simp only[Fx,Fs]at h ⊢;exact⟨h.1,ih h.2⟩
 |case3=>rfl
def C58{c:Int}{r b:DS}(h:K3 (c::r)=false):K3 (c::r++10::b)=false:=by
 cases hq:K3 (c::r++10::b)with
 |false=>rfl
 |true=>
  obtain⟨z,hz⟩:=A1R.1 hq
  match r,hz with
  |[],hz=>simp at hz
  |[x],hz=>simp at hz
  |x::y::r',hz=>
   simp only[Gt,Fp]at hz;obtain⟨rfl,rfl,rfl,_⟩:=hz;cases h
def C8w(a b:DS):maskF (a++10::b)=maskF a++10::maskF b:=by
 fun_induction maskF a with
 |case1 r ih=>rw[Gt,Gt,Gt,B6g,ih];rfl
 |case2 c r aC ih=>
  have hq:K3 (c::r)=false:=by
   cases hq:K3 (c::r)with
   |false=>rfl
   |true=>
    obtain⟨z,hz⟩:=A1R.1 hq;simp only[Fp]at hz;exact absurd hz.2 (λe=>aC z hz.1 e)
  have:=C58 (b:=b) hq;rw[Gt]at this ⊢;rw[A98 this,ih];rfl
 |case3=>rw[Ia,A98 (by
   cases hq:K3 (10::b)with
   |false=>rfl
   |true=>obtain⟨z,hz⟩:=A1R.1 hq;simp at hz)];rfl
def B7g(m cur:DS):I5 cur m≠[]:=by
 induction m generalizing cur with
 |nil=>simp[I5]
 |cons c r ih=>
  rw[X8];split
  ·simp
  ·split
   ·exact ih _
   ·exact ih _
def B1X{l:DS}{ls:Ef}(h:ls≠[]):J0 (l::ls)=l++10::J0 ls:=by
 match ls,h with
 |x::r,_=>simp[J0]
def A8i(c:Int):Bool:= !(c==13)
def B7E:∀(m cur:DS),m.all A8i=true->J0 (I5 cur m)=cur++m
 |[],cur,_=>by simp[I5,J0]
 |c::r,cur,h=>by
  simp only[Fx,Fs]at h;have hc:c≠13:=λe=>by have:=h.1;rw[e]at this;cases this
  rw[X8,A5j];by_cases fY:c=10
  ·rw[El fY];simp only[if_true];rw[B1X (B7g r []),B7E r [] h.2,fY];rfl
  ·rw[Ek fY,Ek hc];simp only[Kf,if_false];rw[Ek hc,B7E r _ h.2];simp
def C1C{m:DS}(h:m.all A8i=true):J0 (B5 m)=m:=B7E m [] h
def C48:∀(ls:Ef),ls≠[]->maskF (J0 ls)++[10]=ls.flatMap λl=>maskF l++[10]
 |[l],_=>by simp[J0]
 |l::x::r,_=>by
  rw[B1X Eo,C8w,Gr, <-C48 (x::r) Eo];simp
def D6f{m:DS}(h:m.all A8i=true):maskF m++[10]=(B5 m).flatMap λl=>maskF l++[10]:=by
 rw[<-C48 (B5 m) (B7g m []),C1C h]
def B1H{p:Int->Bool}:∀(m cur:DS),cur.all p=true->m.all p=true->∀l∈I5 cur m,l.all p=true
 |[],cur,hc,_,l,hl=>by simp[I5]at hl;rw[hl];exact hc
 |c::r,cur,hc,hm,l,hl=>by
  simp only[Fx,Fs]at hm;rw[X8]at hl;split at hl
  ·rcases Jp.1 hl with rfl|hl
   ·exact hc
   ·exact B1H r [] rfl hm.2 l hl
  ·split at hl
   ·exact B1H r cur hc hm.2 l hl
   ·exact B1H r _ (by rw[Hb,hc];simp[hm.1]) hm.2 l hl
def C79(l:DS)(hl:smL l=true)(n:Nat)(hn:l.length<n):A5 A2T n Jb [.sl .i32 l none]=some (.one (.sl .i32 (maskF l) (some 1))):=by
 have av:=A0w hl;rw[C85];refine(I8 (λp:DS×Nat=>A2y l p.1 p.2) (λp=>p.1.length<=2*p.2/\p.2<=l.length) (λp=>l.length - p.2) (λp=>(some (.one (.sl .i32 (p.1++maskF (l.drop p.2)) (some 1))):DU)) ?_ n ([],0) Eo Er).trans Eo;rintro⟨out,i⟩ ⟨h1,h2⟩ K bw bX bf;dsimp only at h1 h2 bf ⊢;rw[C9M];by_cases h:i<l.length
 ·have hd:=U4 h;rw[Ei (Du:(i:Int)<(l.length:Int)),Eg,show(2:Int)=((2:Nat):Int)from rfl,A1n Du,show(3:Int)=((3:Nat):Int)from rfl,A1n Du,J3 Du,D6 h,G4.2 Du,G4.2 Du];have gD:K3 (l.drop i)=false->K .normal (A2y l (out++[l[i]]) ((i+1:Nat):Int))=some (.one (.sl .i32 (out++maskF (l.drop i)) (some 1))):=λhq=>by
   refine(bf (out++[l[i]],i+1) ⟨Es,Er⟩ Er).trans ?_;rw[hd]at hq ⊢;rw[A98 hq];simp
  by_cases h3:i+2<l.length
  ·have ng:K3 (l.drop i)=(l[i]==34&&(l[i+1]==34&&l[i+2]==34)):=by
    rw[B27 (by rw[Fh];omega)];simp
   rw[Ei (Du:((i+2:Nat):Int)<(l.length:Int)),D6 Du,D6 Du];dsimp only;by_cases c0:l[i]=34
   ·rw[beqT c0]at ng ⊢;by_cases c1:l[i+1]=34
    ·rw[beqT c1]at ng ⊢;by_cases c2:l[i+2]=34
     ·rw[beqT c2];refine(bf (out++[92,34,34,34],i+3) ⟨Es,Er⟩ Er).trans ?_;rw[hd,U4 (i:=i+1) Du,U4 (i:=i+1+1) Du,c0,c1,show l[i+1+1]=34 from c2,B6g];simp
     ·rw[beqF c2]at ng ⊢;exact gD ng
    ·rw[beqF c1]at ng ⊢;exact gD ng
   ·rw[beqF c0]at ng ⊢;exact gD ng
  ·rw[Ej (Du:¬((i+2:Nat):Int)<(l.length:Int))];exact gD (C0S (by rw[Fh];omega))
 ·rw[Ej (Du:¬(i:Int)<(l.length:Int)),Eh,bw,D29,Fl Du];exact congrArg (λz:DS=>(some (.one (.sl .i32 z (some 1))):DU)) (Fu out).symm
end Go.Aev.Bv
