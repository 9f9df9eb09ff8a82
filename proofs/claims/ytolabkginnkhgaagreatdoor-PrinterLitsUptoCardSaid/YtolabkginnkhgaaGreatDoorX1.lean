/- Proved here: lemmas that the claim's text uses. Conditions: those that each lemma states. -/
import Derived.Test.YtolabkginnkhgaaGreatDoorRows
import Derived.Lib.ValidLaws
import Derived.Lib.Strings
import Derived.Lib.Repeat
import Derived.Lib.Replace
import Derived.OrdersHeld
import Derived.Deep.LoopGhost
import Derived.Shelf.Strings.Builder1
import Derived.Shelf.Strings.Builder2
import Derived.Shelf.Small.Utf8
import Derived.Shelf.Strings.BuilderF
import Derived.Shelf.Strings.BuilderK
import Derived.Shelf.Utf8.AppendRune
import Derived.Shelf.Utf8.RuneCount
import Derived.Shelf.Strings.Builder2Cap
import Derived.Shelf.Strings.Search1
import Derived.Shelf.Strings.Search2
import Derived.Shelf.Strings.Search3
import Derived.Shelf.Strings.Count
import Derived.Shelf.LaysM
import Derived.Shelf.Strings.Shaped
import Derived.Shelf.Strings.Prefix
import Derived.Shelf.Strings.Split
import Derived.Shelf.Unicode.Decode
import Derived.Shelf.Strings.RuneCount
import Derived.Shelf.Bits.Mul64
import Derived.Shelf.Strings.Repeat
import Derived.Shelf.Unicode.DecodeSlow
import Derived.Shelf.Unicode.DecodeAny
import Derived.Test.YtolabkginnkhgaaGreatDoorProg
import Derived.Test.YtolabkginnkhgaaGreatDoorX0
set_option maxRecDepth 100000
set_option linter.unusedVariables false
set_option linter.unusedSimpArgs false
open Go renaming execOp→Ai,TypeId→Ba,Operand→Bd,Program→Bj,run_underlying→Bm,FuncId→Cb,yielded→Ce,callFunc→Cf,IntKind→Cj,sizeOf→Ck,wpList→Cl,typeInfo→Cq,getD_set_ne→Ct,wpAnyH→Do,storeCells→Dp,mem_ready→Dq,wpList_step→Eh,resolve→Ei,liesAt→Ej,wpList_plain→Fw,wpAny_sound→Fx,loadBytes→Fy,eqGuard_at_string→Ho
open Bool renaming and_eq_true→Bb,not_eq_true'→Cd,or_eq_true_iff→Fq,or_eq_true→Hi,false_or→Hj,false_eq_true→Hk,or_false→Jy,and_false→Jz
open Go.IntKind renaming wrap→Be
open Go.Proofs.Tryz renaming prog→Bf,zeroValue9→Cz,zeroValue5→Da,zeroValue3→Db,underlying9→Dc,underlying5→Dd,underlying3→De,sizeOf9→Df,sizeOf5→Dg,sizeOf3→Dh,isAgg9→Di,isAgg5→Dj,isAgg3→Dk,zeroValue4→Dr,zeroValue0→Ds,underlying4→Du,underlying0→Dv,sizeOf4→Dw,sizeOf0→Dx,isAgg4→Dy,isAgg0→Dz,f245→Ek,f174→El,zeroValue203→Ev,underlying203→Ew,sizeOf203→Ey,isAgg203→Ez,zeroValue22→Gc,zeroValue107→Ge,zeroValue105→Gf,underlying22→Gg,underlying107→Gi,underlying105→Gj,sizeOf22→Gk,sizeOf107→Gl,sizeOf105→Gm,isAgg22→Gn,isAgg107→Gp,isAgg105→Gq,zeroValue319→Hs,zeroValue318→Ht,zeroValue281→Hu,zeroValue265→Hv,zeroValue264→Hw,zeroValue21→Hx,zeroValue20→Hy,zeroValue172→Hz,underlying319→Ia,underlying318→Ib,underlying316→Ic,underlying281→Ie,underlying265→If,underlying264→Ig,underlying21→Ih,underlying20→Ii,underlying172→Ij,sizeOf319→Ik,sizeOf318→Il,sizeOf316→Im,sizeOf281→Io,sizeOf265→Ip,sizeOf264→Iq,sizeOf21→Ir,sizeOf20→Is,sizeOf172→It,isAgg319→Iu,isAgg318→Iv,isAgg316→Iw,isAgg281→Ix,isAgg265→Iy,isAgg264→Iz,isAgg21→Ja,isAgg20→Jb,isAgg172→Jc
open Nat renaming beq→Bg,le_refl→Bh,blt→Bp,blt_eq→By,zero_le→Cg,zero_add→Ch,eq_of_beq_eq_true→Cr,lt_or_ge→Cw,sub_zero→Dl,lt_of_lt_of_le→Dm,le_trans→Dn,mul_le_mul_right→Ea,lt_trichotomy→Fc,ble_eq→Gw,add_zero→Gx,add_mul→Gy,add_assoc→Jf
open List renaming length→Bi,mem_cons→Bn,getElem?_eq_getElem→Bz,mem_of_getElem?→Ca,getD_eq_getElem?_getD→Ci,getElem?_take→Cx,length_cons→Eb,drop_drop→Ec,all_eq_true→Ed,not_mem_nil→Ep,mem_of_mem_take→Er,drop→Es,append_nil→Et,range→Fe,mem_singleton→Ff,mem_range→Fg,mem_filter→Fh,map_id→Fi,map_congr_left→Fj,getElem?_map→Fk,getElem?_eq_none→Fl,eq_nil_of_length_eq_zero→Fm,count_pos_iff→Fo,all_cons→Fp,mem_append_right→Gz,mem_append_left→Ha,mem_append→Hb,map_cons→Hc,any_eq_true→Hd,any_eq_false→He,take_succ_cons→Jg,nodup_cons→Jh,getElem_of_mem→Ji,getElem?_eq_some_iff→Jj,getElem?_drop→Jk,ext_getElem?→Jl
open Go.Op renaming operands→Bl,intCmp→Eo
open Array renaming getD_eq_getD_getElem?→Bo,replicate→Bt,getElem?_eq_getElem→Bu,getElem?_eq_some_iff→Cp,getElem?_push→Eg,toList_setIfInBounds→Fs,getElem?_append_left→Ft,size_push→Hl,getElem?_replicate→Hm,getElem?_eq_none→Hn,getElem?_toList→Kb,getElem?_setIfInBounds→Kc,getElem?_modify→Kd,ext_getElem?→Ke
open Int renaming toNat→Bq
open Option.some renaming injEq→Br,inj→Em
open Go.World renaming cell?_of_block→Bw,cell?→Cm,shape?→Fz,setCell→Ga,frozen?→Hp
open Go.Region renaming wanted→Bx,ready→Cn,binds→Co,Mode→Cv
open Prod.mk renaming injEq→Cc
open Go.Shelf renaming Ren→Cs
open Go.Lib renaming decodeL→Cu,run_unsafeString_none→Jm,decodeGo→Jo
open Go.Addr renaming add_lit→Cy,mk→Fu
open Go.Instr renaming sureAddr→Ee,storeAt→Hf,loadAt→Jq,extract→Jr,buildSlice→Js,alloc→Jt
open Go.Call renaming operands→Ef
open Go.Oper renaming wp→En,upon_value→Gu,upon_skip→Gv
open Go.Proofs.Builder renaming Extra→Eu
open Go.Result renaming andThen→Fa
open Option renaming map_eq_some_iff→Fb,map_some→Gr,isNone_iff_eq_none→Gt,bind_some→Jd
open Go.Act renaming put→Fv
open UInt8 renaming toNat→Gb,ofNat→Hr
open Go.Builtin renaming unsafeSliceData_→Hg,firstCells→Hh,unsafeString_→Jw,append_→Jx
open Go.Value.slice renaming injEq→Hq
open Go.Operand renaming tmp→Je
open Go.Ending renaming returned→Ju
open Go.Code renaming wp_mono→Jv
open Go.Proofs.Body renaming n169_ntmps→Ka
open Go.Addr.mk renaming injEq→Kf
open Go.Value.tuple renaming injEq→Kg
open Go.Value.pointer renaming injEq→Kh
open Go.Proofs.Lays renaming n260→Ki,n197→Kj,n169→Kk,n165→Kl,n138→Km,n105→Kn,n101→Ko
open Go.Extern.AbiNoEscape renaming same→Kp
section
open Go.Lib
namespace Go.Aev
variable {Ty:Type}{den:Ty→Type}
structure A0K(P:Bj)(E:Env Ty den)(B:Bs):Prop where
 U:E.U.Ok
 np:B.np≤E.np
 tb:∀ t,S3 P E.U t (E.tb t)
 zr:∀ t zs,E.zr t=some zs→A48 P E.U t zs
 T:∀ f ls r,E.T f ls=some (true,r)→(∀ args w,(Cf f args).run P w=.ok (.enter f args) w)∧A1R P E.U (fun w1 m1=>Ext B.w B.wm w1 m1) f ls r
 TB:∀ f ls cs rs av,E.TB f ls cs=some (rs,av)→(∀ args w,(Cf f args).run P w=.ok (.enter f args) w)∧X9 P E.U (fun w1 m1=>Ext B.w B.wm w1 m1) f ls cs rs av
 TI:∀ nm ls cs rs av,E.TI nm ls cs=some (rs,av)→A6S P E.U B nm ls cs rs av
 TR:∀ f ls cs rs,E.TR f ls cs=some rs→(∀ args w,(Cf f args).run P w=.ok (.enter f args) w)∧X9 P E.U (fun w1 m1=>Ext B.w B.wm w1 m1) f ls cs rs cs
section
variable {E:Env Ty den}{B:Bs}{g:Gh}{s:St Ty den}{a:Act}{w:World}
variable {P:Bj}{R:Type}{o:Oper}{k:Ent Ty den→St Ty den→Option R}{r:R}{next:Act→World→Prop}{Q:Exit→Act→World→Prop}
theorem B9V(hE:A0K P E B){x:Bd}(ak:o.op=.assign x)(h:A9 E o s k=some r)(hr:Rel E.U B g s a w)(hd:∀ i,o.dst=some i→i<a.tmps.size∧B.np≤i)(hn:K0 E B o a k r next):o.wp P a w next Q:=by
 simp only[A9,ak]at h;have ag:(Ai a.eval o).run P w=.ok (.value (a.eval x)) w:=by simp[Ai,ak]
 cases b8:A2G x with
 |false=>
  rw[b8]at h;exact H8 hr hd hn h (A2M hr _ _) (B3z _ _ _) ag
 |true=>
  rw[b8]at h;simp only[cond_true]at h;have sJ:a.eval x=.slice none 0 0∧∃ v,x=.const v∧v=.slice none 0 0:=by
   unfold A2G at b8;split at b8
   ·exact⟨rfl,_,rfl,rfl⟩
   ·cases b8
  obtain⟨fG,v,hx,hv⟩:=sJ;have aq:=J1 hr o.type x;split at h
  ·rename_i u l own hl;rw[hl]at aq;rw[fG]at aq ag;have au:l=[]:=by
    obtain⟨a0,cap,h1⟩:=aq.1.sl_inv;simp at h1;exact Fm h1.2.1.symm
   subst au;have h2:=hr.fresh hE.U (C7 o.dst) (.slice none 0 0) (E.U.size u) ⟨_,_,_,rfl,Bh _,.inl rfl⟩ (fun _ _ _ _ hs=>by simp[spare]at hs) (fun _ hs=>by simp[spare]at hs);refine R7 ag (hn _ _ _ _ h (REL.setO h2 (e:=.one (.sl u [] (some (C7 o.dst)))) ⟨.nil _ _ _ _,fun t1 l1 d1 he=>?_,fun _ _ he=>by(cases he)⟩ rfl _ hd));simp only[Leaf.sl.injEq,Br]at he;obtain⟨rfl,_,rfl⟩:=he;exact⟨by simp[Gh.put],by simp[Gh.put],TyB.nil⟩
  ·exact H8 (e:=.one (opl E s o.type x)) hr hd hn h (show ERep _ _ _ (.one _) _ from aq) rfl ag
theorem A4I(hE:A0K P E B)(h:A9 E o s k=some r)(hr:Rel E.U B g s a w)(hd:∀ i,o.dst=some i→i<a.tmps.size∧B.np≤i)(hn:K0 E B o a k r next):o.wp P a w next Q:=by
 cases ak:o.op with
 |move x=>exact C0A ak h hr hd hn
 |assign x=>exact B9V hE ak h hr hd hn
 |makeInterface t x=>exact C9O hE.tb ak h hr hd hn
 |pick c x y=>exact C2c ak h hr hd hn
 |extract x i=>exact D0B ak h hr hd hn
 |binOp op t x y yt=>exact C2O hE.tb ak h hr hd hn
 |unOp op t x=>exact C6N ak h hr hd hn
 |convert src dst x=>exact C6M hE.tb hE.U ak h hr hd hn
 |indexAddr t x i=>exact C1Z hE.tb hE.U ak h hr hd hn
 |index t x i=>exact C7C hE.tb ak h hr hd hn
 |load t x=>exact B95 hE.tb hE.U ak h hr hd hn
 |build t ps=>exact C47 hE.tb hE.U hE.zr ak h hr hd hn
 |alloc t=>exact C8h hE.U hE.zr ak h hr hd hn
 |box t x=>exact C5X hE.U hE.zr ak h hr hd hn
 |store t x y=>exact C6K hE.U hE.zr ak h hr hd hn
 |nilCheck x=>exact D0b ak h hr hd hn
 |fieldAddr t x i=>exact C5i hE.tb ak h hr hd hn
 |slice t x lo hi mx=>exact C91 hE.tb hE.U ak h hr hd hn
 |buildSlice t n ps=>exact C0v hE.tb hE.U ak h hr hd hn
 |makeSlice t l c=>exact D1w hE.tb hE.U ak h hr hd hn
 |range t x=>exact C5z hE.tb hE.U ak h hr hd hn
 |next x sy=>
  cases x with
  |tmp i=>
   cases sy with
   |true=>exact C1w ak h hr hE.U hd hn
   |false=>simp only[A9,ak]at h;cases h
  |_=>simp only[A9,ak]at h;cases h
 |call c=>
  have h0:=h;simp only[A9,ak]at h;cases aG:c.callee with
  |value x=>
   cases x with
   |func f=>
    rw[aG]at h;dsimp only at h;cases lF:E.bp f with
    |none=>rw[lF]at h;exact C2v hE.U hE.T ak aG h hr hd hn
    |some ps=>
     rw[lF]at h;dsimp only at h;cases rQ:E.ro f with
     |true=>
      rw[rQ]at h;simp only[cond_true]at h;obtain⟨e,he,h⟩:=B4Z E h;exact B9p hE.U hE.T hE.TR ak aG he hr hd fun v w' bH=>hn _ _ _ _ h bH
     |false=>rw[rQ]at h;exact C38 hE.U hE.TB ak aG (C4C E h) hr hd hn
   |_=>rw[aG]at h;cases h
  |invoke x m=>rw[aG]at h;exact C59 hE.U hE.TI ak aG (B4F h) hr hd hn
  |builtin b=>rw[aG]at h;exact C3d hE.tb hE.U ak aG h hr hd hn
 |_=>simp only[A9,ak]at h;cases h
theorem C2U{a b c d e:Bool}(h:(a&&(b&&(c&&(d&&e))))=true):a=true∧b=true∧c=true∧d=true∧e=true:=by
 cases a<;>cases b<;>cases c<;>cases d<;>cases e<;>simp at h ⊢
theorem C1l{d:Nat}{y:Bd}(h:B3s d y=true)(a:Act)(v:Value):(a.put (some d) v).eval y=a.eval y:=by
 cases y with
 |tmp t=>
  simp only[B3s,Cd]at h;have az:d≠t:=fun e=>by rw[←e,H4]at h;cases h
  show(a.tmps.setIfInBounds d v).getD t undef=a.tmps.getD t undef;rw[Bo,Bo,Kc,if_neg az]
 |const v=>rfl
 |global g=>rfl
 |func f=>rfl
theorem B8z(hE:A0K P E B){o2:Oper}{d:Nat}{l:Leaf Ty den}(hb:A9Z E o o2 s=some (d,l))(hr:Rel E.U B g s a w)(hd:∀ i,o.dst=some i→i<a.tmps.size∧B.np≤i){K K2:Act→World→Prop}
  (h1:∀ a1 w1,o2.wp P a1 w1 K2 Q→K a1 w1)(h2:∀ a' w',REL E.U B (s.set d (.one l)) a' w'→a'.tmps.size=a.tmps.size→K2 a' w'):o.wp P a w K Q∧o2.guard=none:=by
 unfold A9Z at hb;split at hb
 ·rename_i t d0 t2 d2 y ak aJ tc;obtain⟨hc,bw⟩:=C0 hb;clear hb;obtain⟨c1,c2,c3,c4,c5⟩:=C2U hc;have e1:=(F6 _ _).1 c1;have e2:=(F6 _ _).1 c2;subst e1;subst e2;have ij:o2.guard=none:=by simpa using c4
  have aU:o2.dst=none:=by simpa using c5
  refine⟨?_,ij⟩;split at bw
  ·rename_i u pl u' x ht hy;split at bw
   ·rename_i x' cW;simp only[Br,Cc]at bw;obtain⟨rfl,rfl⟩:=bw;obtain⟨rfl,ex⟩:=A8R cW;simp only at ex;subst ex;obtain⟨fs,ie,z,i1,i2,i3,i4,i5,i6⟩:=A3Z hE.tb ht;have vK:=J1 hr 0 y;rw[hy]at vK;obtain⟨vs,ev,cu,cs,cH,fq⟩:=A55 vK.1;have cm:=hE.U.len u' x;have aB:d0<a.tmps.size:=(hd d0 aJ).1;have aF:∀ v∈vs,v.oneCell'=true:=fun v hv=>by
     obtain⟨j,hj,pA⟩:=Ji hv;have td:j<(E.U.cells u' x).length:=by omega
     have h3:=cH j _ (Bz td);rw[Bz hj]at h3;rw[←pA,Em h3];exact((fq j _ (Bz td)).one hE.U (hE.U.solid u' x _ (List.getElem_mem td))).1
    have ag:(Ai a.eval o).run P w=.ok (.value (.pointer (some ⟨w.heap.size,0,none⟩))) (w.alloc (.cells z.cells t)):=by
     simp[Ai,ak,Jt,zeroValue,Cq,i3,i5,newVar,newRow]
    refine R7 ag (h1 _ _ ?_);rw[aJ];have gu:(a.put (some d0) (.pointer (some ⟨w.heap.size,0,none⟩))).eval y=.agg vs.toArray:=by rw[C1l c3,ev]
    have lQ:(a.put (some d0) (.pointer (some ⟨w.heap.size,0,none⟩))).eval (.tmp d0)=.pointer (some ⟨w.heap.size,0,none⟩):=by
     have:=A78 a d0 d0 (.pointer (some ⟨w.heap.size,0,none⟩)) aB;rw[if_pos rfl]at this;exact this
    have te:(w.alloc (.cells z.cells t)).heap[w.heap.size]?=some (.cells z.cells t (0,0)):=by
     have hp:(w.alloc (.cells z.cells t)).heap=w.heap.push (.cells z.cells t):=rfl;rw[hp];simp
    obtain⟨s1,⟨c',s2,s3,_,s5⟩,s6,s7,s8,s9,ld⟩:=A4J P w.heap.size t (0,0) vs 0 (w.alloc (.cells z.cells t)) z.cells te (by omega) (fun j _ _=>by simp) aF;have bL:=s1 ⟨w.heap.size,0,none⟩ 0 rfl (Bh _);have cC:c'=vs.toArray:=by
     apply Ke;intro j;by_cases hj:j<vs.length
     ·have:=s5 j vs[j] (Bz hj);rw[Ch]at this;rw[this];simp[hj]
     ·rw[Hn (by omega),Hn (by simp;omega)]
    have iO:(C3 (w.alloc (.cells z.cells t)) w.heap.size 0 vs).heap=w.heap.push (.cells vs.toArray t (0,0)):=by
     apply Ke;intro j;by_cases hj:j=w.heap.size
     ·subst hj;rw[s2,cC];simp
     ·rw[s7 j hj];simp only[World.alloc,Eg,if_neg hj]
    have bH:=hr.alloc hE.U (.cells vs.toArray t (0,0)) (E.U.size u') (C3 (w.alloc (.cells z.cells t)) w.heap.size 0 vs) iO s8 s9 ld;have hx:Ext w g.wm (C3 (w.alloc (.cells z.cells t)) w.heap.size 0 vs) (D1 g.wm w.heap.size (E.U.size u')):=by
     refine⟨A0X iO,fun b off ho=>?_,fun b=>?_⟩
     ·rcases Cw b w.heap.size with h2|h2
      ·exact Bw (a:=⟨b,off,none⟩) (by rw[iO,Eg,if_neg (by show¬b=w.heap.size;omega)])
      ·rw[hr.zero b h2]at ho;omega
     ·unfold D1;by_cases hb:b=w.heap.size
      ·subst hb;rw[if_pos rfl,hr.zero _ (Bh _)];exact Cg _
      ·rw[if_neg hb];exact Bh _
    have aq:CRep E.U (C3 (w.alloc (.cells z.cells t)) w.heap.size 0 vs) (D1 g.wm w.heap.size (E.U.size u')) (.elem u' x 0) (.pointer (some ⟨w.heap.size,0+0,none⟩)):=by
     refine .elem u' x 0 w.heap.size 0 cs (by simp[D1]) (fun j lf hj=>?_) (fun j lf hj=>(fq j lf hj).mono hE.U hx);have h3:=cH j lf hj;have a8:(C3 (w.alloc (.cells z.cells t)) w.heap.size 0 vs).heap[w.heap.size]?=some (.cells vs.toArray t (0,0)):=by rw[iO];simp
     have bQ:=J7 h3;rw[Bz bQ]at h3;simp[Cm,a8,bQ,Em h3]
    have ik:=bH.set (e:=.one (.elem u' x 0)) (v:=.pointer (some ⟨w.heap.size,0,none⟩)) ⟨aq,fun _ _ _ he=>by(cases he),fun _ _ he=>by(cases he)⟩ rfl d0 (hd d0 aJ);unfold En;have pX:(Ai (a.put (some d0) (.pointer (some ⟨w.heap.size,0,none⟩))).eval o2).run P (w.alloc (.cells z.cells t))=.ok .skip (C3 (w.alloc (.cells z.cells t)) w.heap.size 0 vs):=by
     have aC:(Ck t).run P (w.alloc (.cells z.cells t))=.ok (E.U.size u') (w.alloc (.cells z.cells t)):=by simp[Ck,Cq,i3,i4]
     have jW:(Value.agg vs.toArray).cells=vs.toArray:=rfl;generalize w.alloc (.cells z.cells t)=w1 at aC bL ⊢;simp[Ai,tc,gu,lQ,Hf,Ee,storeVar,aC,jW,cu,bL]
    rw[pX,Gv,aU];exact h2 _ _ ⟨_,ik⟩ (by simp[Fv])
   ·cases bw
  ·cases bw
 ·cases hb
theorem A6K{m n:Nat}{d:Option Nat}(h:okd m n d=true):∀ i,d=some i→i<n∧m≤i:=fun i hi=>by
 subst hi;simp only[okd,Bb,By,Gw]at h;exact h
theorem C5M(E:Env Ty den)(ops:Array Oper)(o:Oper)(r:List Oper)(s:St Ty den)(k:St Ty den→Option R):A11 E ops (o::r) s k=bif okd E.np E.nt o.dst then match o.guard with
 |none=>bif P9 o.op&& !(mbO E o.dst)then(match r with
   |o2::r2=>(match A9Z E o o2 s with
    |some (d,l)=>A11 E ops r2 (s.set d (.one l)) k
    |none=>none)
   |[]=>none)
  else A9 E o s fun e s'=>A11 E ops r (s'.setO o.dst e) k
 |some (j,aL)=>match(ops[j]?).bind (·.dst)with
  |some g=>match s.get g with
   | .one (.bool b)=>bif b==aL
    then A9 E o (s.set g (.one (.bool aL))) fun e s'=>A11 E ops r (s'.setO o.dst e) k
    else A11 E ops r ((s.set g (.one (.bool (!aL)))).setO o.dst (.one (.val undef))) k
   | .one (.val v)=>bif A3x v then A11 E ops r (s.setO o.dst (.one (.val undef))) k else none
   |_=>none
  |none=>none
 else none:=by cases r<;>rfl
theorem A6F(hE:A0K P E B)(ops:Array Oper):∀(os:List Oper)(s:St Ty den)(a:Act)(w:World)(k:St Ty den→Option R),A11 E ops os s k=some r→REL E.U B s a w→a.tmps.size=E.nt→
  (∀ s' a' w',k s'=some r→REL E.U B s' a' w'→a'.tmps.size=E.nt→Q .normal a' w')→Cl P ops Q os a w
 |[],s,a,w,k,h,hr,aC,hk=>wpList_nil (hk s a w h hr aC)
 |o::os,s,a,w,k,h,⟨g,hr⟩,aC,hk=>by
  rw[C5M]at h;obtain⟨aJ,h⟩:=C0 h;have hd:∀ i,o.dst=some i→i<a.tmps.size∧B.np≤i:=fun i hi=>by rw[aC];have:=A6K aJ i hi;exact⟨this.1,Dn hE.np this.2⟩
  have run:∀(s1:St Ty den)(g1:Gh),Rel E.U B g1 s1 a w→A9 E o s1 (fun e s'=>A11 E ops os (s'.setO o.dst e) k)=some r→∀(K:Act→World→Prop),(∀ a w,Cl P ops Q os a w→K a w)→o.wp P a w K Q:=by
   intro s1 g1 cJ h1 K hK;refine A4I hE h1 cJ hd ?_;intro e s' v w' ga bH;exact hK _ _ (A6F hE ops os _ _ _ k ga bH (by rw[Z4];exact aC) hk)
  cases hg:o.guard with
  |none=>
   rw[hg]at h;dsimp only at h;cases eV:P9 o.op&& !(mbO E o.dst)with
   |true=>
    rw[eV]at h;simp only[cond_true]at h
    match os,h with
    |[],h=>cases h
    |o2::vL,h=>
     dsimp only at h;split at h
     ·rename_i d l lj;refine Fw hg fun K hK=>(B8z (K2:=fun a1 w1=>Cl P ops Q vL a1 w1) hE lj hr hd (fun a1 w1 hw=>hK _ _ (Fw ?_ fun K2 xA=>?_)) (fun a' w' bH pY=>?_)).1
      ·exact(B8z (K:=fun _ _=>True) (K2:=fun _ _=>True) (Q:=Q) hE lj hr hd (fun _ _ _=>trivial) (fun _ _ _ _=>trivial)).2
      ·exact Oper.wp_mono xA hw
      ·exact A6F hE ops vL _ a' w' k h bH (by rw[pY];exact aC) hk
     ·cases h
   |false=>
    rw[eV]at h;exact Fw hg fun K hK=>run s g hr h K hK
  |some jw=>
   obtain⟨j,aL⟩:=jw;rw[hg]at h;dsimp only at h;cases hj:(ops[j]?).bind (·.dst)with
   |none=>rw[hj]at h;cases h
   |some gd=>
    rw[hj]at h;dsimp only at h;split at h
    ·rename_i b lR;have aK:=hr.ent gd;rw[lR]at aK;have aX:a.tmps.getD gd undef=.bool b:=CRep.bool_inv aK.1;have aB:gd<a.tmps.size:=by
      rcases Cw gd a.tmps.size with h1|h1
      ·exact h1
      ·rw[Bo,Hn h1]at aX;cases aX
     have aI:a.tmps[gd]?=some (.bool b):=by
      rw[Bo,Bu aB]at aX;rw[Bu aB];simpa using aX
     have hy:Ce ops a.tmps j=some b:=by
      unfold Ce;rw[hj];simp[aI]
     have ik:∀ c:Bool,b=c→Rel E.U B g (s.set gd (.one (.bool c))) a w:=by
      intro c hc;exact hr.setSame (e:=.one (.bool c)) (by rw[aX,hc];exact LRep.bool c) rfl
     refine Eh fun K hK=>?_;simp only[Bx,hg,hy];cases gV:(b==aL)with
     |true=>
      have pZ:b=aL:=by simpa using gV
      rw[gV]at h;rw[if_pos (by simp[pZ])];exact run _ g (ik aL pZ) h K hK
     |false=>
      rw[gV]at h;have az:b≠aL:=by simpa using gV
      have p8:b= !aL:=by cases b<;>cases aL<;>simp_all
      rw[if_neg (by simp[az])];refine hK _ _ (A6F hE ops os _ _ _ k h ?_ (by rw[Z4];exact aC) hk);exact REL.setO (ik _ p8) (e:=.one (.val undef)) ⟨.val _,fun _ _ _ he=>by(cases he),fun _ _ he=>by(cases he)⟩ rfl o.dst hd
    ·rename_i v p9;have aK:=hr.ent gd;rw[p9]at aK;have aX:a.tmps.getD gd undef=v:=by
      have h1:=aK.1;cases h1;rfl
     obtain⟨dZ,h⟩:=C0 h;have hy:∀ b,Ce ops a.tmps j≠some b:=by
      intro b hb;unfold Ce at hb;rw[hj]at hb;simp only[Jd]at hb;rw[Bo]at aX;cases ij:a.tmps[gd]? with
      |none=>rw[ij]at hb;simp at hb
      |some u=>
       rw[ij]at hb aX;simp at aX;subst aX;cases u<;>simp[A3x]at hb dZ
     refine Eh fun K hK=>?_;simp only[Bx,hg];rw[if_neg (by
      intro h1;exact hy aL (by simpa using h1))]
     refine hK _ _ (A6F hE ops os _ _ _ k h ?_ (by rw[Z4];exact aC) hk);exact REL.setO hr (e:=.one (.val undef)) ⟨.val _,fun _ _ _ he=>by(cases he),fun _ _ he=>by(cases he)⟩ rfl o.dst hd
    ·cases h
end
end Go.Aev
end
section
open Go.Lib
namespace Go.Aev
variable {Ty:Type}{den:Ty→Type}
section
variable {E:Env Ty den}{B:Bs}{g:Gh}{s:St Ty den}{a:Act}{w:World}
variable {P:Bj}{R:Type}{o:Oper}{r:R}
structure Sees(o:Oper)(s s2:St Ty den):Prop where
 tmp:∀ t,Je t∈o.op.operands.toList→s2.get t=s.get t
 bx:∀ d ls,U7 s d=some ls→U7 s2 d=some ls
theorem Sees.opd{s2:St Ty den}(h:Sees o s s2){x:Bd}(hx:x∈o.op.operands.toList)(ty:Ba):opd E s2 ty x=opd E s ty x:=by
 cases x with
 |tmp t=>simp only[Aev.opd,h.tmp t hx]
 |_=>rfl
theorem Sees.opl{s2:St Ty den}(h:Sees o s s2){x:Bd}(hx:x∈o.op.operands.toList)(ty:Ba):opl E s2 ty x=opl E s ty x:=by
 simp only[Aev.opl,h.opd hx]
theorem Sees.args{s2:St Ty den}{c:Call}(ak:o.op=.call c)(h:Sees o s s2):∀(dH:List Ba)(xs:List Bd),(∀ x∈xs,x∈c.args.toList)→R2 E s2 dH xs=R2 E s dH xs:=by
 have cL:∀ x∈c.args.toList,x∈o.op.operands.toList:=by
  intro x hx;rw[ak];simp only[Bl,Ef];cases c.callee<;>simp_all
 intro dH xs
 induction xs generalizing dH with
 |nil=>intro _;cases dH<;>rfl
 |cons x xs ih=>
  intro iM;cases dH with
  |nil=>simp only[R2,h.opl (cL x (iM x (by simp))),ih [] (fun y hy=>iM y (by simp[hy]))]
  |cons t ts=>simp only[R2,h.opl (cL x (iM x (by simp))),ih ts (fun y hy=>iM y (by simp[hy]))]
theorem J2{a b:Nat}{x:Option R}(h:(bif Bg a b then x else none)=some r):a=b∧x=some r:=by
 obtain⟨h1,h2⟩:=C0 h;exact⟨Cr h1,h2⟩
theorem B5E{s2:St Ty den}{d:Int}{b:Option Bd}(h:Sees o s s2)(hb:∀ x,b=some x→x∈o.op.operands.toList):U3 E s2 d b=U3 E s d b:=by
 cases b with
 |none=>rfl
 |some x=>simp only[U3,h.opl (hb x rfl)]
theorem B4L{s2:St Ty den}(h:Sees o s s2)(pl:List (Nat×Nat)):∀(ps:List (Nat×Bd))(ls:List (Leaf Ty den)),(∀ p∈ps,p.2∈o.op.operands.toList)→A1B E s2 pl ps ls=A1B E s pl ps ls
 |[],ls,_=>rfl
 |(j,x)::ps,ls,cL=>by
  simp only[A1B];rw[show opl E s2 0 x=opl E s 0 x from h.opl (cL (j,x) (by simp)) 0];cases pl[j]? with
  |none=>rfl
  |some q=>
   obtain⟨o1,n1⟩:=q;dsimp only;cases cellsOf E n1 (opl E s 0 x).close with
   |none=>rfl
   |some ys=>
    dsimp only;rw[B4L h pl ps _ (fun p hp=>cL p (by simp[hp]))]
theorem C1P{t:Ba}{x:Bd}(ak:o.op=.makeInterface t x){k1:Ent Ty den→Option R}(h:A9 E o s (fun e s'=>bif Bg (Y9 s'.live) (Y9 s.live)then k1 e else none)=some r):
  ∃ e,k1 e=some r∧∀ s2:St Ty den,Sees o s s2→A9 E o s2 (fun e s'=>some (e,s'))=some (e,s2):=by
 simp only[A9,ak]at h;split at h
 ·rename_i u pl u' y ht hx;split at h
  ·rename_i y' hy;refine⟨_,(J2 h).2,fun s2 h2=>?_⟩;simp only[A9,ak,h2.opl (x:=x) (by simp[ak,Bl]),ht,hx,hy]
  ·cases h
 ·cases h
theorem C02(hp:U8 E o=true)(dZ:∀ t n ps,o.op≠ .buildSlice t n ps)(rR:∀ c f,o.op=.call c→c.callee≠ .value (.func f)){k1:Ent Ty den→Option R}(h:A9 E o s (fun e s'=>bif Bg (Y9 s'.live) (Y9 s.live)then k1 e else none)=some r):
  ∃ e,k1 e=some r∧∀ s2:St Ty den,Sees o s s2→A9 E o s2 (fun e s'=>some (e,s'))=some (e,s2):=by
 have bB:∀{x:Bd},x∈o.op.operands.toList→∀ s2:St Ty den,Sees o s s2→∀ ty,opl E s2 ty x=opl E s ty x:=fun hx s2 h2 ty=>h2.opl hx ty;cases ak:o.op with
 |move x=>
  simp only[A9,ak]at h;exact⟨_,(J2 h).2,fun s2 h2=>by simp only[A9,ak,h2.opd (x:=x) (by simp[ak,Bl])]⟩
 |buildSlice t n ps=>exact absurd ak (dZ t n ps)
 |makeInterface t x=>exact C1P ak h
 |assign x=>
  simp only[U8,ak]at hp;have b8:A2G x=false:=by simpa using hp
  simp only[A9,ak,b8,cond_false]at h;exact⟨_,(J2 h).2,fun s2 h2=>by simp only[A9,ak,b8,cond_false,h2.opd (x:=x) (by simp[ak,Bl])]⟩
 |pick c x y=>
  have hc:=fun s2 h2=>bB (x:=c) (by simp[ak,Bl]) s2 h2;have hx:=fun s2 h2=>bB (x:=x) (by simp[ak,Bl]) s2 h2;have hy:=fun s2 h2=>bB (x:=y) (by simp[ak,Bl]) s2 h2;simp only[A9,ak]at h;split at h
  ·rename_i bW;exact⟨_,(J2 h).2,fun s2 h2=>by simp only[A9,ak,hc s2 h2,hx s2 h2,hy s2 h2,bW]⟩
  ·rename_i bW;exact⟨_,(J2 h).2,fun s2 h2=>by simp only[A9,ak,hc s2 h2,hx s2 h2,hy s2 h2,bW]⟩
  ·cases h
 |extract x i=>
  simp only[A9,ak]at h;have hx:=fun s2 (h2:Sees o s s2)=>h2.opd (E:=E) (x:=x) (by simp[ak,Bl]) 0;split at h
  ·rename_i ls bW;split at h
   ·rename_i l hl;exact⟨_,(J2 h).2,fun s2 h2=>by simp only[A9,ak,hx s2 h2,bW,hl]⟩
   ·cases h
  ·cases h
 |binOp op t x y yt=>
  have hx:=fun s2 h2=>bB (x:=x) (by simp[ak,Bl]) s2 h2;have hy:=fun s2 h2=>bB (x:=y) (by simp[ak,Bl]) s2 h2;simp only[A9,ak]at h;have fin:∀(l:Leaf Ty den),(bif Bg (Y9 s.live) (Y9 s.live)then k1 (.one l)else none)=some r→(∀ s2,Sees o s s2→A9 E o s2 (fun e s'=>some (e,s'))=some (.one l,s2))→∃ e,k1 e=some r∧∀ s2,Sees o s s2→A9 E o s2 (fun e s'=>some (e,s'))=some (e,s2):=fun l h1 h2=>⟨_,(J2 h1).2,h2⟩;split at h
  ·rename_i k0 a Aa b gW jy;split at h
   ·obtain⟨hg,h⟩:=C0 h;exact fin _ h fun s2 h2=>by simp only[A9,ak,hx s2 h2,hy s2 h2,gW,jy,hg,cond_true]
   ·obtain⟨hg,h⟩:=C0 h;exact fin _ h fun s2 h2=>by simp only[A9,ak,hx s2 h2,hy s2 h2,gW,jy,hg,cond_true]
   ·obtain⟨hg,h⟩:=C0 h;exact fin _ h fun s2 h2=>by simp only[A9,ak,hx s2 h2,hy s2 h2,gW,jy,hg,cond_true]
   ·obtain⟨hg,h⟩:=C0 h;exact fin _ h fun s2 h2=>by simp only[A9,ak,hx s2 h2,hy s2 h2,gW,jy,hg,cond_true]
   ·rename_i n1 n2 n3 n4;obtain⟨hg,h⟩:=C0 h;split at h
    ·rename_i l hl;refine fin _ h fun s2 h2=>?_;simp only[A9,ak,hx s2 h2,hy s2 h2,gW,jy];cases op<;>first
      |exact absurd rfl (by assumption)
      |(exfalso;first|exact n1 rfl|exact n2 rfl|exact n3 rfl|exact n4 rfl)
      |(simp only[hg,cond_true,hl])
    ·cases h
  ·rename_i a b gW jy;split at h
   ·obtain⟨hg,h⟩:=C0 h;exact fin _ h fun s2 h2=>by simp only[A9,ak,hx s2 h2,hy s2 h2,gW,jy,hg,cond_true]
   ·exact fin _ h fun s2 h2=>by simp only[A9,ak,hx s2 h2,hy s2 h2,gW,jy]
   ·exact fin _ h fun s2 h2=>by simp only[A9,ak,hx s2 h2,hy s2 h2,gW,jy]
   ·cases h
  ·rename_i a b gW jy;split at h
   ·rename_i ht;split at h
    ·exact fin _ h fun s2 h2=>by simp only[A9,ak,hx s2 h2,hy s2 h2,gW,jy,ht]
    ·exact fin _ h fun s2 h2=>by simp only[A9,ak,hx s2 h2,hy s2 h2,gW,jy,ht]
    ·cases h
   ·cases h
  ·cases h
 |unOp op t x=>
  have hx:=fun s2 h2=>bB (x:=x) (by simp[ak,Bl]) s2 h2;simp only[A9,ak]at h;split at h
  ·rename_i gW;exact⟨_,(J2 h).2,fun s2 h2=>by simp only[A9,ak,hx s2 h2,gW]⟩
  ·rename_i gW;exact⟨_,(J2 h).2,fun s2 h2=>by simp only[A9,ak,hx s2 h2,gW]⟩
  ·cases h
 |convert src dst x=>
  have hx:=fun s2 h2=>bB (x:=x) (by simp[ak,Bl]) s2 h2;simp only[A9,ak]at h;split at h
  ·rename_i h1 h2 h3;exact⟨_,(J2 h).2,fun s2 h4=>by simp only[A9,ak,hx s2 h4,h1,h2,h3]⟩
  ·rename_i h1 h2 h3;split at h
   ·rename_i h5 h6 h7;exact⟨_,(J2 h).2,fun s2 h4=>by simp only[A9,ak,hx s2 h4,h1,h2,h3,h5,h6,h7]⟩
   ·rename_i h5 h6 h7;exact⟨_,(J2 h).2,fun s2 h4=>by simp only[A9,ak,hx s2 h4,h1,h2,h3,h5,h6,h7]⟩
   ·cases h
  ·rename_i h1 h2 h3;simp only[U8,ak,h2]at hp;cases hp
  ·cases h
 |indexAddr t x i=>
  have hx:=fun s2 h2=>bB (x:=x) (by simp[ak,Bl]) s2 h2;have hi:=fun s2 h2=>bB (x:=i) (by simp[ak,Bl]) s2 h2;simp only[A9,ak]at h;split at h
  ·rename_i h1 h2 h3;split at h
   ·rename_i l' hl;split at h
    ·rename_i y hy;exact⟨_,(J2 h).2,fun s2 h4=>by simp only[A9,ak,hx s2 h4,hi s2 h4,h1,h2,h3,hl,hy]⟩
    ·cases h
   ·cases h
  ·cases h
 |index t x i=>
  have hx:=fun s2 h2=>bB (x:=x) (by simp[ak,Bl]) s2 h2;have hi:=fun s2 h2=>bB (x:=i) (by simp[ak,Bl]) s2 h2;simp only[A9,ak]at h;split at h
  ·rename_i h1 h2 h3;split at h
   ·rename_i y hy;exact⟨_,(J2 h).2,fun s2 h4=>by simp only[A9,ak,hx s2 h4,hi s2 h4,h1,h2,h3,hy]⟩
   ·cases h
  ·cases h
 |load t x=>
  have hx:=fun s2 h2=>bB (x:=x) (by simp[ak,Bl]) s2 h2;simp only[A9,ak]at h;split at h
  ·cases h
  ·rename_i u eQ;split at h
   ·rename_i u' y off fG;split at h
    ·rename_i y' hy;refine⟨_,(J2 h).2,fun s2 h4=>?_⟩;simp only[A9,ak,hx s2 h4,fG,eQ,hy]
    ·cases h
   ·cases h
  ·rename_i u pl eQ;split at h
   ·rename_i u' y off fG;split at h
    ·rename_i y' hy;refine⟨_,(J2 h).2,fun s2 h4=>?_⟩;simp only[A9,ak,hx s2 h4,fG,eQ,hy]
    ·rename_i cP;split at h
     ·rename_i z hz;refine⟨_,(J2 h).2,fun s2 h4=>?_⟩;simp only[A9,ak,hx s2 h4,fG,eQ]
      revert cP
      generalize (bif Bg off 0 then T1 E.U u u' [y]else none)=xB;intro cP;cases xB with
      |none=>simp only[hz]
      |some l=>
       cases l with
       |nil=>simp only[hz]
       |cons y0 r=>
        cases r with
        |nil=>exact absurd rfl (cP y0)
        |cons y1 r=>simp only[hz]
     ·cases h
   ·rename_i d off fG;split at h
    ·rename_i ls bm;obtain⟨bN,h⟩:=C0 h;split at h
     ·rename_i z hz;refine⟨_,(J2 h).2,fun s2 h4=>?_⟩;simp only[A9,ak,hx s2 h4,fG,eQ,h4.bx d _ bm,bN,cond_true,hz]
     ·cases h
    ·cases h
   ·cases h
  ·rename_i eQ xC xD;split at h
   ·rename_i u y off fG;split at h
    ·rename_i l hl;refine⟨_,(J2 h).2,fun s2 h4=>?_⟩;simp only[A9,ak,hx s2 h4,fG,hl]
    ·cases h
   ·rename_i d off fG;split at h
    ·rename_i ls bm;obtain⟨bN,h⟩:=C0 h;split at h
     ·rename_i l hl;refine⟨_,(J2 h).2,fun s2 h4=>?_⟩;simp only[A9,ak,hx s2 h4,fG,h4.bx d _ bm,bN,cond_true,hl]
     ·cases h
    ·cases h
   ·cases h
 |nilCheck x=>
  have hx:=fun s2 h2=>bB (x:=x) (by simp[ak,Bl]) s2 h2;simp only[A9,ak]at h;split at h
  ·rename_i u y off fG;exact⟨_,(J2 h).2,fun s2 h4=>by simp only[A9,ak,hx s2 h4,fG]⟩
  ·rename_i d off fG;obtain⟨bN,h⟩:=C0 h;exact⟨_,(J2 h).2,fun s2 h4=>by simp only[A9,ak,hx s2 h4,fG,bN,cond_true]⟩
  ·cases h
 |build t ps=>
  have jv:mbO E o.dst=false:=by simpa [U8,ak]using hp
  simp only[A9,ak,jv,cond_false]at h;split at h
  ·rename_i u pl eQ;split at h
   ·rename_i zs et;split at h
    ·rename_i ls bm;split at h
     ·rename_i x hx;refine⟨_,(J2 h).2,fun s2 h4=>?_⟩;have h3:=B4L (E:=E) h4 pl ps.toList zs (fun p hp=>by rw[ak];simp only[Bl];simp;exact⟨p.1,by simpa using hp⟩);simp only[A9,ak,jv,cond_false,eQ,et,h3,bm,hx]
     ·cases h
    ·cases h
   ·cases h
  ·cases h
 |fieldAddr t x i=>
  have hx:=fun s2 h2=>bB (x:=x) (by simp[ak,Bl]) s2 h2;simp only[A9,ak]at h;split at h
  ·rename_i v pl u y off eQ fG;split at h
   ·rename_i o1 n1 iN;obtain⟨hg,h⟩:=C0 h;exact⟨_,(J2 h).2,fun s2 h4=>by simp only[A9,ak,hx s2 h4,eQ,fG,iN,hg,cond_true]⟩
   ·cases h
  ·rename_i v pl d off eQ fG;split at h
   ·rename_i o1 n1 iN;obtain⟨hg,h⟩:=C0 h;exact⟨_,(J2 h).2,fun s2 h4=>by simp only[A9,ak,hx s2 h4,eQ,fG,iN,hg,cond_true]⟩
   ·cases h
  ·cases h
 |slice t x lo hi mx=>
  have hx:=fun s2 h2=>bB (x:=x) (by simp[ak,Bl]) s2 h2;have gg:∀ s2,Sees o s s2→∀ d,U3 E s2 d lo=U3 E s d lo:=fun s2 h2 d=>B5E h2 (fun y hy=>by subst hy;simp[ak,Bl]);have jI:∀ s2,Sees o s s2→∀ d,U3 E s2 d hi=U3 E s d hi:=fun s2 h2 d=>B5E h2 (fun y hy=>by subst hy;simp[ak,Bl]);simp only[A9,ak]at h;split at h
  ·rename_i b h1 h2;split at h
   ·rename_i h3 h4;split at h
    ·rename_i r0 hr;exact⟨_,(J2 h).2,fun s2 h6=>by simp only[A9,ak,hx s2 h6,gg s2 h6,jI s2 h6,h1,h2,h3,h4,hr]⟩
    ·cases h
   ·cases h
  ·rename_i h1 h2;split at h
   ·rename_i l' hl;split at h
    ·rename_i h3 h4;split at h
     ·rename_i r0 hr;exact⟨_,(J2 h).2,fun s2 h6=>by simp only[A9,ak,hx s2 h6,gg s2 h6,jI s2 h6,h1,h2,hl,h3,h4,hr]⟩
     ·cases h
    ·rename_i m h3 h4;have hm:∀ s2,Sees o s s2→∀ ty,opl E s2 ty m=opl E s ty m:=fun s2 h2=>bB (x:=m) (by simp[ak,Bl]) s2 h2;split at h
     ·rename_i h7;obtain⟨hg,h⟩:=C0 h;split at h
      ·rename_i r0 hr;exact⟨_,(J2 h).2,fun s2 h6=>by simp only[A9,ak,hx s2 h6,gg s2 h6,jI s2 h6,hm s2 h6,h1,h2,hl,h3,h4,h7,hg,cond_true,hr]⟩
      ·cases h
     ·cases h
    ·cases h
   ·cases h
  ·cases h
 |call c=>
  simp only[A9,ak]at h;simp only[U8,ak]at hp;split at hp
  ·rename_i f aG;exact absurd aG (rR c f ak)
  ·rename_i aG;rw[aG]at h;dsimp only at h;generalize fw:c.argTypes.toList=dH at h;generalize aE:c.args.toList=args at h;unfold A1g at h;split at h<;>first|cases h;done|(rename_i hb;cases hb;done)|skip
   ·rename_i t x hb;have hx:=fun s2 h2=>bB (x:=x) (by simp[ak,Bl,Ef,aG,aE]) s2 h2;split at h
    ·rename_i h1 h2;exact⟨_,(J2 h).2,fun s2 h6=>by simp only[A9,ak,aG,fw,aE,A1g,hx s2 h6,h1,h2]⟩
    ·rename_i h1 h2;exact⟨_,(J2 h).2,fun s2 h6=>by simp only[A9,ak,aG,fw,aE,A1g,hx s2 h6,h1,h2]⟩
    ·cases h
  ·rename_i aG;rw[aG]at h;dsimp only at h;generalize fw:c.argTypes.toList=dH at h;generalize aE:c.args.toList=args at h;unfold A1g at h;split at h<;>first|cases h;done|(rename_i hb;cases hb;done)|skip
   ·rename_i x y hb;have hx:=fun s2 h2=>bB (x:=x) (by simp[ak,Bl,Ef,aG,aE]) s2 h2;have hy:=fun s2 h2=>bB (x:=y) (by simp[ak,Bl,Ef,aG,aE]) s2 h2;split at h
    ·rename_i h1 h2;exact⟨_,(J2 h).2,fun s2 h6=>by simp only[A9,ak,aG,fw,aE,A1g,hx s2 h6,hy s2 h6,h1,h2]⟩
    ·cases h
  ·rename_i aG;rw[aG]at h;dsimp only at h;generalize fw:c.argTypes.toList=dH at h;generalize aE:c.args.toList=args at h;unfold A1g at h;split at h<;>first|cases h;done|(rename_i hb;cases hb;done)|skip
   ·rename_i x y hb;have hx:=fun s2 h2=>bB (x:=x) (by simp[ak,Bl,Ef,aG,aE]) s2 h2;have hy:=fun s2 h2=>bB (x:=y) (by simp[ak,Bl,Ef,aG,aE]) s2 h2;split at h
    ·rename_i h1 h2;exact⟨_,(J2 h).2,fun s2 h6=>by simp only[A9,ak,aG,fw,aE,A1g,hx s2 h6,hy s2 h6,h1,h2]⟩
    ·cases h
  ·cases hp
 |_=>simp only[U8,ak]at hp;cases hp
def B7S(E:Env Ty den)(o:Oper)(s2:St Ty den)(e:Ent Ty den):Prop:=
 A9 E o s2 (fun e s'=>some (e,s'))=some (e,s2)∨
  ((∃ t n ps,o.op=.buildSlice t n ps)∧∃(u:Ty)(xs:List (den u)),e=.one (.sl u xs none)∧A9 E o s2 (fun e s'=>some (e,s'))=some (.one (.sl u xs (some (C7 o.dst))),s2.fresh (C7 o.dst)))∨
  ∃ c f,o.op=.call c∧c.callee=.value (.func f)∧A2o E f c.argTypes.toList c.args.toList s2=some e
theorem B70{s2:St Ty den}(h:Sees o s s2):∀(ds:List Nat)(cs:List (List (Leaf Ty den))),A1j s ds=some cs→A1j s2 ds=some cs
 |[],cs,hc=>hc
 |d::ds,cs,hc=>by
  simp only[A1j]at hc;split at hc
  ·rename_i ls ek h1 h2;simp only[A1j,h.bx d ls h1,B70 h ds ek h2];exact hc
  ·cases hc
theorem C4g{c:Call}{f:Cb}{e:Ent Ty den}(ak:o.op=.call c){s2:St Ty den}(h:Sees o s s2)(he:A2o E f c.argTypes.toList c.args.toList s=some e):A2o E f c.argTypes.toList c.args.toList s2=some e:=by
 have aE:R2 E s2 c.argTypes.toList c.args.toList=R2 E s c.argTypes.toList c.args.toList:=h.args ak _ _ (fun x hx=>hx);unfold A2o at he ⊢;dsimp only at he ⊢;rw[aE];split at he
 ·exact he
 ·rename_i ps lF;split at he
  ·rename_i ds jG;obtain⟨hn,he⟩:=C0 he;rw[hn,cond_true];split at he
   ·rename_i cs cH;rw[B70 h ds cs cH];exact he
   ·cases he
  ·cases he
theorem B7y{s2:St Ty den}(h:Sees o s s2)(ty:Ba):∀(ps:List (Nat×Bd))(i:Nat),(∀ p∈ps,p.2∈o.op.operands.toList)→A18 E s2 ty i ps=A18 E s ty i ps
 |[],i,_=>rfl
 |(j,x)::ps,i,cL=>by
  simp only[A18];rw[B7y h ty ps (i+1) (fun p hp=>cL p (by simp[hp])),h.opl (cL (j,x) (by simp))]
theorem B5h{s2:St Ty den}(h:Sees o s s2)(u:Ty):∀(ps:List (Nat×Bd))(i:Nat),(∀ p∈ps,p.2∈o.op.operands.toList)→A2f E u s2 i ps=A2f E u s i ps
 |[],i,_=>rfl
 |(j,x)::ps,i,cL=>by
  simp only[A2f];rw[B5h h u ps (i+1) (fun p hp=>cL p (by simp[hp])),h.opl (cL (j,x) (by simp))]
theorem C5a(hp:U8 E o=true){k1:Ent Ty den→Option R}(h:A4a E o s k1=some r):
  ∃ e,k1 e=some r∧∀ s2:St Ty den,Sees o s s2→B7S E o s2 e:=by
 by_cases hb:∃ t n ps,o.op=.buildSlice t n ps
 ·obtain⟨t,n,ps,ak⟩:=hb;simp only[A4a,ak,A9]at h;split at h
  ·rename_i u e eQ;split at h
   ·rename_i u2 nk;split at h
    ·rename_i xs iM;obtain⟨hg,h⟩:=C0 h;refine⟨_,h,fun s2 h2=>.inr (.inl ⟨⟨t,n,ps,ak⟩,u,xs,rfl,?_⟩)⟩;have h3:=B5h (E:=E) h2 u ps.toList 0 (fun p hp=>by rw[ak];simp only[Bl];simp;exact⟨p.1,by simpa using hp⟩);simp only[A9,ak,eQ,nk,h3,iM,hg,cond_true]
    ·cases h
   ·rename_i nk;split at h
    ·rename_i ls bm;split at h
     ·rename_i xs iM;obtain⟨hg,h⟩:=C0 h;refine⟨_,h,fun s2 h2=>.inr (.inl ⟨⟨t,n,ps,ak⟩,u,xs,rfl,?_⟩)⟩;have h3:=B7y (E:=E) h2 e ps.toList 0 (fun p hp=>by rw[ak];simp only[Bl];simp;exact⟨p.1,by simpa using hp⟩);simp only[A9,ak,eQ,h3,bm,iM,hg,cond_true]
     ·cases h
    ·cases h
  ·cases h
 by_cases vM:∃ c f,o.op=.call c∧c.callee=.value (.func f)
 ·obtain⟨c,f,ak,aG⟩:=vM;simp only[A4a,ak,aG]at h;obtain⟨e,he,h⟩:=B4Z E h;exact⟨e,h,fun s2 h2=>.inr (.inr ⟨c,f,ak,aG,C4g ak h2 he⟩)⟩
 ·have dZ:∀ t n ps,o.op≠ .buildSlice t n ps:=fun t n ps e=>hb ⟨t,n,ps,e⟩;have rR:∀ c f,o.op=.call c→c.callee≠ .value (.func f):=fun c f h1 h2=>vM ⟨c,f,h1,h2⟩;have h':A9 E o s (fun e s'=>bif Bg (Y9 s'.live) (Y9 s.live)then k1 e else none)=some r:=by
   unfold A4a at h;split at h
   ·rename_i bW;exact absurd bW (dZ _ _ _)
   ·rename_i c bW;split at h
    ·rename_i f aG;exact absurd aG (rR _ _ bW)
    ·exact h
   ·exact h
  obtain⟨e,h1,h2⟩:=C02 hp dZ rR h';exact⟨e,h1,fun s2 h3=>.inl (h2 s2 h3)⟩
theorem C0d(d:Nat)(e:Ent Ty den)(h:e.has d=false):e.strip d=e:=by
 have hl:∀ l:Leaf Ty den,l.has d=false→l.strip d=l:=by
  intro l hl;cases l with
  |sl t x o=>
   cases o with
   |none=>rfl
   |some c=>simp only[Leaf.has]at hl;simp only[Leaf.strip,hl,cond_false]
  |ptr e o=>simp only[Leaf.has]at hl;simp only[Leaf.strip,hl,cond_false]
  |_=>rfl
 cases e with
 |one l=>simp only[Ent.strip,hl l h]
 |tup ls=>
  simp only[Ent.strip]
  congr 1
  simp only[Ent.has,He]at h
  conv=>rhs;rw[←Fi ls]
  exact Fj fun l hm=>hl l (by simpa using h l hm)
 |iter c p=>rfl
 |st ls=>
  simp only[Ent.strip]
  congr 1
  simp only[Ent.has,He]at h
  conv=>rhs;rw[←Fi ls]
  exact Fj fun l hm=>hl l (by simpa using h l hm)
 |bx d' ls=>
  simp only[Ent.has]at h;simp only[Ent.strip];cases hb:Bg d' d with
  |true=>rw[hb]at h;cases h
  |false=>
   rw[hb]at h;simp only[cond_false,He]at h ⊢
   congr 1
   conv=>rhs;rw[←Fi ls]
   exact Fj fun l hm=>hl l (by simpa using h l hm)
theorem B1o(d:Nat):∀(fr:List (Nat×Ent Ty den)),A0Q d fr=false→∀ i,(look fr i).strip d=look fr i
 |[],_,i=>rfl
 |(j,e)::r,h,i=>by
  simp only[A0Q]at h;cases he:e.has d with
  |true=>rw[he]at h;cases h
  |false=>
   rw[he]at h;simp only[look];cases Bg j i with
   |true=>exact C0d d e he
   |false=>exact B1o d r h i
theorem A8n{s:St Ty den}:∀{os:List Oper},A1C s os=true→∀ o∈os,∀ t n ps,o.op=.buildSlice t n ps→∀ i,(s.get i).strip (C7 o.dst)=s.get i
 |[],_,o,ho=>by cases ho
 |x::os,h,o,ho=>by
  intro t n ps ak i;simp only[A1C]at h;rcases Bn.1 ho with rfl|ho
  ·rw[ak]at h;simp only[Bb,Cd]at h;exact B1o _ _ h.1 i
  ·split at h
   ·simp only[Bb]at h;exact A8n h.2 o ho t n ps ak i
   ·exact A8n h o ho t n ps ak i
theorem C8i(fr:List (Nat×Ent Ty den))(ds:List Nat)(i:Nat):look (del fr ds) i=bif mem i ds then .one .any else look fr i:=by
 induction fr with
 |nil=>simp only[del,look];cases mem i ds<;>rfl
 |cons p fr ih=>
  obtain⟨j,x⟩:=p;simp only[del,look];cases hj:mem j ds with
  |true=>
   simp only[cond_true];rw[ih];cases hb:Bg j i with
   |true=>
    have:=Cr hb;subst this;rw[hj];rfl
   |false=>rfl
  |false=>
   simp only[cond_false,look];cases hb:Bg j i with
   |true=>
    have:=Cr hb;subst this;rw[hj];rfl
   |false=>simp only[cond_false];exact ih
theorem Z5(s:St Ty den)(ds:List Nat)(i:Nat):(s.dels ds).get i=bif mem i ds then .one .any else s.get i:=C8i s.fr ds i
theorem T8(s:St Ty den)(d:Option Nat)(e:Ent Ty den)(i:Nat):(s.setO d e).get i=if d=some i then e else s.get i:=by
 cases d with
 |none=>rfl
 |some j=>simp only[St.setO,K3,Br]
def Gd(ops:Array Oper)(s:St Ty den)(o:Oper)(w:Bool):Prop:=
 match o.guard with
 |none=>w=true
 |some (j,aL)=>∃ g,(ops[j]?).bind (·.dst)=some g∧((∃ b,s.get g=.one (.bool b)∧w=(b==aL))∨(w=false∧∃ v,s.get g=.one (.val v)∧A3x v=true))
structure Ran(E:Env Ty den)(ops:Array Oper)(s:St Ty den)(o:Oper):Prop where
 dst:okd E.np E.nt o.dst=true
 ran:(P9 o.op=false∧((Gd ops s o true∧∃ e,(∀ d,o.dst=some d→s.get d=e)∧∀ s2:St Ty den,Sees o s s2→B7S E o s2 e)∨
  (Gd ops s o false∧∀ d,o.dst=some d→s.get d=.one (.val undef))))∨(P9 o.op=true∧o.guard=none)
theorem A5W(h:U8 E o=true):P9 o.op=false:=by
 unfold U8 at h;unfold P9;split
 ·rename_i t he;rw[he]at h;cases h
 ·rfl
def F3:List Oper→List Nat
 |[]=>[]
 |o::r=>match o.dst with
  |some d=>d::F3 r
  |none=>F3 r
def B2T(ops:Array Oper):List Oper→Prop
 |[]=>True
 |o::r=>(∀ t∈o.looksAt ops,mem t (F3 (o::r))=false)∧(∀ d,o.dst=some d→mem d (F3 r)=false)∧B2T ops r
theorem C6a{s:St Ty den}{d:Option Nat}{e:Ent Ty den}{i:Nat}(h:d≠some i):(s.setO d e).get i=s.get i:=by rw[T8,if_neg h]
theorem A53{o:Oper}{r:List Oper}{d:Nat}(h:o.dst=some d):mem d (F3 (o::r))=true:=by
 simp only[F3,h,mem,H4,cond_true]
theorem A5L{o:Oper}{r:List Oper}{d:Nat}(h:mem d (F3 r)=true):mem d (F3 (o::r))=true:=by
 simp only[F3];cases o.dst with
 |none=>exact h
 |some e=>simp only[mem];cases Bg e d<;>simp[h]
theorem A0W(s:St Ty den)(d:Option Nat)(e:Ent Ty den):(s.setO d e).live=s.live:=by cases d<;>rfl
theorem B43{ops:Array Oper}{o:Oper}{t:Nat}(h:Je t∈o.op.operands.toList):t∈o.looksAt ops:=
 Ha _ (List.mem_filterMap.2 ⟨.tmp t,h,rfl⟩)
theorem B61{ops:Array Oper}{o:Oper}{j g:Nat}{aL:Bool}(hg:o.guard=some (j,aL))(hd:(ops[j]?).bind (·.dst)=some g):g∈o.looksAt ops:=
 Gz _ (by simp[hg,hd])
theorem B4t{os:List Oper}{i:Nat}(h:mem i (F3 os)=true):∃ o∈os,o.dst=some i:=by
 induction os with
 |nil=>cases h
 |cons o os ih=>
  simp only[F3]at h;split at h
  ·rename_i d hd;rw[mem_cons]at h;rcases h with rfl|h
   ·exact⟨o,by simp,hd⟩
   ·obtain⟨x,hx,jX⟩:=ih h;exact⟨x,by simp[hx],jX⟩
  ·obtain⟨x,hx,jX⟩:=ih h;exact⟨x,by simp[hx],jX⟩
theorem A7m{s s2:St Ty den}{d:Nat}(h:s2.get (bxi d)=s.get (bxi d)):U7 s2 d=U7 s d:=by unfold U7;rw[h]
theorem B8g(ops:Array Oper){pre:List Oper}(lT:pre=ops.toList.take (X0 E ops.toList))(jY:∀ o∈pre,A0I E o=true)(bN:∀ o∈pre,∀ d,o.dst=some d→d<1000000):∀(os:List Oper)(s:St Ty den)(k:St Ty den→Option R),(∀ o∈os,o∈pre)→B2T ops os→A0i E ops os s k=some r→
  ∃ sF:St Ty den,(k sF=some r∧A1C sF pre=true)∧sF.live=s.live∧(∀ i,mem i (F3 os)=false→sF.get i=s.get i)∧∀ o∈os,Ran E ops sF o
 |[],s,k,_,_,h=>by
  simp only[A0i]at h;obtain⟨hn,h⟩:=C0 h;exact⟨s,⟨h,by rw[lT];exact hn⟩,rfl,fun _ _=>rfl,fun _ ho=>by(cases ho)⟩
 |o::os,s,k,cL,⟨oZ,nI,xE⟩,h=>by
  simp only[A0i]at h;obtain⟨hd,h⟩:=C0 h;have jZ:=fun(s1:St Ty den)(h1:A0i E ops os s1 k=some r)=>B8g ops lT jY bN os s1 k (fun x hx=>cL x (by simp[hx])) xE h1;have nJ:∀(s1 sF:St Ty den)(e:Ent Ty den),s1.live=s.live→(∀ i,s1.get i=s.get i)→sF.live=(s1.setO o.dst e).live→(∀ i,mem i (F3 os)=false→sF.get i=(s1.setO o.dst e).get i)→
    sF.live=s.live∧(∀ i,mem i (F3 (o::os))=false→sF.get i=s.get i)∧(∀ d,o.dst=some d→sF.get d=e):=by
   intro s1 sF e hl hg xF vN;refine⟨by rw[xF,A0W,hl],fun i hi=>?_,fun d dY=>?_⟩
   ·have h1:mem i (F3 os)=false:=by
     cases h2:mem i (F3 os)with
     |false=>rfl
     |true=>rw[A5L h2]at hi;cases hi
    have h2:o.dst≠some i:=fun he=>by rw[A53 he]at hi;cases hi
    rw[vN i h1,C6a h2,hg]
   ·rw[vN d (nI d dY),T8,if_pos dY]
  have tf:∀{sF:St Ty den},sF.live=s.live→(∀ i,mem i (F3 (o::os))=false→sF.get i=s.get i)→∀ s2,Sees o sF s2→Sees o s s2:=fun hl hg s2 h2=>
   ⟨fun t ht=>(h2.tmp t ht).trans (hg t (oZ t (B43 ht))),fun d ls bm=>h2.bx d ls ((A7m (hg (bxi d) (by
    cases hm:mem (bxi d) (F3 (o::os))with
    |false=>rfl
    |true=>
     obtain⟨x,hx,jX⟩:=B4t hm;have:=bN x (cL x hx) _ jX;exact absurd this (by show¬((1000000+d:Nat)<1000000);omega)))).trans bm)⟩
  have eS:∀(s1:St Ty den),s1.live=s.live→(∀ i,s1.get i=s.get i)→U8 E o=true→A4a E o s (fun e=>A0i E ops os (s1.setO o.dst e) k)=some r→(∀ sF:St Ty den,sF.live=s.live→(∀ i,mem i (F3 (o::os))=false→sF.get i=s.get i)→Gd ops sF o true)→
    ∃ sF:St Ty den,(k sF=some r∧A1C sF pre=true)∧sF.live=s.live∧(∀ i,mem i (F3 (o::os))=false→sF.get i=s.get i)∧∀ x∈o::os,Ran E ops sF x:=by
   intro s1 hl hg lk he lU;obtain⟨e,hk,eI⟩:=C5a lk (k1:=fun e=>A0i E ops os (s1.setO o.dst e) k) he;obtain⟨sF,h1,h2,h3,h4⟩:=jZ _ hk;obtain⟨b1,b2,b3⟩:=nJ s1 sF e hl hg h2 h3;refine⟨sF,h1,b1,b2,fun x hx=>?_⟩;rcases Bn.1 hx with rfl|hx
   ·exact⟨hd,.inl ⟨A5W lk,.inl ⟨lU sF b1 b2,e,b3,fun s2 h5=>eI s2 (tf b1 b2 s2 h5)⟩⟩⟩
   ·exact h4 x hx
  have skip:∀(s1:St Ty den),s1.live=s.live→(∀ i,s1.get i=s.get i)→U8 E o=true→A0i E ops os (s1.setO o.dst (.one (.val undef))) k=some r→(∀ sF:St Ty den,sF.live=s.live→(∀ i,mem i (F3 (o::os))=false→sF.get i=s.get i)→Gd ops sF o false)→
    ∃ sF:St Ty den,(k sF=some r∧A1C sF pre=true)∧sF.live=s.live∧(∀ i,mem i (F3 (o::os))=false→sF.get i=s.get i)∧∀ x∈o::os,Ran E ops sF x:=by
   intro s1 hl hg lk he lU;obtain⟨sF,h1,h2,h3,h4⟩:=jZ _ he;obtain⟨b1,b2,b3⟩:=nJ s1 sF _ hl hg h2 h3;refine⟨sF,h1,b1,b2,fun x hx=>?_⟩;rcases Bn.1 hx with rfl|hx
   ·exact⟨hd,.inl ⟨A5W lk,.inr ⟨lU sF b1 b2,b3⟩⟩⟩
   ·exact h4 x hx
  cases hg:o.guard with
  |none=>
   rw[hg]at h;dsimp only at h;have en:=jY o (cL o (by simp));cases eV:P9 o.op with
   |true=>
    rw[eV]at h;obtain⟨sF,h1,h2,h3,h4⟩:=jZ _ h;obtain⟨b1,b2,b3⟩:=nJ s sF _ rfl (fun _=>rfl) h2 h3;refine⟨sF,h1,b1,b2,fun x hx=>?_⟩;rcases Bn.1 hx with rfl|hx
    ·exact⟨hd,.inr ⟨eV,hg⟩⟩
    ·exact h4 x hx
   |false=>
    rw[eV]at h;have lk:U8 E o=true:=by simpa [A0I,A4s,eV]using en
    exact eS s rfl (fun _=>rfl) lk h (fun sF _ _=>by simp[Gd,hg])
  |some jw=>
   obtain⟨j,aL⟩:=jw;rw[hg]at h;dsimp only at h;cases hj:(ops[j]?).bind (·.dst)with
   |none=>rw[hj]at h;cases h
   |some gd=>
    rw[hj]at h;dsimp only at h;have eW:=oZ gd (B61 hg hj);have lk:U8 E o=true:=by
     have:=jY o (cL o (by simp));simpa [A0I,A4s,hg]using this
    split at h
    ·rename_i b lR;have cE:∀ c:Bool,b=c→∀ i,(s.set gd (.one (.bool c))).get i=s.get i:=fun c hc i=>by
      rw[K3];split
      ·rename_i he;subst he;rw[lR,hc]
      ·rfl
     cases gV:(b==aL)with
     |true=>
      rw[gV]at h;exact eS _ (by rfl) (cE aL (by simpa using gV)) lk h (fun sF _ qa=>by
       simp only[Gd,hg];exact⟨gd,hj,.inl ⟨b,by rw[qa gd eW,lR],gV.symm⟩⟩)
     |false=>
      rw[gV]at h;exact skip _ (by rfl) (cE _ (by cases b<;>cases aL<;>simp_all)) lk h (fun sF _ qa=>by
       simp only[Gd,hg];exact⟨gd,hj,.inl ⟨b,by rw[qa gd eW,lR],gV.symm⟩⟩)
    ·rename_i v p9;obtain⟨dZ,h⟩:=C0 h;exact skip s rfl (fun _=>rfl) lk h (fun sF _ qa=>by
       simp only[Gd,hg];exact⟨gd,hj,.inr ⟨trivial,v,by rw[qa gd eW,p9],dZ⟩⟩)
    ·cases h
def I1(listed:Array Bool):List (Nat×Nat)→List Nat
 |[]=>[]
 |(d,j)::r=>bif listed.getD j false then I1 listed r else d::I1 listed r
theorem A0Z{listed:Array Bool}{t:Nat}:∀{ps:List (Nat×Nat)},mem t (I1 listed ps)=true↔∃ j,(t,j)∈ps∧listed.getD j false=false
 |[]=>by simp[I1,mem]
 |(d,j)::r=>by
  simp only[I1];have ih:=A0Z (listed:=listed) (t:=t) (ps:=r);cases hl:listed.getD j false with
  |true=>
   simp only[cond_true,ih,Bn,Cc];constructor
   ·rintro⟨m,h1,h2⟩;exact⟨m,.inr h1,h2⟩
   ·rintro⟨m,h1|h1,h2⟩
    ·rw[h1.2,hl]at h2;cases h2
    ·exact⟨m,h1,h2⟩
  |false=>
   simp only[cond_false,mem_cons,ih,Bn,Cc];constructor
   ·rintro(h1|⟨m,h1,h2⟩)
    ·exact⟨j,.inl ⟨by rw[h1],rfl⟩,hl⟩
    ·exact⟨m,.inr h1,h2⟩
   ·rintro⟨m,h1|h1,h2⟩
    ·exact .inl (by rw[h1.1])
    ·exact .inr ⟨m,h1,h2⟩
theorem A16{d j:Nat}:∀{os:List Oper}{i:Nat},(d,j)∈G0 i os↔i≤j∧∃ o,os[j - i]?=some o∧o.dst=some d
 |[],i=>by simp[G0]
 |o::os,i=>by
  have ih:=A16 (d:=d) (j:=j) (os:=os) (i:=i+1);have nK:(i≤j∧∃ x,(o::os)[j - i]?=some x∧x.dst=some d)↔((j=i∧o.dst=some d)∨(i+1≤j∧∃ x,os[j - (i+1)]?=some x∧x.dst=some d)):=by
   rcases Fc j i with h|h|h
   ·constructor
    ·rintro⟨h1,_⟩;omega
    ·rintro(⟨h1,_⟩|⟨h1,_⟩)<;>omega
   ·subst h;simp;intro h;omega
   ·have e:j - i=(j - (i+1))+1:=by omega
    rw[e];simp only[List.getElem?_cons_succ];constructor
    ·rintro⟨_,h2⟩;exact .inr ⟨h,h2⟩
    ·rintro(⟨h1,_⟩|⟨_,h2⟩)
     ·omega
     ·exact⟨by omega,h2⟩
  rw[nK];cases hd:o.dst with
  |none=>simp only[G0,hd,ih];simp
  |some e=>
   simp only[G0,hd,Bn,Cc,ih,Br];constructor
   ·rintro(⟨h1,h2⟩|h)
    ·exact .inl ⟨h2,h1.symm⟩
    ·exact .inr h
   ·rintro(⟨h1,h2⟩|h)
    ·exact .inl ⟨h2.symm,h1⟩
    ·exact .inr h
theorem A7i:∀(os:List Oper)(i:Nat),(G0 i os).map (·.1)=F3 os
 |[],i=>rfl
 |o::os,i=>by
  simp only[G0,F3];cases o.dst with
  |none=>exact A7i os (i+1)
  |some d=>simp only[Hc,A7i os (i+1)]
structure A8U(E:Env Ty den)(ops:Array Oper)(m:Nat)(i:Nat)(o:Oper):Prop where
 pure:A0I E o=true
 low:∀ t∈o.looksAt ops,t<1000000
 after:∀ e∈o.after,e.on<i
 bound:∀ t∈o.looksAt ops,∀ j,(t,j)∈G0 0 (ops.toList.take m)→A5v o j=true
theorem B8M{ops:Array Oper}{m:Nat}{ps:List (Nat×Nat)}(eu:ps=G0 0 (ops.toList.take m)):∀{os:List Oper}{i:Nat},A6b E ops ps i os=true→∀ j o,os[j]?=some o→A8U E ops m (i+j) o
 |[],i,_,j,o,h=>by simp at h
 |x::os,i,h,0,o,ho=>by
  simp only[A6b,Bb]at h;simp only[List.getElem?_cons_zero,Br]at ho;subst ho;have h1:=h.1;simp only[B7B,Bb,Ed]at h1;obtain⟨h1,h2,h3⟩:=h1;refine⟨h1,fun t ht=>by simpa [By]using (h3 t ht).1,fun e he=>?_,fun t ht j hj=>?_⟩
  ·have:=h2 e (by simpa using he);simpa [By]using this
  ·have h4:=(h3 t ht).2 (t,j) (by rw[eu];exact hj);simpa [H4]using h4
 |x::os,i,h,j+1,o,ho=>by
  simp only[A6b,Bb]at h;have:=B8M eu h.2 j o (by simpa using ho);rwa [Jf,Nat.add_comm 1 j]at this
theorem A8C{o:Oper}{j:Nat}(h:A5v o j=true)(md:Cv):∃ e∈o.after,e.on=j∧Co md e=true:=by
 unfold A5v at h;obtain⟨e,he,h1⟩:=Hd.1 h;simp only[Bb]at h1;refine⟨e,by simpa using he,Cr h1.1,?_⟩;unfold Co;have h2:=h1.2;split at h2<;>first|cases h2;done|skip
 split<;>first|rfl|(rename_i h3 _ _ h4;simp_all)
theorem A7q:∀{l:List Nat},Y6 l=true→∀ x r,l=x::r→mem x r=false∧Y6 r=true
 |[],_,x,r,h=>by cases h
 |y::l,h,x,r,he=>by
  cases he;simpa [Y6]using h
theorem B7n{ops:Array Oper}{m:Nat}(cK:∀ j o,(ops.toList.take m)[j]?=some o→A8U E ops m j o):∀(os:List Oper)(i:Nat),(∀ j o,os[j]?=some o→(ops.toList.take m)[i+j]?=some o)→Y6 (F3 os)=true→B2T ops os
 |[],i,_,_=>trivial
 |o::os,i,cL,hn=>by
  have ho:=cK i o (cL 0 o rfl);refine⟨fun t ht=>?_,fun d hd=>?_,B7n cK os (i+1) (fun j x hx=>by have:=cL (j+1) x (by simpa using hx);rwa [←Jf,Nat.add_right_comm]at this) ?_⟩
  ·cases hm:mem t (F3 (o::os))with
   |false=>rfl
   |true=>
    exfalso;have fY:∀(l:List Oper),mem t (F3 l)=true→∃(j:Nat)(x:Oper),l[j]?=some x∧x.dst=some t:=by
     intro l
     induction l with
     |nil=>intro h;simp[F3,mem]at h
     |cons y l ih=>
      intro h;simp only[F3]at h;cases hy:y.dst with
      |none=>rw[hy]at h;obtain⟨j,x,h1,h2⟩:=ih h;exact⟨j+1,x,by simpa using h1,h2⟩
      |some d=>
       rw[hy]at h;rcases (mem_cons _ _ _).1 h with h1|h1
       ·exact⟨0,y,rfl,by rw[hy,h1]⟩
       ·obtain⟨j,x,h2,h3⟩:=ih h1;exact⟨j+1,x,by simpa using h2,h3⟩
    obtain⟨j,x,hx,jX⟩:=fY _ hm;have h1:=cL j x hx;have h2:=ho.bound t ht (i+j) (A16.2 ⟨Cg _,x,by(rw[Dl];exact h1),jX⟩);obtain⟨e,he,dT,_⟩:=A8C h2 .any;have:=ho.after e he;omega
  ·simp only[F3,hd]at hn;exact(A7q hn _ _ rfl).1
  ·simp only[F3]at hn;cases hd:o.dst with
   |none=>rw[hd]at hn;exact hn
   |some d=>rw[hd]at hn;exact(A7q hn _ _ rfl).2
theorem A9i{l:List Bool}:∀{i:Nat},l[i]?=some false→(l.set i true).count false+1=l.count false:=by
 induction l with
 |nil=>intro i h;simp at h
 |cons x l ih=>
  intro i h;cases i with
  |zero=>simp at h;subst h;simp
  |succ i=>
   have:=ih (i:=i) (by simpa using h);simp only[List.set_cons_succ,List.count_cons];omega
theorem A7u{ops:Array Oper}{o:Oper}{s:St Ty den}{gh:Gh}(hr:Rel E.U B gh s a w){b:Bool}(hg:Gd ops s o b):Bx o (Ce ops a.tmps)=b:=by
 unfold Gd at hg;unfold Bx;cases ho:o.guard with
 |none=>rw[ho]at hg;exact hg.symm
 |some jw=>
  obtain⟨j,aL⟩:=jw;rw[ho]at hg;dsimp only at hg ⊢;obtain⟨gd,hj,hc⟩:=hg;have aK:=hr.ent gd;unfold Ce;rw[hj];simp only[Jd];rcases hc with⟨c,hc,rfl⟩|⟨rfl,v,hv,dZ⟩
  ·rw[hc]at aK;have aX:a.tmps.getD gd undef=.bool c:=CRep.bool_inv aK.1;rw[Bo]at aX;cases ij:a.tmps[gd]? with
   |none=>rw[ij]at aX;cases aX
   |some u=>
    rw[ij]at aX;simp at aX;subst aX;cases c<;>cases aL<;>rfl
  ·rw[hv]at aK;have aX:a.tmps.getD gd undef=v:=by
    have h1:=aK.1;cases h1;rfl
   rw[Bo]at aX;cases ij:a.tmps[gd]? with
   |none=>rfl
   |some u=>
    rw[ij]at aX;simp at aX;subst aX;cases u<;>first|rfl|(simp[A3x]at dZ;done)|(cases aL<;>rfl)
theorem REL.unname{U:UO Ty den}{s:St Ty den}{d:Option Nat}{nm:Nat}{u:Ty}{xs:List (den u)}{a:Act}{w:World}(h:REL U B ((s.fresh nm).setO d (.one (.sl u xs (some nm)))) a w)(cP:∀ i,(s.get i).strip nm=s.get i):
  REL U B (s.setO d (.one (.sl u xs none))) a w:=by
 obtain⟨g,h⟩:=h;have hg:∀ i,d≠some i→((s.fresh nm).setO d (.one (.sl u xs (some nm)))).get i=s.get i:=fun i hi=>by
  rw[T8,if_neg hi,A2x,cP]
 have aM:∀ e,mem e (s.setO d (.one (.sl u xs none))).live=true→mem e ((s.fresh nm).setO d (.one (.sl u xs (some nm)))).live=true:=fun e he=>by
  rw[A0W]at he ⊢;show mem e (nm::rem nm s.live)=true;by_cases az:nm=e
  ·exact(mem_cons _ _ _).2 (.inl az)
  ·exact(mem_cons _ _ _).2 (.inr ((T9 nm e s.live).2 ⟨he,fun h=>az h.symm⟩))
 refine⟨g,{h with ent:=fun i=>?_,tip:=fun e he=>h.tip e (aM e he),disj:=fun e f b he hf=>h.disj e f b (aM e he) (aM f hf),mine:=fun e b he=>h.mine e b (aM e he),iter:=fun i c pos hc=>?_,idis:=fun i j c p c' p' cB h1 h2=>?_,bxl:=fun i e ls hc=>?_}⟩
 ·have h1:=h.ent i;by_cases hi:d=some i
  ·rw[T8,if_pos hi]at h1 ⊢;exact⟨h1.1.own none,fun _ _ _ e=>by(simp at e),fun _ _ e=>by(cases e)⟩
  ·rw[hg i hi]at h1;rw[T8,if_neg hi];exact h1
 ·by_cases hi:d=some i
  ·rw[T8,if_pos hi]at hc;cases hc
  ·rw[T8,if_neg hi]at hc;exact h.iter i c pos (by rw[hg i hi];exact hc)
 ·by_cases hi:d=some i
  ·rw[T8,if_pos hi]at h1;cases h1
  ·by_cases hj:d=some j
   ·rw[T8,if_pos hj]at h2;cases h2
   ·rw[T8,if_neg hi]at h1;rw[T8,if_neg hj]at h2;exact h.idis i j c p c' p' cB (by rw[hg i hi];exact h1) (by rw[hg j hj];exact h2)
 ·by_cases hi:d=some i
  ·rw[T8,if_pos hi]at hc;cases hc
  ·rw[T8,if_neg hi]at hc;obtain⟨h1,h2⟩:=h.bxl i e ls (by rw[hg i hi];exact hc);refine⟨?_,h2⟩;rw[A0W]at h1 ⊢;rcases (mem_cons _ _ _).1 h1 with h3|h3
   ·exfalso;have:=cP i;rw[hc, ←h3]at this;simp only[Ent.strip,H4,cond_true]at this;cases this
   ·exact((T9 nm e s.live).1 h3).1
theorem A1O{i:Nat}{zs:List (Leaf Ty den)}{s:St Ty den}(j:Nat):(T3 i zs s).get j=if i=j then .one (.ptr (C7 (some i)) 0)else if bxi (C7 (some i))=j then .bx (C7 (some i)) zs else(s.get j).strip (C7 (some i)):=by
 unfold T3;rw[K3,K3,A2x]
structure C6i(P:Bj)(E:Env Ty den)(ops:Array Oper)(m:Nat)(sF:St Ty den)(ia i:Nat)(t:Ba)(zs:List (Leaf Ty den)):Prop where
 op:∃ o,ops.toList[ia]?=some o∧o.op=.alloc t∧o.dst=some i∧o.guard=none
 lt:ia<m
 zr:E.zr t=some zs
 pos:0<zs.length
 oz:E.oz i=false
 closed:A3c zs=true
 no:∀ j,(sF.get j).strip (C7 (some i))=sF.get j
 low:i<1000000
 one:∀ j o,j<m→ops.toList[j]?=some o→P9 o.op=true→j=ia
 look:∀ j o,j<m→ops.toList[j]?=some o→mem i (o.looksAt ops)=false
def stL(al:Option (Nat×Nat×List (Leaf Ty den)))(listed:Array Bool)(X:St Ty den):St Ty den:=match al with
 |none=>X
 |some (ia,i,zs)=>bif listed.getD ia false then T3 i zs X else X
def B9s(P:Bj)(E:Env Ty den)(ops:Array Oper)(m:Nat)(sF:St Ty den)(al:Option (Nat×Nat×List (Leaf Ty den))):Prop:=match al with
 |none=>∀ j o,j<m→ops.toList[j]?=some o→P9 o.op=false
 |some (ia,i,zs)=>∃ t,C6i P E ops m sF ia i t zs
theorem D06{e:Edge}(h:A7h e=true)(md:Cv):Co md e=true:=by
 unfold A7h at h;unfold Co;split at h<;>first|cases h;done|skip
 split<;>first|rfl|(rename_i h3 _ _ h4;simp_all)
def DC(md:Cv)(ops:Array Oper)(listed:Array Bool):Prop:=∀ i o,listed.getD i false=true→ops[i]?=some o→∀ e∈o.after,Co md e=true→listed.getD e.on false=true
theorem B1m{md:Cv}{listed:Array Bool}(cl:List (List Nat))(cm:∀(k:Nat) c,cl[k]?=some c→listed.getD k false=true→∀ j,mem j c=true→listed.getD j false=true):
  ∀(es:List Edge),(∀ e∈es,Co md e=true→listed.getD e.on false=true)→∀ j,mem j (A3b cl es)=true→listed.getD j false=true
 |[],_,j,h=>by cases h
 |e::es,he,j,h=>by
  have ih:=B1m cl cm es (fun e' h'=>he e' (by simp[h']));simp only[A3b]at h;cases hb:A7h e with
  |false=>rw[hb]at h;exact ih j h
  |true=>
   rw[hb]at h;simp only[cond_true]at h;have h1:=he e (by simp) (D06 hb md);rcases (mem_cons _ _ _).1 h with rfl|h
   ·exact h1
   ·have nL:∀(x y:List Nat),mem j (x++y)=true→mem j x=true∨mem j y=true:=by
     intro x y
     induction x with
     |nil=>exact fun h=>.inr h
     |cons z x qb=>
      intro h;rcases (mem_cons _ _ _).1 h with rfl|h
      ·exact .inl ((mem_cons _ _ _).2 (.inl rfl))
      ·exact(qb h).imp (fun h=>(mem_cons _ _ _).2 (.inr h)) id
    rcases nL _ _ h with h|h
    ·cases hg:cl[e.on]? with
     |none=>rw[Ci,hg]at h;cases h
     |some c=>
      rw[Ci,hg]at h;exact cm e.on c hg h1 j h
    ·exact ih j h
theorem B7Z{fl l:List Nat}:∀{n:Nat},A8a fl n l=true→∀ j,j<n→mem j fl=false→mem j l=true
 |0,_,j,h,_=>by omega
 |n+1,h,j,hj,hf=>by
  simp only[A8a,Bb,Hi]at h;by_cases vO:j=n
  ·subst vO;rcases h.1 with h|h
   ·exact h
   ·rw[hf]at h;cases h
  ·exact B7Z h.2 j (by omega) hf
theorem B9M{md:Cv}{ops:Array Oper}{m:Nat}{fl:List Nat}:∀(os:List Oper)(i:Nat)(cl:List (List Nat)),cl.length=i→(∀ j o,os[j]?=some o→ops.toList[i+j]?=some o)→A7K fl m i os cl=true→
  (∀(listed:Array Bool),DC md ops listed→∀(k:Nat) c,cl[k]?=some c→listed.getD k false=true→∀ j,mem j c=true→listed.getD j false=true)→
  ∀(k:Nat) o,os[k]?=some o→(∀ e∈o.after,e.on<i+k)∧(m≤i+k→∀ listed:Array Bool,DC md ops listed→(∀ e∈o.after,Co md e=true→listed.getD e.on false=true)→∀ j,j<i+k→mem j fl=false→listed.getD j false=true)
 |[],i,cl,_,_,_,_,k,o,h=>by simp at h
 |x::os,i,cl,hl,cL,ht,cm,k,o,h=>by
  simp only[A7K,Bb,Ed]at ht;obtain⟨h1,h2,h3⟩:=ht;cases k with
  |zero=>
   simp at h;subst h;refine⟨fun e he=>by have:=h1 e (by simpa using he);simpa [By]using this,fun hm listed ke eV j hj tg=>?_⟩;simp only[Gx]at hm hj;have hb:Bp i m=false:=by
    cases hb:Bp i m with
    |false=>rfl
    |true=>
     have:i<m:=by simpa [By]using hb
     omega
   rw[hb]at h2;simp only[Hj]at h2;exact B1m cl (cm listed ke) _ (fun e he=>eV e (by simpa using he)) j (B7Z h2 j hj tg)
  |succ k=>
   have:=B9M os (i+1) (cl++[A3b cl x.after.toList]) (by simp[hl]) (fun j o hj=>by have:=cL (j+1) o (by simpa using hj);rwa [show i+(j+1)=i+1+j by omega]at this) h3 (fun listed ke k' c hc ga j hj=>by
    rw[List.getElem?_append]at hc;split at hc
    ·exact cm listed ke k' c hc ga j hj
    ·rename_i Ab;have eB:k'=i:=by
      have:=J7 hc;simp at this;omega
     subst eB;simp[hl]at hc;subst hc;have hx:=cL 0 x rfl;rw[Gx]at hx;have fu:ops[k']?=some x:=by simpa using hx
     exact B1m cl (cm listed ke) _ (fun e he hb=>ke k' x ga fu e (by simpa using he) hb) j hj) k o (by simpa using h)
   rw[show i+(k+1)=i+1+k by omega];exact this
theorem C5y{al:Option (Nat×Nat×List (Leaf Ty den))}{listed:Array Bool}{X Y:St Ty den}(h:X.live=Y.live):(stL al listed X).live=(stL al listed Y).live:=by
 cases al with
 |none=>exact h
 |some p=>
  obtain⟨ia,i,zs⟩:=p;simp only[stL];cases listed.getD ia false with
  |false=>exact h
  |true=>simp only[cond_true,T3,St.set,St.fresh,h]
theorem B8s{U:UO Ty den}{al:Option (Nat×Nat×List (Leaf Ty den))}{listed:Array Bool}{X Y:St Ty den}(hr:REL U B (stL al listed X) a w)(hl:X.live=Y.live)(h:∀ i,Y.get i=.one .any∨Y.get i=X.get i):REL U B (stL al listed Y) a w:=by
 obtain⟨g,hr⟩:=hr;have li:=C5y (al:=al) (listed:=listed) hl;refine⟨g,hr.weaken (fun j=>?_) (fun d hd=>by rw[li];exact hd) (fun _ d _ _ hd=>by rw[←li];exact hd)⟩;cases al with
 |none=>exact h j
 |some p=>
  obtain⟨ia,i,zs⟩:=p;simp only[stL];cases listed.getD ia false with
  |false=>exact h j
  |true=>
   simp only[cond_true];rw[A1O,A1O];split
   ·exact .inr rfl
   ·split
    ·exact .inr rfl
    ·rcases h j with h1|h1
     ·left;rw[h1];rfl
     ·right;rw[h1]
theorem B6C{os:List Oper}(hn:Y6 (F3 os)=true):∀{i j d:Nat}{x y:Oper},os[i]?=some x→os[j]?=some y→x.dst=some d→y.dst=some d→i=j:=by
 induction os with
 |nil=>intro i j d x y h;simp at h
 |cons o os ih=>
  have nl:Y6 (F3 os)=true:=by
   simp only[F3]at hn;cases hd:o.dst with
   |none=>rw[hd]at hn;exact hn
   |some d=>rw[hd]at hn;exact(A7q hn _ _ rfl).2
  have mH:∀ d,o.dst=some d→∀(j:Nat) y,os[j]?=some y→y.dst≠some d:=fun d hd j y hy nM=>by
   simp only[F3,hd]at hn;have h1:=(A7q hn _ _ rfl).1;have h2:∀(l:List Oper)(j:Nat),l[j]?=some y→mem d (F3 l)=true:=by
    intro l
    induction l with
    |nil=>intro j h;simp at h
    |cons z l nN=>
     intro j h;cases j with
     |zero=>simp at h;subst h;exact A53 nM
     |succ j=>exact A5L (nN j (by simpa using h))
   rw[h2 os j hy]at h1;cases h1
  intro i j d x y hx hy jX nM;cases i with
  |zero=>
   simp at hx;subst hx;cases j with
   |zero=>rfl
   |succ j=>exact absurd nM (mH d jX j y (by simpa using hy))
  |succ i=>
   cases j with
   |zero=>simp at hy;subst hy;exact absurd jX (mH d nM i x (by simpa using hx))
   |succ j=>rw[ih nl (i:=i) (j:=j) (by simpa using hx) (by simpa using hy) jX nM]
theorem C6E(hE:A0K P E B){ops:Array Oper}{md:Cv}{Q:Exit→Act→World→Prop}{m:Nat}(hm:m≤ops.size){sF:St Ty den}{al:Option (Nat×Nat×List (Leaf Ty den))}
  (cK:∀ j o,(ops.toList.take m)[j]?=some o→A8U E ops m j o)(lV:∀ o∈ops.toList.take m,Ran E ops sF o)(cP:A1C sF (ops.toList.take m)=true)(lN:Y6 (F3 ops.toList)=true)
  (bN:∀ o∈ops.toList,∀ d,o.dst=some d→d<1000000)(eV:B9s P E ops m sF al)
  {fl:List Nat}(gv:∀(k:Nat) o,ops.toList[k]?=some o→(∀ e∈o.after,e.on<k)∧(m≤k→∀ listed:Array Bool,DC md ops listed→(∀ e∈o.after,Co md e=true→listed.getD e.on false=true)→∀ j,j<k→mem j fl=false→listed.getD j false=true))
  (hT:∀(fuel:Nat)(listed:Array Bool)(a:Act)(w:World),listed.size=ops.size→listed.toList.count false≤fuel→(∀ j,listed.getD j false=true↔j<m)→REL E.U B (stL al listed sF) a w→a.tmps.size=E.nt→wpAny P md ops Q fuel listed a w):
  ∀(fuel:Nat)(listed:Array Bool)(a:Act)(w:World),listed.size=ops.size→listed.toList.count false≤fuel→DC md ops listed→(∀ j,listed.getD j false=true→j<m)→(∀ j,j<m→mem j fl=true→listed.getD j false=true)→REL E.U B (stL al listed (sF.dels (I1 listed (G0 0 (ops.toList.take m))))) a w→a.tmps.size=E.nt→
   wpAny P md ops Q fuel listed a w:=by
 have aI:∀{i:Nat}{o:Oper},ops[i]?=some o→ops.toList[i]?=some o:=fun h=>by simpa using h
 have iP:∀{i:Nat}{o:Oper},i<m→ops[i]?=some o→(ops.toList.take m)[i]?=some o:=fun hi h=>by rw[Cx,if_pos hi];exact aI h
 have nO:∀{listed:Array Bool}{i:Nat},listed.size=ops.size→i<ops.size→listed.getD i true=false→listed.getD i false=false∧listed.toList[i]?=some false:=fun{listed i} aC hi h=>by
  have h1:i<listed.size:=by omega
  rw[Bo,Bu h1]at h;simp at h;refine⟨?_,by rw[Kb,Bu h1,h]⟩;rw[Bo,Bu h1,h];rfl
 have kf:∀{listed:Array Bool}{i:Nat},listed.size=ops.size→i<ops.size→listed.getD i false=false→listed.getD i true=false:=fun{listed i} aC hi h=>by
  have h1:i<listed.size:=by omega
  rw[Bo,Bu h1]at h ⊢;simpa using h
 intro fuel
 induction fuel with
 |zero=>
  intro listed a w aC fx ke aB bV hr dL;refine hT 0 listed a w aC fx (fun j=>⟨aB j,fun hj=>?_⟩) (B8s hr rfl fun i=>?_) dL
  ·cases hl:listed.getD j false with
   |true=>rfl
   |false=>
    exfalso;have h2:=(nO aC (by omega) (kf aC (by omega) hl)).2;have:=Fo.2 (Ca h2);omega
  ·right
   rw[Z5];cases eH:mem i (I1 listed (G0 0 (ops.toList.take m)))with
   |false=>rfl
   |true=>
    obtain⟨j,hj,hl⟩:=A0Z.1 eH;obtain⟨_,o,ho,hd⟩:=A16.1 hj;have ll:j<ops.size:=by
     have:=J7 ho;simp at this;omega
    exfalso;have h2:=(nO aC ll (kf aC ll hl)).2;have:=Fo.2 (Ca h2);omega
 |succ fuel ih=>
  intro listed a w aC fx ke aB bV hr dL;by_cases bO:∀ j,j<m→listed.getD j false=true
  ·refine hT (fuel+1) listed a w aC fx (fun j=>⟨aB j,bO j⟩) (B8s hr rfl fun i=>?_) dL
   right
   rw[Z5];cases eH:mem i (I1 listed (G0 0 (ops.toList.take m)))with
   |false=>rfl
   |true=>
    obtain⟨j,hj,hl⟩:=A0Z.1 eH;obtain⟨_,o,ho,hd⟩:=A16.1 hj;have th:j<m:=by
     have:=J7 ho;simp at this;omega
    rw[bO j th]at hl;cases hl
  ·
   have fY:∃ j0,j0<m∧listed.getD j0 false=false:=by
    apply Classical.byContradiction;intro hc;refine bO fun j hj=>?_;cases hl:listed.getD j false with
    |true=>rfl
    |false=>exact absurd ⟨j,hj,hl⟩ hc
   obtain⟨j0,oV,di⟩:=fY;refine⟨fun fM=>?_,fun i hi=>?_⟩
   ·exfalso;have cS:∀ n j,j≤n→j<m→listed.getD j false=true:=by
     intro n
     induction n using Nat.strongRecOn with
     |_ n xG=>
      intro j vO th;cases hl:listed.getD j false with
      |true=>rfl
      |false=>
       exfalso;have ll:j<ops.size:=by omega
       have cD:j∈Cn md ops listed:=by
        rw[Dq];refine⟨kf aC ll hl,ops[j],Bu ll,fun e he _=>?_⟩;have h1:=(cK j ops[j] (iP th (Bu ll))).after e he;exact xG e.on (by omega) e.on (Bh _) (by omega)
       rw[fM]at cD;cases cD
    rw[cS j0 j0 (Bh _) oV]at di;cases di
   ·obtain⟨gw,o,ho,eX⟩:=Dq.1 hi;have ti:i<ops.size:=(Cp.1 ho).1;have jz:i<m:=by
     rcases Cw i m with h|h
     ·exact h
     ·have kg:mem j0 fl=false:=by
       cases hf:mem j0 fl with
       |false=>rfl
       |true=>rw[bV j0 oV hf]at di;cases di
      have:=(gv i o (aI ho)).2 h listed ke eX j0 (by omega) kg;rw[this]at di;cases di
    have pb:o∈ops.toList.take m:=Ca (iP jz ho);have hO:=cK i o (iP jz ho);have hR:=lV o pb;obtain⟨tj,nP⟩:=nO aC ti gw;have qc:∀ j,(listed.setIfInBounds i true).getD j false=false↔listed.getD j false=false∧j≠i:=by
     intro j;by_cases cB:i=j
     ·subst cB;have h1:i<listed.size:=by omega
      simp[h1]
     ·rw[Ct false cB];constructor
      ·exact fun h=>⟨h,fun e=>cB e.symm⟩
      ·exact fun h=>h.1
    have dq:∀ j,(listed.setIfInBounds i true).getD j false=true↔listed.getD j false=true∨j=i:=by
     intro j;by_cases cB:i=j
     ·subst cB;have h1:i<listed.size:=by omega
      simp[h1]
     ·rw[Ct false cB];constructor
      ·exact fun h=>.inl h
      ·rintro(h|h)
       ·exact h
       ·exact absurd h.symm cB
    have qd:DC md ops (listed.setIfInBounds i true):=by
     intro j oj hj gx e he hb;rcases (dq j).1 hj with h|rfl
     ·exact(dq _).2 (.inl (ke j oj h gx e he hb))
     ·rw[ho]at gx;cases gx;exact(dq _).2 (.inl (eX e he hb))
    have nQ:∀ j,(listed.setIfInBounds i true).getD j false=true→j<m:=fun j hj=>by
     rcases (dq j).1 hj with h|rfl
     ·exact aB j h
     ·exact jz
    have qe:∀ j,j<m→mem j fl=true→(listed.setIfInBounds i true).getD j false=true:=fun j hj hf=>(dq j).2 (.inl (bV j hj hf));have mI:(listed.setIfInBounds i true).toList.count false≤fuel:=by
     have:=A9i nP;rw[Fs];omega
    have tl:∀ t∈o.looksAt ops,mem t (I1 listed (G0 0 (ops.toList.take m)))=false:=by
     intro t ht;cases eH:mem t (I1 listed (G0 0 (ops.toList.take m)))with
     |false=>rfl
     |true=>
      exfalso;obtain⟨j,hj,hl⟩:=A0Z.1 eH;obtain⟨e,he,rfl,hb⟩:=A8C (hO.bound t ht j hj) md;rw[eX e he hb]at hl;cases hl
    have hX:∀ t,(sF.dels (I1 (listed.setIfInBounds i true) (G0 0 (ops.toList.take m)))).get t=.one .any∨((o.dst=some t∧(sF.dels (I1 (listed.setIfInBounds i true) (G0 0 (ops.toList.take m)))).get t=sF.get t)∨(o.dst≠some t∧(sF.dels (I1 (listed.setIfInBounds i true) (G0 0 (ops.toList.take m)))).get t=(sF.dels (I1 listed (G0 0 (ops.toList.take m)))).get t)):=by
     intro t;rw[Z5,Z5];cases eH:mem t (I1 (listed.setIfInBounds i true) (G0 0 (ops.toList.take m)))with
     |true=>left;rfl
     |false=>
      right
      simp only[cond_false];by_cases hd:o.dst=some t
      ·exact .inl ⟨hd,trivial⟩
      ·right
       refine⟨hd,?_⟩;cases lm:mem t (I1 listed (G0 0 (ops.toList.take m)))with
       |false=>rfl
       |true=>
        exfalso;obtain⟨j,hj,hl⟩:=A0Z.1 lm;have ee:j≠i:=by
         rintro rfl;obtain⟨_,o',hY,dY⟩:=A16.1 hj;rw[Dl,iP jz ho]at hY;cases hY;exact hd dY
        have:mem t (I1 (listed.setIfInBounds i true) (G0 0 (ops.toList.take m)))=true:=A0Z.2 ⟨j,hj,(qc j).2 ⟨hl,ee⟩⟩;rw[this]at eH;cases eH
    generalize rS:sF.dels (I1 listed (G0 0 (ops.toList.take m)))=X at hr hX;generalize nR:sF.dels (I1 (listed.setIfInBounds i true) (G0 0 (ops.toList.take m)))=X' at hX;have pc:X.live=sF.live:=by rw[←rS];rfl
    have jd:X'.live=sF.live:=by rw[←nR];rfl
    have vP:∀ t,X.get t=.one .any∨X.get t=sF.get t:=fun t=>by
     rw[←rS,Z5];cases mem t (I1 listed (G0 0 (ops.toList.take m)))with
     |true=>left;rfl
     |false=>right;rfl
    have tn:∀ t∈o.looksAt ops,X.get t=sF.get t:=fun t ht=>by
     rw[←rS,Z5,tl t ht];rfl
    have qf:∀ d,X.get (bxi d)=sF.get (bxi d):=fun d=>by
     rw[←rS,Z5];cases eH:mem (bxi d) (I1 listed (G0 0 (ops.toList.take m)))with
     |false=>rfl
     |true=>
      obtain⟨j,hj,_⟩:=A0Z.1 eH;obtain⟨_,o',hY,dY⟩:=A16.1 hj;have:=bN o' (Er (Ca hY)) _ dY;exact absurd this (by show¬((1000000+d:Nat)<1000000);omega)
    have hd:∀ d,o.dst=some d→d<a.tmps.size∧B.np≤d:=fun d hd=>by rw[dL];have:=A6K hR.dst d hd;exact⟨this.1,Dn hE.np this.2⟩
    have qg:∀ d,o.dst=some d→d<1000000:=bN o (Er pb);obtain⟨g,hr⟩:=hr;have bB:o.guard=none∨True:=.inr trivial;have vQ:∀ t∈o.looksAt ops,(stL al listed X).get t=sF.get t:=by
     intro t ht;cases al with
     |none=>exact tn t ht
     |some p=>
      obtain⟨ia,ii,zs⟩:=p;obtain⟨ty,hA⟩:=eV;simp only[stL];cases listed.getD ia false with
      |false=>exact tn t ht
      |true=>
       simp only[cond_true];have az:ii≠t:=fun e=>by
        have:=hA.look i o jz (aI ho);rw[e]at this;have h2:∀(l:List Nat),t∈l→mem t l=true:=by
         intro l
         induction l with
         |nil=>intro h;cases h
         |cons x l nN=>
          intro h;rcases Bn.1 h with h|h
          ·exact(mem_cons _ _ _).2 (.inl h.symm)
          ·exact(mem_cons _ _ _).2 (.inr (nN h))
        rw[h2 _ ht]at this;cases this
       have gg:=hO.low t ht;rw[A1O,if_neg az,if_neg (fun e=>by rw[←e]at gg;exact absurd gg (by show¬((1000000+C7 (some ii):Nat)<1000000);omega)),tn t ht,hA.no]
    have ki:Sees o sF (stL al listed X):=by
     refine⟨fun t ht=>vQ t (B43 ht),fun d ls bm=>?_⟩;cases al with
     |none=>rw[show stL none listed X=X from rfl,A7m (qf d)];exact bm
     |some p=>
      obtain⟨ia,ii,zs⟩:=p;obtain⟨ty,hA⟩:=eV;simp only[stL];cases listed.getD ia false with
      |false=>simp only[cond_false];rw[A7m (qf d)];exact bm
      |true=>
       simp only[cond_true];have lj:sF.get (bxi d)=.bx d ls:=by
        unfold U7 at bm;split at bm
        ·rename_i e bh he;obtain⟨h1,h2⟩:=C0 bm;have:=(F6 _ _).1 h1;subst this;cases h2;exact he
        ·cases bm
       have nD:d≠C7 (some ii):=fun e=>by
        have:=hA.no (bxi d);rw[lj,e]at this;simp only[Ent.strip,H4,cond_true]at this;cases this
       have ij:(T3 ii zs X).get (bxi d)=.bx d ls:=by
        have vR:=hA.low;rw[A1O,if_neg (by unfold bxi;omega),if_neg (by unfold bxi;omega),qf,hA.no,lj]
       unfold U7;rw[ij];simp[H4]
    have lU:∀ b,Gd ops sF o b→Bx o (Ce ops a.tmps)=b:=by
     intro b hb;refine A7u hr ?_;unfold Gd at hb ⊢;cases qh:o.guard with
     |none=>rw[qh]at hb;exact hb
     |some jw=>
      obtain⟨j,aL⟩:=jw;rw[qh]at hb;dsimp only at hb ⊢;obtain⟨gd,hj,hc⟩:=hb;refine⟨gd,hj,?_⟩;rw[vQ gd (B61 qh hj)];exact hc
    have cY:P9 o.op=false→∀(e:Ent Ty den)(a':Act)(w':World),(∀ d,o.dst=some d→sF.get d=e)→REL E.U B ((stL al listed X).setO o.dst e) a' w'→a'.tmps.size=E.nt→wpAny P md ops Q fuel (listed.setIfInBounds i true) a' w':=by
     intro dg e a' w' toq ⟨g',ct⟩ il;refine ih _ _ _ (by simp[aC]) mI qd nQ qe ?_ il;rw[nR];cases al with
     |none=>
      refine⟨g',ct.weaken (fun t=>?_) (fun d hd=>by rw[A0W];show mem d X.live=true;rw[pc, ←jd];exact hd) (fun _ d _ _ h=>by rw[A0W]at h;show mem d X'.live=true;rw[jd, ←pc];exact h)⟩;rw[T8];show X'.get t=_∨X'.get t=_;rcases hX t with h|⟨h1,h2⟩|⟨h1,h2⟩
      ·exact .inl h
      ·right;rw[if_pos h1,h2,toq t h1]
      ·right;rw[if_neg h1,h2];rfl
     |some p=>
      obtain⟨ia,ii,zs⟩:=p;obtain⟨ty,hA⟩:=eV;have qi:i≠ia:=fun e=>by
       subst e;obtain⟨oa,q1,q2,_⟩:=hA.op;rw[aI ho]at q1;cases q1;rw[q2]at dg;cases dg
      have cE:(listed.setIfInBounds i true).getD ia false=listed.getD ia false:=Ct false qi;simp only[stL]at ct ⊢;rw[cE];cases mJ:listed.getD ia false with
      |false=>
       rw[mJ]at ct;simp only[cond_false]at ct ⊢;refine⟨g',ct.weaken (fun t=>?_) (fun d hd=>by rw[A0W,pc, ←jd];exact hd) (fun _ d _ _ h=>by rw[A0W,pc, ←jd]at h;exact h)⟩;rw[T8];rcases hX t with h|⟨h1,h2⟩|⟨h1,h2⟩
       ·exact .inl h
       ·right;rw[if_pos h1,h2,toq t h1]
       ·right;rw[if_neg h1,h2]
      |true=>
       rw[mJ]at ct;simp only[cond_true]at ct ⊢;have eY:(T3 ii zs X).live=(T3 ii zs X').live:=by simp only[T3,St.set,St.fresh,pc,jd]
       refine⟨g',ct.weaken (fun t=>?_) (fun d hd=>by rw[A0W,eY];exact hd) (fun _ d _ _ h=>by rw[A0W,eY]at h;exact h)⟩;have cG:o.dst≠some ii:=fun e=>by
        obtain⟨oa,q1,_,q3,_⟩:=hA.op;exact qi (B6C lN (aI ho) q1 e q3)
       have xH:o.dst≠some (bxi (C7 (some ii))):=fun e=>by
        have:=qg _ e;exact absurd this (by show¬((1000000+C7 (some ii):Nat)<1000000);omega)
       rw[T8,A1O,A1O];by_cases h1:ii=t
       ·right;rw[if_pos h1,if_neg (by rw[←h1];exact cG),if_pos h1]
       ·rw[if_neg h1,if_neg h1];by_cases h2:bxi (C7 (some ii))=t
        ·right;rw[if_pos h2,if_neg (by rw[←h2];exact xH),if_pos h2]
        ·rw[if_neg h2,if_neg h2];rcases hX t with h|⟨h3,h4⟩|⟨h3,h4⟩
         ·left;rw[h];rfl
         ·right;rw[if_pos h3,h4,hA.no,toq t h3]
         ·right;rw[if_neg h3,h4]
    unfold wpOp;rw[ho];dsimp only;rcases hR.ran with⟨dg,⟨h1,e,h2,h3⟩|⟨h1,h2⟩⟩|⟨nS,qh⟩
    ·rw[if_pos (lU true h1)];refine .inl ?_;have h4:=h3 (stL al listed X) ki;rcases h4 with h4|⟨⟨t,nn,ps,ak⟩,u,xs,rfl,h4⟩|⟨c,f,ak,aG,h4⟩
     ·refine A4I hE h4 hr hd ?_;intro e' s' v w' he bH;simp only[Br,Cc]at he;obtain⟨rfl,rfl⟩:=he;exact cY dg _ _ _ h2 bH (by rw[Z4];exact dL)
     ·refine A4I hE h4 hr hd ?_;intro e' s' v w' he bH;simp only[Br,Cc]at he;obtain⟨rfl,rfl⟩:=he;refine cY dg _ _ _ h2 (REL.unname bH (fun j=>?_)) (by rw[Z4];exact dL);have vS:∀ j,(X.get j).strip (C7 o.dst)=X.get j:=fun j=>by
       rcases vP j with h|h
       ·rw[h];rfl
       ·rw[h];exact A8n cP o pb t nn ps ak j
      cases al with
      |none=>exact vS j
      |some p=>
       obtain⟨ia,ii,zs⟩:=p;obtain⟨ty,hA⟩:=eV;simp only[stL];cases listed.getD ia false with
       |false=>exact vS j
       |true=>
        simp only[cond_true];have az:C7 (some ii)≠C7 o.dst:=fun e=>by
         cases ln:o.dst with
         |none=>rw[ln]at e;have e2:100+ii=99:=e;omega
         |some dd=>
          rw[ln]at e;have cG:dd=ii:=(Nat.add_left_cancel (show 100+ii=100+dd from e)).symm;obtain⟨oa,q1,q2,q3,_⟩:=hA.op;have:=B6C lN (aI ho) q1 (by rw[ln,cG]) q3;subst this;rw[aI ho]at q1;cases q1;rw[q2]at ak;cases ak
        rw[A1O];split
        ·simp only[Ent.strip,Leaf.strip,L2 az,cond_false]
        ·split
         ·simp only[Ent.strip,L2 az,cond_false]
          congr 1
          conv=>rhs;rw[←Fi zs]
          exact Fj fun l hl=>by
           have:=A7M hA.closed l hl;cases l with
           |sl t x o=>cases o with
            |none=>rfl
            |some c=>exact absurd rfl (this.1 t x c)
           |ptr d o=>exact absurd rfl (this.2 d o)
           |_=>rfl
         ·rcases vP j with h|h
          ·rw[h];rfl
          ·rw[h,hA.no];exact A8n cP o pb t nn ps ak j
     ·exact B9p hE.U hE.T hE.TR ak aG h4 hr hd fun v w' bH=>cY dg _ _ _ h2 bH (by rw[Z4];exact dL)
    ·rw[lU false h1];simp only[Hk,if_false];exact cY dg _ _ _ h2 (REL.setO hr (e:=.one (.val undef)) ⟨.val _,fun _ _ _ he=>by(cases he),fun _ _ he=>by(cases he)⟩ rfl o.dst hd) (by rw[Z4];exact dL)
    ·
     have hw:Bx o (Ce ops a.tmps)=true:=by simp[Bx,qh]
     rw[if_pos hw];refine .inl ?_;cases al with
     |none=>rw[eV i o jz (aI ho)]at nS;cases nS
     |some p=>
      obtain⟨ia,ii,zs⟩:=p;obtain⟨ty,hA⟩:=eV;have vR:i=ia:=hA.one i o jz (aI ho) nS;subst vR;obtain⟨oa,q1,q2,q3,_⟩:=hA.op;rw[aI ho]at q1;cases q1;simp only[stL,tj,cond_false]at hr;have gu:A9 E o X (fun e s'=>some (e,s'))=some (.one (.ptr (C7 (some ii)) 0),(X.fresh (C7 (some ii))).set (bxi (C7 (some ii))) (.bx (C7 (some ii)) zs)):=by
       simp only[A9,q2,q3,hA.zr,hA.oz,cond_false];rw[show Bp 0 zs.length=true by simpa [By]using hA.pos];rfl
      refine A4I hE gu hr hd ?_;intro e' s' v w' he bH;simp only[Br,Cc]at he;obtain⟨rfl,rfl⟩:=he;rw[q3]at bH;refine ih _ _ _ (by simp[aC]) mI qd nQ qe ?_ (by rw[Z4];exact dL);rw[nR,q3];simp only[stL];rw[show(listed.setIfInBounds i true).getD i false=true from(dq i).2 (.inr rfl)];simp only[cond_true];obtain⟨g2,bH⟩:=bH;have eY:(T3 ii zs X').live=(T3 ii zs X).live:=by simp only[T3,St.set,St.fresh,pc,jd]
      refine⟨g2,bH.weaken (s':=T3 ii zs X') (fun t=>?_) (fun d hd=>by rw[eY]at hd;exact hd) (fun _ d _ _ h=>by rw[eY];exact h)⟩;show(T3 ii zs X').get t=_∨(T3 ii zs X').get t=(T3 ii zs X).get t;rw[A1O,A1O];by_cases h1:ii=t
      ·right;rw[if_pos h1,if_pos h1]
      ·rw[if_neg h1,if_neg h1];by_cases h2:bxi (C7 (some ii))=t
       ·right;rw[if_pos h2,if_pos h2]
       ·rw[if_neg h2,if_neg h2];rcases hX t with h|⟨h3,h4⟩|⟨h3,h4⟩
        ·left;rw[h];rfl
        ·rw[q3]at h3;exact absurd (Em h3) h1
        ·right;rw[h4]
theorem B0s{ops:Array Oper}{oi:Oper}{i:Nat}:∀(os:List Oper)(j0:Nat),A4i ops oi i j0 os=true→∀(n:Nat) o,os[n]?=some o→j0+n≠i→A5v o i=true∨oi.apart ops o=true
 |[],j0,_,n,o,h,_=>by simp at h
 |x::os,j0,hf,n,o,h,az=>by
  simp only[A4i,Bb,Hi]at hf;cases n with
  |zero=>
   simp at h;subst h;rcases hf.1 with h1|h1
   ·exact absurd ((F6 _ _).1 h1) (by simpa using az)
   ·exact h1
  |succ n=>exact B0s os (j0+1) hf.2 n o (by simpa using h) (by omega)
theorem B8d{ops:Array Oper}{m:Nat}{ds:List Nat}:∀(os:List Oper)(i k:Nat),mem k (flL ops m ds i os)=true→∃ o,i≤k∧os[k - i]?=some o∧(A00 ops m ds k o||tl1 ops m k o)=true
 |[],i,k,h=>by simp[flL,mem]at h
 |x::os,i,k,h=>by
  simp only[flL]at h;have am:mem k (flL ops m ds (i+1) os)=true→∃ o,i≤k∧(x::os)[k - i]?=some o∧(A00 ops m ds k o||tl1 ops m k o)=true:=fun h=>by
   obtain⟨o,h1,h2,h3⟩:=B8d os (i+1) k h;exact⟨o,by omega,by rw[show k - i=(k - (i+1))+1 by omega];simpa using h2,h3⟩
  cases hc:(A00 ops m ds i x||tl1 ops m i x)with
  |false=>rw[hc]at h;exact am h
  |true=>
   rw[hc]at h;simp only[cond_true]at h;rcases (mem_cons _ _ _).1 h with h1|h1
   ·subst h1;exact⟨x,Bh _,by simp,hc⟩
   ·exact am h1
theorem B75:∀{os:List Oper},A89 os=true→∀ o∈os,∀ cs b,o.op≠ .select cs b
 |[],_,o,h=>by cases h
 |x::os,h,o,ho=>by
  simp only[A89,Bb]at h;rcases Bn.1 ho with rfl|ho
  ·intro cs b he;have:=h.1;rw[he]at this;cases this
  ·exact B75 h.2 o ho
theorem B0k(hE:A0K P E B){ops:Array Oper}{md:Cv}{Q:Exit→Act→World→Prop}{m:Nat}{k:St Ty den→Option R}
  {fl:List Nat}(gv:∀(k:Nat) o,ops.toList[k]?=some o→(∀ e∈o.after,e.on<k)∧(m≤k→∀ listed:Array Bool,DC md ops listed→(∀ e∈o.after,Co md e=true→listed.getD e.on false=true)→∀ j,j<k→mem j fl=false→listed.getD j false=true))
  (tp:∀(k:Nat) o,ops.toList[k]?=some o→mem k fl=true→m≤k→(A2I o||A47 o)=true∧A4i ops o k (k+1) (ops.toList.drop (k+1))=true)(eC:∀(j:Nat)(o:Oper) cs b,ops[j]?=some o→o.op≠ .select cs b)
  (lp:∀ c a d v w,Q (.panic c) (Fv a d v) w→Q (.panic c) a w)
  (hk:∀ s' a' w',k s'=some r→REL E.U B s' a' w'→a'.tmps.size=E.nt→Q .normal a' w'):
  ∀(os:List Oper)(i:Nat)(s:St Ty den)(a:Act)(w:World)(fuel:Nat)(listed:Array Bool),ops.toList.drop i=os→listed.size=ops.size→listed.toList.count false≤fuel→(∀ j,listed.getD j false=true↔j<i)→m≤i→i≤ops.size→
   W8 E ops os s k=some r→REL E.U B s a w→a.tmps.size=E.nt→wpAny P md ops Q fuel listed a w
 |[],i,s,a,w,fuel,listed,iQ,aC,fx,hl,vT,xI,h,hr,dL=>by
  simp only[W8]at h;have hi:ops.size≤i:=by
   have:=congrArg Bi iQ;simp at this;omega
  have hQ:=hk s a w h hr dL;have fM:Cn md ops listed=[]:=by
   cases xJ:Cn md ops listed with
   |nil=>rfl
   |cons j l=>
    exfalso;have hj:j∈Cn md ops listed:=by rw[xJ];simp
    obtain⟨gw,o,ho,_⟩:=Dq.1 hj;have ll:=(Cp.1 ho).1;have:=(hl j).2 (by omega);have h1:j<listed.size:=by omega
    rw[Bo,Bu h1]at gw this;simp at gw this;rw[gw]at this;cases this
  cases fuel with
  |zero=>exact⟨fM,hQ⟩
  |succ fuel=>exact⟨fun _=>hQ,fun j hj=>by rw[fM]at hj;cases hj⟩
 |o::os,i,s,a,w,fuel,listed,iQ,aC,fx,hl,vT,xI,h,⟨g,hr⟩,dL=>by
  have nT:ops.toList[i]?=some o:=by
   have:=congrArg (fun l=>l[0]?) iQ;simpa using this
  have gy:ops[i]?=some o:=by simpa using nT
  have xK:i<ops.size:=(Cp.1 gy).1;have qj:ops.toList.drop (i+1)=os:=by
   have h1:ops.toList.drop (i+1)=(ops.toList.drop i).drop 1:=by rw[Ec]
   rw[h1,iQ];rfl
  have ke:DC md ops listed:=fun j oj hj gx e he _=>by
   have h1:=(hl j).1 hj;have h2:=(gv j oj (by simpa using gx)).1 e he;exact(hl _).2 (by omega)
  have gw:listed.getD i false=false:=by
   cases hc:listed.getD i false with
   |false=>rfl
   |true=>have:=(hl i).1 hc;omega
  have mK:i<listed.size:=by omega
  have gz:listed.getD i true=false∧listed.toList[i]?=some false:=by
   rw[Bo,Bu mK]at gw ⊢;simp at gw;simp[gw,mK]
  have cD:i∈Cn md ops listed:=by
   rw[Dq];exact⟨gz.1,o,gy,fun e he _=>(hl _).2 ((gv i o nT).1 e he)⟩
  have qk:mem i fl=false→∀ j∈Cn md ops listed,j=i:=by
   intro rT j hj;obtain⟨tq,oj,gx,tt⟩:=Dq.1 hj;have ll:=(Cp.1 gx).1;rcases Fc j i with h1|h1|h1
   ·have:=(hl j).2 h1;have h2:j<listed.size:=by omega
    rw[Bo,Bu h2]at tq this;simp at tq this;rw[tq]at this;cases this
   ·exact h1
   ·have:=(gv j oj (by simpa using gx)).2 (by omega) listed ke tt i h1 rT;rw[this]at gw;cases gw
  cases fuel with
  |zero=>
   have:=Fo.2 (Ca gz.2);omega
  |succ fuel=>
   cases rT:mem i fl with
   |true=>
    obtain⟨rK,fH⟩:=tp i o nT rT vT;simp only[W8]at h;obtain⟨aJ,h⟩:=C0 h;have hd:∀ i,o.dst=some i→i<a.tmps.size∧B.np≤i:=fun i hi=>by rw[dL];have:=A6K aJ i hi;exact⟨this.1,Dn hE.np this.2⟩
    have ql:o.guard=none:=by
     rcases Fq.1 rK with h5|h5
     ·simp only[A2I,Bb,Gt]at h5;exact h5.1
     ·simp only[A47,Bb,Gt]at h5;exact h5.1
    rw[ql]at h;dsimp only at h;obtain⟨v,hv⟩:∃ v,∀ w':World,(Ai a.eval o).run P w'=.ok (.value v) w':=by
     rcases Fq.1 rK with h5|h5
     ·simp only[A2I,Bb]at h5;obtain⟨_,h5⟩:=h5;split at h5
      ·rename_i t ak;exact⟨_,fun w'=>by simp[Ai,ak];rfl⟩
      ·cases h5
     ·simp only[A47,Bb]at h5;obtain⟨_,h5⟩:=h5;split at h5
      ·rename_i t ix ak;simp only[A9,ak]at h;split at h
       ·rename_i ls hx;split at h
        ·rename_i l fI;have he:=A2M hr 0 (.tmp t);rw[hx]at he;obtain⟨vs,xL,nh⟩:=he;obtain⟨v,ed,aq⟩:=nh.get fI;exact⟨v,fun w'=>by simp[Ai,ak,xL,Jr,ed]⟩
        ·cases h
       ·cases h
      ·cases h5
    have cY:∀(s':St Ty den)(a':Act)(w':World),W8 E ops os s' k=some r→REL E.U B s' a' w'→a'.tmps.size=E.nt→wpAny P md ops Q fuel (listed.setIfInBounds i true) a' w':=by
     intro s' a' w' h' ct il;refine B0k hE gv tp eC lp hk os (i+1) s' a' w' fuel _ qj (by simp[aC]) ?_ (fun x=>?_) (by omega) (by omega) h' ct il
     ·have:=A9i gz.2;rw[Fs];omega
     ·by_cases hx:i=x
      ·subst hx;simp[mK]
      ·rw[Ct false hx,hl];omega
    have ag:o.wp P a w (wpAny P md ops Q fuel (listed.setIfInBounds i true)) Q:=by
     refine A4I hE h hr hd ?_;intro e s' v w' ga bH;exact cY _ _ _ ga bH (by rw[Z4];exact dL)
    unfold En at ag;rw[hv w]at ag;refine wpAny_first gy eC (fun c a w h=>lp c a _ _ w h) fuel listed a w (fun j oj hj az lW cP=>?_) cD (.inl ⟨by simp[Bx,ql],hv⟩) ag;have ee:i<j:=by
     rcases Fc j i with h6|h6|h6
     ·have:=(hl j).2 h6;have h7:j<listed.size:=by have:=(Cp.1 hj).1;omega
      rw[Bo,Bu h7]at lW this;simp at lW this;rw[lW]at this;cases this
     ·exact absurd h6 az
     ·exact h6
    rcases B0s (ops.toList.drop (i+1)) (i+1) fH (j - (i+1)) oj (by rw[Jk,show i+1+(j - (i+1))=j by omega];simpa using hj) (by omega)with h6|h6
    ·obtain⟨e,he,dT,hb⟩:=A8C h6 md;exact absurd dT (cP e he hb)
    ·exact h6
   |false=>
   refine⟨fun hn=>by rw[hn]at cD;(cases cD),fun j hj=>?_⟩;have ee:=qk rT j hj;subst ee;simp only[W8]at h;obtain⟨aJ,h⟩:=C0 h;have hd:∀ i,o.dst=some i→i<a.tmps.size∧B.np≤i:=fun i hi=>by rw[dL];have:=A6K aJ i hi;exact⟨this.1,Dn hE.np this.2⟩
   have cY:∀(s':St Ty den)(a':Act)(w':World),W8 E ops os s' k=some r→REL E.U B s' a' w'→a'.tmps.size=E.nt→wpAny P md ops Q fuel (listed.setIfInBounds j true) a' w':=by
    intro s' a' w' h' ct il;refine B0k hE gv tp eC lp hk os (j+1) s' a' w' fuel _ qj (by simp[aC]) ?_ (fun x=>?_) (by omega) (by omega) h' ct il
    ·have:=A9i gz.2;rw[Fs];omega
    ·by_cases hx:j=x
     ·subst hx;simp[mK]
     ·rw[Ct false hx,hl];omega
   have run:∀(s1:St Ty den)(g1:Gh),Rel E.U B g1 s1 a w→A9 E o s1 (fun e s'=>W8 E ops os (s'.setO o.dst e) k)=some r→o.wp P a w (wpAny P md ops Q fuel (listed.setIfInBounds j true)) Q:=by
    intro s1 g1 cJ h1;refine A4I hE h1 cJ hd ?_;intro e s' v w' ga bH;exact cY _ _ _ ga bH (by rw[Z4];exact dL)
   have skip:∀(s1:St Ty den)(g1:Gh),Rel E.U B g1 s1 a w→W8 E ops os (s1.setO o.dst (.one (.val undef))) k=some r→wpAny P md ops Q fuel (listed.setIfInBounds j true) (a.put o.dst undef) w:=fun s1 g1 cJ h1=>
    cY _ _ _ h1 (REL.setO cJ (e:=.one (.val undef)) ⟨.val _,fun _ _ _ he=>by(cases he),fun _ _ he=>by(cases he)⟩ rfl o.dst hd) (by rw[Z4];exact dL)
   unfold wpOp;rw[gy];dsimp only;cases hg:o.guard with
   |none=>
    rw[hg]at h;rw[show Bx o (Ce ops a.tmps)=true by simp[Bx,hg],if_pos rfl];exact .inl (run s g hr h)
   |some jw=>
    obtain⟨jg,aL⟩:=jw;rw[hg]at h;dsimp only at h;cases qm:(ops[jg]?).bind (·.dst)with
    |none=>rw[qm]at h;cases h
    |some gd=>
     rw[qm]at h;dsimp only at h;split at h
     ·rename_i b lR;have ik:∀ c:Bool,b=c→Rel E.U B g (s.set gd (.one (.bool c))) a w:=fun c hc=>by
       have aK:=hr.ent gd;rw[lR]at aK;exact hr.setSame (e:=.one (.bool c)) (by rw[←hc];exact aK) rfl
      cases gV:(b==aL)with
      |true=>
       rw[gV]at h;rw[A7u hr (b:=true) (by simp only[Gd,hg];exact⟨gd,qm,.inl ⟨b,lR,gV.symm⟩⟩),if_pos rfl];exact .inl (run _ g (ik aL (by simpa using gV)) h)
      |false=>
       rw[gV]at h;rw[A7u hr (b:=false) (by simp only[Gd,hg];exact⟨gd,qm,.inl ⟨b,lR,gV.symm⟩⟩)];simp only[Hk,if_false];exact skip _ g (ik _ (by cases b<;>cases aL<;>simp_all)) h
     ·rename_i v p9;obtain⟨dZ,h⟩:=C0 h;rw[A7u hr (b:=false) (by simp only[Gd,hg];exact⟨gd,qm,.inr ⟨trivial,v,p9,dZ⟩⟩)];simp only[Hk,if_false];exact skip s g hr h
     ·cases h
theorem B8t:∀(os:List Oper)(i:Nat),match A0v i os with
  |none=>∀(j:Nat) o,os[j]?=some o→P9 o.op=false∨o.dst=none
  |some (ia,d,t)=>i≤ia∧(∃ o,os[ia - i]?=some o∧o.op=.alloc t∧o.dst=some d)∧∀(j:Nat) o,j<ia - i→os[j]?=some o→P9 o.op=false∨o.dst=none
 |[],i=>by simp[A0v]
 |x::os,i=>by
  have ih:=B8t os (i+1);have go:(P9 x.op=false∨x.dst=none)→A0v i (x::os)=A0v (i+1) os→(match A0v i (x::os)with
    |none=>∀(j:Nat) o,(x::os)[j]?=some o→P9 o.op=false∨o.dst=none
    |some (ia,d,t)=>i≤ia∧(∃ o,(x::os)[ia - i]?=some o∧o.op=.alloc t∧o.dst=some d)∧∀(j:Nat) o,j<ia - i→(x::os)[j]?=some o→P9 o.op=false∨o.dst=none):=by
   intro hx he;rw[he];cases ha:A0v (i+1) os with
   |none=>
    rw[ha]at ih;intro j o ho;cases j with
    |zero=>simp at ho;subst ho;exact hx
    |succ j=>exact ih j o (by simpa using ho)
   |some p=>
    obtain⟨ia,d,t⟩:=p;rw[ha]at ih;obtain⟨h1,⟨o,h2,h3,h4⟩,h5⟩:=ih;refine⟨by omega,⟨o,?_,h3,h4⟩,fun j o hj ho=>?_⟩
    ·rw[show ia - i=ia - (i+1)+1 by omega];simpa using h2
    ·cases j with
     |zero=>simp at ho;subst ho;exact hx
     |succ j=>exact h5 j o (by omega) (by simpa using ho)
  cases ak:x.op with
  |alloc t=>
   cases hd:x.dst with
   |none=>exact go (.inr hd) (by simp only[A0v,ak,hd])
   |some d=>
    simp only[A0v,ak,hd];exact⟨Bh _,⟨x,by simp,ak,hd⟩,fun j o hj=>by omega⟩
  |_=>exact go (.inl (by rw[ak];rfl)) (by simp only[A0v,ak])
theorem B81:∀{os:List Oper},A8L os=true→∀(j:Nat) o,os[j]?=some o→P9 o.op=false
 |[],_,j,o,h=>by simp at h
 |x::os,hn,j,o,h=>by
  simp only[A8L,Bb,Cd]at hn;cases j with
  |zero=>simp at h;subst h;exact hn.1
  |succ j=>exact B81 hn.2 j o (by simpa using h)
theorem B8i{ops:Array Oper}{i:Nat}:∀{os:List Oper},A7Y ops i os=true→∀(j:Nat) o,os[j]?=some o→mem i (o.looksAt ops)=false
 |[],_,j,o,h=>by simp at h
 |x::os,hn,j,o,h=>by
  simp only[A7Y,Bb,Cd]at hn;cases j with
  |zero=>simp at h;subst h;exact hn.1
  |succ j=>exact B8i hn.2 j o (by simpa using h)
theorem B7W:∀(os:List Oper),X0 E os≤os.length∧∀ o∈os.take (X0 E os),A0I E o=true
 |[]=>⟨Bh _,fun o h=>by simp at h⟩
 |x::os=>by
  obtain⟨h1,h2⟩:=B7W os;simp only[X0];cases hc:A0I E x with
  |false=>simp
  |true=>
   simp only[cond_true,Eb,Jg,Bn];refine⟨by omega,fun o ho=>?_⟩;rcases ho with rfl|ho
   ·exact hc
   ·exact h2 o ho
theorem B6t(hE:A0K P E B){ops:Array Oper}{md:Cv}{Q:Exit→Act→World→Prop}{m:Nat}{sF:St Ty den}
  (lV:∀ o∈ops.toList.take m,Ran E ops sF o)(bN:∀ o∈ops.toList,∀ d,o.dst=some d→d<1000000)(lN:Y6 (F3 ops.toList)=true)(eC:∀(j:Nat)(o:Oper) cs b,ops[j]?=some o→o.op≠ .select cs b)
  (lp:∀ c a d v w,Q (.panic c) (Fv a d v) w→Q (.panic c) a w){w:World}:
  ∀(pd:List Nat)(fuel:Nat)(listed:Array Bool)(a:Act),listed.size=ops.size→listed.toList.count false≤fuel→(∀ i∈pd,∃ o,ops.toList[i]?=some o∧A00 ops m (F3 (ops.toList.take m)) i o=true)→pd.Nodup→(∀ i∈pd,listed.getD i false=false)→
   REL E.U B (sF.dels (I1 listed (G0 0 (ops.toList.take m)))) a w→a.tmps.size=E.nt→
   (∀(fuel:Nat)(cT:Array Bool)(a':Act),cT.size=ops.size→cT.toList.count false≤fuel→(∀ j,cT.getD j false=true↔(listed.getD j false=true∨j∈pd))→REL E.U B (sF.dels (I1 cT (G0 0 (ops.toList.take m)))) a' w→a'.tmps.size=E.nt→wpAny P md ops Q fuel cT a' w)→
   wpAny P md ops Q fuel listed a w
 |[],fuel,listed,a,aC,fx,_,_,_,hr,dL,hK=>hK fuel listed a aC fx (fun j=>by simp) hr dL
 |i::pd,fuel,listed,a,aC,fx,bV,qn,gw,hr,dL,hK=>by
  obtain⟨o,nT,hp⟩:=bV i (by simp);simp only[A00,Bb]at hp;obtain⟨jz,ni,b8,fH,eW⟩:=hp;have jz:i<m:=by simpa [By]using jz
  have gy:ops[i]?=some o:=by simpa using nT
  have mK:i<listed.size:=by have:=(Cp.1 gy).1;omega
  have tu:=gw i (by simp);have gz:listed.getD i true=false∧listed.toList[i]?=some false:=by
   rw[Bo,Bu mK]at tu ⊢;simp at tu;simp[tu,mK]
  cases fuel with
  |zero=>
   have:=Fo.2 (Ca gz.2);omega
  |succ fuel=>
  simp only[A2I,Bb,Gt]at ni;obtain⟨ql,ni⟩:=ni;split at ni
  ·rename_i t ak;have eX:∀ e,e∉o.after:=fun e he=>by
    have:e∈o.after.toList:=by simpa using he
    cases hl:o.after.toList with
    |nil=>rw[hl]at this;cases this
    |cons y l=>rw[hl]at b8;cases b8
   have hv:∀ w':World,(Ai a.eval o).run P w'=.ok (.value (a.eval (.tmp t))) w':=fun w'=>by simp[Ai,ak]
   have cD:i∈Cn md ops listed:=by
    rw[Dq];exact⟨gz.1,o,gy,fun e he=>absurd he (eX e)⟩
   refine wpAny_first gy eC (fun c a w h=>lp c a _ _ w h) fuel listed a w (fun j oj hj az lW cP=>?_) cD (.inl ⟨by simp[Bx,ql],hv⟩) ?_
   ·rcases B0s ops.toList 0 fH j oj (by simpa using hj) (by omega)with h6|h6
    ·obtain⟨e,he,dT,hb⟩:=A8C h6 md;exact absurd dT (cP e he hb)
    ·exact h6
   ·have dq:∀ j,(listed.setIfInBounds i true).getD j false=true↔listed.getD j false=true∨j=i:=by
     intro j;by_cases cB:i=j
     ·subst cB;simp[mK]
     ·rw[Ct false cB];constructor
      ·exact fun h=>.inl h
      ·rintro(h|h)
       ·exact h
       ·exact absurd h.symm cB
    have pb:o∈ops.toList.take m:=by
     refine Ca (i:=i) ?_;rw[Cx,if_pos jz];exact nT
    have hR:=lV o pb;have hd:∀ d,o.dst=some d→d<a.tmps.size∧B.np≤d:=fun d hd=>by rw[dL];have:=A6K hR.dst d hd;exact⟨this.1,Dn hE.np this.2⟩
    obtain⟨g,hr⟩:=hr;have vU:=hr;generalize hX:sF.dels (I1 listed (G0 0 (ops.toList.take m)))=X at hr;have xM:X.get t=sF.get t:=by
     rw[←hX,Z5];cases eH:mem t (I1 listed (G0 0 (ops.toList.take m)))with
     |false=>rfl
     |true=>
      exfalso;obtain⟨j,hj,_⟩:=A0Z.1 eH;obtain⟨_,o',hY,dY⟩:=A16.1 hj;simp only[B9H,ak,Cd]at eW;have:mem t (F3 (ops.toList.take m))=true:=by
       have cL:=Ca hY;clear eW;generalize ops.toList.take m=os at cL
       induction os with
       |nil=>cases cL
       |cons x os ih=>
        rcases Bn.1 cL with rfl|h3
        ·exact A53 dY
        ·exact A5L (ih h3)
      rw[this]at eW;cases eW
    have qf:∀ d,X.get (bxi d)=sF.get (bxi d):=fun d=>by
     rw[←hX,Z5];cases eH:mem (bxi d) (I1 listed (G0 0 (ops.toList.take m)))with
     |false=>rfl
     |true=>
      obtain⟨j,hj,_⟩:=A0Z.1 eH;obtain⟨_,o',hY,dY⟩:=A16.1 hj;have:=bN o' (Er (Ca hY)) _ dY;exact absurd this (by show¬((1000000+d:Nat)<1000000);omega)
    have ki:Sees o sF X:=by
     refine⟨fun t' im=>?_,fun d ls bm=>by rw[A7m (qf d)];exact bm⟩;rw[ak]at im;simp only[Bl]at im;have:t'=t:=by simpa using im
     rw[this];exact xM
    have aK:∀ d,o.dst=some d→sF.get d=opd E X o.type (.tmp t):=fun d ln=>by
     rcases hR.ran with⟨_,⟨_,e,he,mL⟩|⟨lU,_⟩⟩|⟨eV,_⟩
     ·rw[he d ln];rcases mL X ki with h7|⟨⟨_,_,_,h7⟩,_⟩|⟨_,_,h7,_⟩
      ·simp only[A9,ak,Br,Cc]at h7;exact h7.1.symm
      ·rw[ak]at h7;cases h7
      ·rw[ak]at h7;cases h7
     ·simp only[Gd,ql]at lU;cases lU
     ·rw[ak]at eV;cases eV
    have kj:=REL.setO hr (A2M hr o.type (.tmp t)) (B3z _ _ _) o.dst hd;refine B6t hE lV bN lN eC lp pd fuel _ _ (by simp[aC]) ?_ (fun j hj=>bV j (by simp[hj])) (Jh.1 qn).2 (fun j hj=>?_) ?_ (by rw[Z4];exact dL) (fun qo cT a' h1 h2 h3 h4 h5=>hK qo cT a' h1 h2 (fun j=>?_) h4 h5)
    ·have:=A9i gz.2;rw[Fs];omega
    ·have ee:i≠j:=fun e=>(Jh.1 qn).1 (by rw[e];exact hj);rw[Ct false ee];exact gw j (by simp[hj])
    ·obtain⟨g',kj⟩:=kj;refine⟨g',kj.weaken (fun t'=>?_) (fun d aU=>by rw[A0W, ←hX];exact aU) (fun _ d _ _ h=>by rw[A0W, ←hX]at h;exact h)⟩;rw[Z5];cases eH:mem t' (I1 (listed.setIfInBounds i true) (G0 0 (ops.toList.take m)))with
     |true=>left;rfl
     |false=>
      right
      simp only[cond_false];rw[T8];by_cases ln:o.dst=some t'
      ·rw[if_pos ln];exact aK t' ln
      ·rw[if_neg ln, ←hX,Z5];cases lm:mem t' (I1 listed (G0 0 (ops.toList.take m)))with
       |false=>rfl
       |true=>
        exfalso;obtain⟨j,hj,hl⟩:=A0Z.1 lm;have ee:j≠i:=by
         rintro rfl;obtain⟨_,o',hY,dY⟩:=A16.1 hj;rw[Dl,Cx,if_pos jz,nT]at hY;cases hY;exact ln dY
        have:mem t' (I1 (listed.setIfInBounds i true) (G0 0 (ops.toList.take m)))=true:=A0Z.2 ⟨j,hj,by rw[Ct false (Ne.symm ee)];exact hl⟩;rw[this]at eH;cases eH
    ·rw[h3 j,dq j];simp only[Bn];constructor
     ·rintro((h|h)|h)
      ·exact .inl h
      ·exact .inr (.inl h)
      ·exact .inr (.inr h)
     ·rintro(h|h|h)
      ·exact .inl (.inl h)
      ·exact .inl (.inr h)
      ·exact .inr h
  ·cases ni
def M2(Q:Exit→Act→World→Prop):Exit→Act→World→Prop
 | .normal,a,w=>Q .normal a w
 |_,_,_=>False
theorem C05(hE:A0K P E B){Q:Exit→Act→World→Prop}(id:Nat)(ops:Array Oper)(s:St Ty den)(a:Act)(w:World)(k:St Ty den→Option R)
  (h:B0x E ops s k=some r)(hr:REL E.U B s a w)(aC:a.tmps.size=E.nt)
  (hk:∀ s' a' w',k s'=some r→REL E.U B s' a' w'→a'.tmps.size=E.nt→Q .normal a' w'):(Code.region id ops true).wp P Q a w:=by
 refine Jv (Q:=M2 Q) (fun e a w h=>by cases e<;>first|exact h|exact h.elim) ?_;have lp:∀ c a d v w,M2 Q (.panic c) (Fv a d v) w→M2 Q (.panic c) a w:=fun _ _ _ _ _ h=>h.elim;have hk:∀ s' a' w',k s'=some r→REL E.U B s' a' w'→a'.tmps.size=E.nt→M2 Q .normal a' w':=hk;generalize M2 Q=Q0 at lp hk ⊢;unfold B0x at h;obtain⟨cK,h⟩:=C0 h;obtain⟨nU,en⟩:=B7W (E:=E) ops.toList;generalize hm:X0 E ops.toList=m at h cK nU en;simp only[B9O,Bb]at cK;obtain⟨qp,iR,jL,nl,jN⟩:=cK;have eC:∀(j:Nat)(o:Oper) cs b,ops[j]?=some o→o.op≠ .select cs b:=fun j o cs b ho=>B75 jN o (Ca (i:=j) (by simpa using ho)) cs b;have bO:∀ j o,(ops.toList.take m)[j]?=some o→A8U E ops m j o:=fun j o ho=>by
  have:=B8M rfl qp j o ho;rwa [Ch]at this
 rw[A7i]at jL nl h iR;have lq:∀ k,mem k (flL ops m (F3 (ops.toList.take m)) 0 ops.toList)=true→∃ o,ops.toList[k]?=some o∧(A00 ops m (F3 (ops.toList.take m)) k o||tl1 ops m k o)=true:=fun k hk=>by
  obtain⟨o,_,h2,h3⟩:=B8d _ _ _ hk;rw[Dl]at h2;exact⟨o,h2,h3⟩
 generalize bV:flL ops m (F3 (ops.toList.take m)) 0 ops.toList=fl at iR lq;have bN:∀ o∈ops.toList,∀ d,o.dst=some d→d<1000000:=fun o ho d hd=>by
  have cS:∀(l:List Nat),A9T l=true→mem d l=true→d<1000000:=by
   intro l
   induction l with
   |nil=>intro _ h;cases h
   |cons x l ih=>
    intro h1 h2;simp only[A9T,Bb]at h1;rw[mem_cons]at h2;rcases h2 with rfl|h2
    ·simpa [By]using h1.1
    ·exact ih h1.2 h2
  refine cS _ nl ?_;clear h jL nl qp iR bO en nU hm lq bV jN;generalize ops.toList=os at ho
  induction os with
  |nil=>cases ho
  |cons x os ih=>
   rcases Bn.1 ho with rfl|ho
   ·exact A53 hd
   ·exact A5L (ih ho)
 have nV:Y6 (F3 (ops.toList.take m))=true:=by
  have cS:∀(os:List Oper)(m:Nat),Y6 (F3 os)=true→Y6 (F3 (os.take m))=true:=by
   intro os
   induction os with
   |nil=>intro m h;simpa using h
   |cons x os ih=>
    intro m h;cases m with
    |zero=>rfl
    |succ m=>
     simp only[Jg,F3]at h ⊢;cases hd:x.dst with
     |none=>rw[hd]at h;exact ih m h
     |some d=>
      rw[hd]at h;simp only[Y6,Bb,Cd]at h ⊢;refine⟨?_,ih m h.2⟩;cases vV:mem d (F3 (os.take m))with
      |false=>rfl
      |true=>
       obtain⟨y,hy,nM⟩:=B4t vV;have:mem d (F3 os)=true:=by
        have vW:=Er hy;clear ih h vV hy
        induction os with
        |nil=>cases vW
        |cons z os xN=>
         rcases Bn.1 vW with rfl|h3
         ·exact A53 nM
         ·exact A5L (xN h3)
       rw[h.1]at this;cases this
  exact cS _ m jL
 have gv:∀ md,∀(k:Nat) o,ops.toList[k]?=some o→(∀ e∈o.after,e.on<k)∧(m≤k→∀ listed:Array Bool,DC md ops listed→(∀ e∈o.after,Co md e=true→listed.getD e.on false=true)→∀ j,j<k→mem j fl=false→listed.getD j false=true):=fun md k o ho=>by
  have:=B9M (md:=md) (ops:=ops) (m:=m) (fl:=fl) ops.toList 0 [] rfl (fun j o hj=>by rw[Ch];exact hj) iR (fun _ _ k c h=>by simp at h) k o ho;rw[Ch]at this;exact this
 obtain⟨sF,⟨h1,cP⟩,h2,h3,h4⟩:=B8g ops (by rw[hm]) en (fun o ho=>bN o (Er ho)) (ops.toList.take m) _ _ (fun _ h=>h) (B7n (m:=m) bO (ops.toList.take m) 0 (fun j o hj=>by rw[Ch];exact hj) nV) h;have tv:∃ al:Option (Nat×Nat×List (Leaf Ty den)),B9s P E ops m sF al∧W8 E ops (ops.toList.drop m) (match al with|none=>sF|some (_,i,zs)=>T3 i zs sF) k=some r:=by
  have iS:=B8t (ops.toList.take m) 0;cases vX:A0v 0 (ops.toList.take m)with
  |none=>
   rw[vX]at h1 iS;refine⟨none,fun j o hj ho=>?_,h1⟩;have mL:(ops.toList.take m)[j]?=some o:=by rw[Cx,if_pos hj];exact ho
   rcases iS j o mL with h5|h5
   ·exact h5
   ·cases qi:P9 o.op with
    |false=>rfl
    |true=>
     have:=en o (Ca mL);simp only[A0I,A4s,qi,h5,mbO,Jz,Jy]at this;exact absurd (A5W this) (by rw[qi];simp)
  |some p=>
   obtain⟨ia,i,t⟩:=p;rw[vX]at h1 iS;dsimp only at h1 iS;obtain⟨_,⟨o,h5,h6,h7⟩,h8⟩:=iS;rw[Dl]at h5 h8;have qt:ia<m:=by
    have:=J7 h5;simp at this;omega
   have oY:ops.toList[ia]?=some o:=by rw[Cx,if_pos qt]at h5;exact h5
   split at h1
   ·rename_i zs et;obtain⟨hc,h1⟩:=C0 h1;simp only[Bb,Cd,By]at hc;obtain⟨c1,c2,c3,c4,c5,c6⟩:=hc;refine⟨some (ia,i,zs),⟨t,⟨o,oY,h6,h7,?_⟩,qt,et,c3,c6,c4,fun j=>B1o _ _ c5 j,bN o (Ca oY) i h7,fun j oj hj gx pe=>?_,fun j oj hj gx=>?_⟩,h1⟩
    ·have:=en o (Ca h5);have dg:U8 E o=false:=by
      cases hp:U8 E o with
      |false=>rfl
      |true=>have:=A5W hp;rw[h6]at this;cases this
     simp only[A0I,dg,Hj,A4s,Bb]at this;simpa using this.2.1
    ·have mL:(ops.toList.take m)[j]?=some oj:=by rw[Cx,if_pos hj];exact gx
     rcases Fc j ia with h9|h9|h9
     ·rcases h8 j oj h9 mL with fh|fh
      ·rw[fh]at pe;cases pe
      ·have:=en oj (Ca mL);simp only[A0I,A4s,pe,fh,mbO,Jz,Jy]at this;exact absurd (A5W this) (by rw[pe];simp)
     ·exact h9
     ·have:=B81 c1 (j - (ia+1)) oj (by rw[Jk,show ia+1+(j - (ia+1))=j by omega];exact mL);rw[this]at pe;cases pe
    ·exact B8i c2 j oj (by rw[Cx,if_pos hj];exact gx)
   ·cases h1
 obtain⟨al,eV,hT⟩:=tv;obtain⟨g,hr⟩:=hr;have cJ:REL E.U B (stL al (Bt ops.size false) (sF.dels (I1 (Bt ops.size false) (G0 0 (ops.toList.take m))))) a {w with drawn:=w.drawn+1}:=by
  have bL:stL al (Bt ops.size false) (sF.dels (I1 (Bt ops.size false) (G0 0 (ops.toList.take m))))=sF.dels (I1 (Bt ops.size false) (G0 0 (ops.toList.take m))):=by
   cases al with
   |none=>rfl
   |some p=>
    obtain⟨ia,i,zs⟩:=p;have:(Bt ops.size false).getD ia false=false:=by
     rw[Bo,Hm];split<;>rfl
    simp only[stL,this,cond_false]
  rw[bL];have cO:=hr.drew hE.U;refine⟨g,Rel.weaken cO (fun i=>?_) (fun d hd=>?_) (fun i d ls _ hd=>by
   show mem d sF.live=true;have h5:sF.live=s.live:=h2;rw[h5];exact hd)⟩
  ·rw[Z5];have cD:mem i (I1 (Bt ops.size false) (G0 0 (ops.toList.take m)))=mem i (F3 (ops.toList.take m)):=by
    rw[←A7i (ops.toList.take m) 0];generalize G0 0 (ops.toList.take m)=ps
    induction ps with
    |nil=>rfl
    |cons p ps ih=>
     obtain⟨d,j⟩:=p;have:(Bt ops.size false).getD j false=false:=by
      rw[Bo,Hm];split<;>rfl
     simp only[I1,this,cond_false,mem,Hc,ih]
   rw[cD];cases lm:mem i (F3 (ops.toList.take m))with
   |true=>left;rfl
   |false=>
    right
    simp only[cond_false];rw[h3 i lm,Z5,lm];rfl
  ·have h5:sF.live=s.live:=h2;have h6:(sF.dels (I1 (Bt ops.size false) (G0 0 (ops.toList.take m)))).live=sF.live:=rfl;rw[h6,h5]at hd;exact hd
 have qu:m≤ops.size:=by simpa using nU
 have kg:∀ i,(Bt ops.size false).getD i false=false:=fun i=>by
  rw[Bo,Hm];split<;>rfl
 have qv:∀(listed:Array Bool)(X:St Ty den),(∀ j,listed.getD j false=true→j∈(Fe m).filter fun i=>mem i fl)→stL al listed X=X:=fun listed X hl=>by
  cases al with
  |none=>rfl
  |some p=>
   obtain⟨ia,i,zs⟩:=p;obtain⟨t,hA⟩:=eV;have:listed.getD ia false=false:=by
    cases mJ:listed.getD ia false with
    |false=>rfl
    |true=>
     exfalso;have h5:=hl ia mJ;simp only[Fh,Fg]at h5;obtain⟨o,h6,h7⟩:=lq ia h5.2;obtain⟨oa,q1,q2,_⟩:=hA.op;have xO:oa=o:=by rw[q1]at h6;exact Em h6
     subst xO;have db:A2I oa=false:=by
      unfold A2I;split
      ·rename_i t he;rw[he]at q2;cases q2
      ·simp
     have aN:A47 oa=false:=by
      unfold A47;split
      ·rename_i t he;rw[he]at q2;cases q2
      ·simp
     simp[A00,tl1,db,aN]at h7
   simp only[stL,this,cond_false]
 have mM:∀ i,i∈(Fe m).filter (fun i=>mem i fl)→∃ o,ops.toList[i]?=some o∧A00 ops m (F3 (ops.toList.take m)) i o=true:=fun i hi=>by
  simp only[Fh,Fg]at hi;obtain⟨o,h6,h7⟩:=lq i hi.2;refine⟨o,h6,?_⟩;rcases Fq.1 h7 with h8|h8
  ·exact h8
  ·exfalso;simp only[tl1,Bb]at h8;have:=Nat.le_of_ble_eq_true h8.1;omega
 have nW:=fun md=>B6t (B:=B) (md:=md) (Q:=Q0) hE h4 bN jL eC lp ((Fe m).filter fun i=>mem i fl) ops.size (Bt ops.size false) a (by simp) (by simp) mM (List.nodup_range.filter _) (fun i _=>kg i) (by
   have:=cJ;rw[qv _ _ (fun j hj=>by rw[kg]at hj;cases hj)]at this;exact this) aC (fun qw lX a0 tx qx di vU tz=>
  C6E (B:=B) (md:=md) (Q:=Q0) (fl:=fl) hE qu bO h4 cP jL bN eV (gv md) (fun fuel listed a' w' bm fx hl ct il=>
   B0k hE (gv md) (fun k o ho xP Ac=>by
    obtain⟨o',h6,h7⟩:=lq k xP;rw[ho]at h6;cases h6;rcases Fq.1 h7 with h8|h8
    ·exfalso;simp only[A00,Bb,By]at h8;omega
    ·simp only[tl1,Bb]at h8;exact h8.2) eC lp hk (ops.toList.drop m) m (stL al listed sF) a' w' fuel listed rfl bm fx hl (Bh _) qu (by
    cases al with
    |none=>exact hT
    |some p=>
     obtain⟨ia,i,zs⟩:=p;obtain⟨t,hA⟩:=eV;simp only[stL,(hl ia).2 hA.lt,cond_true];exact hT) ct il) qw lX a0 _ tx qx (fun i o hi ho e he _=>by
    rcases (di i).1 hi with h5|h5
    ·rw[kg]at h5;cases h5
    ·obtain⟨o',h6,h7⟩:=mM i h5;have oY:ops.toList[i]?=some o:=by simpa using ho
     rw[oY]at h6;cases h6;simp only[A00,Bb]at h7;exfalso;have h8:e∈o.after.toList:=by simpa using he
     have h9:=h7.2.2.1;cases hl:o.after.toList with
     |nil=>rw[hl]at h8;cases h8
     |cons y l=>rw[hl]at h9;cases h9) (fun i hi=>by
    rcases (di i).1 hi with h5|h5
    ·rw[kg]at h5;cases h5
    ·simp only[Fh,Fg]at h5;exact h5.1) (fun j hj tg=>(di j).2 (.inr (by simp only[Fh,Fg];exact⟨hj,tg⟩))) (by
    rw[qv _ _ (fun j hj=>by
     rcases (di j).1 hj with h5|h5
     ·rw[kg]at h5;cases h5
     ·exact h5)]
    exact vU) tz)
 refine wp_region_draw fun t=>?_;unfold Region.schedule;split
 ·exact Fx _ _ _ _ _ (nW .any)
 ·split
  ·exact Fx _ _ _ _ _ (nW .text)
  ·exact Fx _ _ _ _ _ (nW .gc)
end
end Go.Aev
end
section
open Go.Lib
namespace Go.Aev
variable {Ty:Type}{den:Ty→Type}
section
variable {E:Env Ty den}{B:Bs}{g:Gh}{s:St Ty den}{a:Act}{w:World}
variable {P:Bj}{R:Type}{o:Oper}{k:Ent Ty den→St Ty den→Option R}{r:R}{next:Act→World→Prop}{Q:Exit→Act→World→Prop}
def B8Q:Ex→Exit
 | .normal=>.normal
 | .exit id=>.exit id
 | .ret=>.ret
def B3q(E:Env Ty den)(B:Bs)(k:Ex→St Ty den→Option R)(r:R)(Q:Exit→Act→World→Prop):Prop:=
 ∀ e s a w,k e s=some r→REL E.U B s a w→a.tmps.size=E.nt→Q (B8Q e) a w
theorem B6E{c:Code}{body:St Ty den→(Ex→St Ty den→Option R)→Option R}
  (mN:∀(s:St Ty den)(a:Act)(w:World)(k:Ex→St Ty den→Option R)(Q:Exit→Act→World→Prop),body s k=some r→REL E.U B s a w→a.tmps.size=E.nt→B3q E B k r Q→c.wp P Q a w):
  ∀(n:Nat)(s:St Ty den)(a:Act)(w:World)(k:Ex→St Ty den→Option R)(Q:Exit→Act→World→Prop),C9 body n s k=some r→REL E.U B s a w→a.tmps.size=E.nt→B3q E B k r Q→
   ∀(b:Frame)(kk:List Item)(cs:List Frame),∃ e a' w',Q e a' w'∧Arrives P (lone (b.at a (.code c::.inLoop c::kk)) cs w) b kk cs e a' w'
 |0,s,a,w,k,Q,h,hr,aC,hm,b,kk,cs=>by cases h
 |n+1,s,a,w,k,Q,h,hr,aC,hm,b,kk,cs=>by
  simp only[C9]at h;have h1:=mN s a w _ (fun e a' w'=>match e with
   | .normal=>∀(b:Frame)(kk:List Item)(cs:List Frame),∃ e vY qy,Q e vY qy∧Arrives P (lone (b.at a' (.code c::.inLoop c::kk)) cs w') b kk cs e vY qy
   |e=>Q e a' w') h hr aC (fun e s' a' w' hk ct bX=>by
    cases e with
    |normal=>exact B6E mN n s' a' w' k Q hk ct bX hm
    |exit id=>exact hm _ _ _ _ hk ct bX
    |ret=>exact hm _ _ _ _ hk ct bX)
  obtain⟨e,a₁,w₁,hq,cd⟩:=h1 b (.inLoop c::kk) cs;cases e with
  |normal=>
   obtain⟨e₂,a₂,w₂,xQ,qz⟩:=hq b kk cs;exact⟨e₂,a₂,w₂,xQ,.of_steps (Steps.trans cd (.one step_inLoop)) qz⟩
  |exit id=>exact⟨_,a₁,w₁,hq,.pass (x:=.inLoop c) rfl (fun _ _=>.inl (by simp)) cd⟩
  |goto l=>exact⟨_,a₁,w₁,hq,.pass (x:=.inLoop c) rfl (fun _ _=>.inl (by simp)) cd⟩
  |ret=>exact⟨_,a₁,w₁,hq,.pass (x:=.inLoop c) rfl (fun _ _=>.inl (by simp)) cd⟩
  |panic ch=>exact⟨_,a₁,w₁,hq,.pass (x:=.inLoop c) rfl (fun _ _=>.inl (by simp)) cd⟩
  |outgrown=>exact⟨_,a₁,w₁,hq,.pass (x:=.inLoop c) rfl (fun _ _=>.inl (by simp)) cd⟩
theorem B4j(hE:A0K P E B)(n:Nat):∀(c:Code)(s:St Ty den)(a:Act)(w:World)(k:Ex→St Ty den→Option R)(Q:Exit→Act→World→Prop),B1 E n c s k=some r→REL E.U B s a w→a.tmps.size=E.nt→B3q E B k r Q→c.wp P Q a w:=by
 intro c
 induction c with
 |skip=>intro s a w k Q h hr aC hm;exact wp_skip (hm .normal s a w h hr aC)
 |region id ops tA=>
  intro s a w k Q h hr aC hm;cases tA with
  |true=>
   simp only[B1]at h;exact C05 hE id ops s a w _ h hr aC (fun s' a' w' hk ⟨g',ct⟩ bX=>hm .normal _ _ _ hk ⟨g',ct.clean _⟩ bX)
  |false=>
   simp only[B1]at h;exact wp_region_list (A6F hE ops ops.toList s a w _ h hr aC (fun s' a' w' hk ⟨g',ct⟩ bX=>hm .normal _ _ _ hk ⟨g',ct.clean _⟩ bX))
 |seq x y qb tB=>
  intro s a w k Q h hr aC hm;simp only[B1]at h;refine wp_seq (qb s a w _ _ h hr aC ?_);intro e s' a' w' hk ct bX;cases e with
  |normal=>exact tB s' a' w' k Q hk ct bX hm
  |exit id=>exact hm _ _ _ _ hk ct bX
  |ret=>exact hm _ _ _ _ hk ct bX
 |cond c x y qb tB=>
  intro s a w k Q h hr aC hm;obtain⟨g,hr⟩:=hr;simp only[B1]at h;split at h
  ·rename_i t hc;have vZ:=A5w hr hc;cases t with
   |true=>exact wp_cond_true vZ (qb s a w k Q h ⟨g,hr⟩ aC hm)
   |false=>exact wp_cond_false vZ (tB s a w k Q h ⟨g,hr⟩ aC hm)
  ·cases h
 |block id c ih=>
  intro s a w k Q h hr aC hm;simp only[B1]at h;refine wp_block (ih s a w _ _ h hr aC ?_);intro e s' a' w' hk ct bX;cases e with
  |normal=>exact hm .normal _ _ _ hk ct bX
  |ret=>exact hm .ret _ _ _ hk ct bX
  |exit j=>
   simp only[A8]at hk;simp only[B8Q,Exit.inBlock];cases hj:Bg j id with
   |true=>
    rw[hj]at hk;rw[if_pos ((F6 j id).1 hj)];exact hm .normal _ _ _ hk ct bX
   |false=>
    rw[hj]at hk;rw[if_neg (fun e=>by rw[(F6 j id).2 e]at hj;cases hj)];exact hm (.exit j) _ _ _ hk ct bX
 |loop c ih=>
  intro s a w k Q h hr aC hm;simp only[B1]at h;intro b kk cs;obtain⟨g,hr⟩:=hr;obtain⟨e,a',w',hq,cd⟩:=B6E (c:=c) (fun s a w k Q h hr aC hm=>ih _ a w _ Q h hr aC (fun e s' a' w' hk ⟨g',ct⟩ bX=>by
   cases e with
   |normal=>exact hm .normal _ _ _ hk ⟨g',ct.clean _⟩ bX
   |exit id=>exact hm _ _ _ _ hk ⟨g',ct⟩ bX
   |ret=>exact hm _ _ _ _ hk ⟨g',ct⟩ bX)) n _ a w k Q h ⟨g,hr.clean _⟩ aC hm b kk cs
  exact⟨e,a',w',hq,.of_steps (.one step_loop) cd⟩
 |exit id=>intro s a w k Q h hr aC hm;exact wp_exit (hm (.exit id) s a w h hr aC)
 |ret=>intro s a w k Q h hr aC hm;exact wp_ret (hm .ret s a w h hr aC)
 |rangeFunc f p x y=>intro s a w k Q h;simp only[B1]at h;cases h
 |scope c=>intro s a w k Q h;simp only[B1]at h;cases h
 |label l=>intro s a w k Q h;simp only[B1]at h;cases h
 |goto l=>intro s a w k Q h;simp only[B1]at h;cases h
 |refuse wy=>intro s a w k Q h;simp only[B1]at h;cases h
end
end Go.Aev
end
section
open Go.Lib
namespace Go.Aev
variable {Ty:Type}{den:Ty→Type}
section
variable {U:UO Ty den}{B:Bs}{g:Gh}{s:St Ty den}{a:Act}{w:World}
variable {E:Env Ty den}{P:Bj}
theorem A1L:∀(ls:List (Leaf Ty den))(k i:Nat),look (A22 k ls) i=if h:k≤i∧i - k<ls.length then .one ls[i - k]else .one .any
 |[],k,i=>by simp[A22,look]
 |l::ls,k,i=>by
  simp only[A22,look];by_cases h:k=i
  ·subst h;simp[H4]
  ·rw[L2 h];simp only[cond_false];rw[A1L ls (k+1) i];by_cases h1:k+1≤i∧i - (k+1)<ls.length
   ·rw[dif_pos h1,dif_pos (by simp;omega)]
    congr 1
    have:i - k=(i - (k+1))+1:=by omega
    simp[this]
   ·rw[dif_neg h1,dif_neg (by simp;omega)]
structure A9I(P:Bj)(E:Env Ty den)(I:Inv):Prop where
 U:E.U.Ok
 tb:∀ t,S3 P E.U t (E.tb t)
 zr:∀ t zs,E.zr t=some zs→A48 P E.U t zs
 T:∀ f ls r,E.T f ls=some (true,r)→(∀ args w,(Cf f args).run P w=.ok (.enter f args) w)∧A1R P E.U I f ls r
 TB:∀ f ls cs rs av,E.TB f ls cs=some (rs,av)→(∀ args w,(Cf f args).run P w=.ok (.enter f args) w)∧X9 P E.U I f ls cs rs av
 TI:∀(w:World)(m:Nat→Nat),I w m→∀ nm ls cs rs av,E.TI nm ls cs=some (rs,av)→A6S P E.U ⟨w,m,fun _=>False,0,fun _=>undef⟩ nm ls cs rs av
 TR:∀ f ls cs rs,E.TR f ls cs=some rs→(∀ args w,(Cf f args).run P w=.ok (.enter f args) w)∧X9 P E.U I f ls cs rs cs
 mono:∀ w m w' m',I w m→Ext w m w' m'→I w' m'
theorem E7{I:Inv}(fy:A9I P E I){f:Cb}{fn:Func}(hf:P.funcs[f]?=some fn)(dL:E.nt=fn.ntmps)(eZ:∀ args w,(Cf f args).run P w=.ok (.enter f args) w)
  {S:List (Leaf Ty den)→Option (Ent Ty den)}(hS:∀ ls r,S ls=some r→∃ n,A2 E n fn ls=some r):Sound P E.U I f S:=by
 refine⟨eZ,fun ls r bm w g vs hI hz aq dA db=>?_⟩;have hE:A0K P E ⟨w,g.wm,fun b=>R9 ls=true∧spare (g.G 0)=some b,0,fun _=>undef⟩:=⟨fy.U,Cg _,fy.tb,fy.zr,fun f' bh r' h'=>by
  obtain⟨h1,h2⟩:=fy.T f' bh r' h';exact⟨h1,fun w1 g1 dE hx=>h2 w1 g1 dE (fy.mono _ _ _ _ hI hx)⟩,fun f' bh ek kn lH h'=>by
  obtain⟨h1,h2⟩:=fy.TB f' bh ek kn lH h';exact⟨h1,fun w1 g1 dE fA hx=>h2 w1 g1 dE fA (fy.mono _ _ _ _ hI hx)⟩,fun nm bh ek kn lH h'=>by
  have:=fy.TI _ _ hI nm bh ek kn lH h';exact this,fun f' bh ek kn h'=>by
  obtain⟨h1,h2⟩:=fy.TR f' bh ek kn h';exact⟨h1,fun w1 g1 dE fA hx=>h2 w1 g1 dE fA (fy.mono _ _ _ _ hI hx)⟩⟩
 obtain⟨n,hn⟩:=hS ls r bm;unfold A2 at hn;cases hb:fn.body with
 |none=>rw[hb]at hn;cases hn
 |some c=>
  rw[hb]at hn;obtain⟨aQ,hn⟩:=C0 hn;have aQ:ls.length≤E.nt:=by simpa [Gw]using aQ
  have au:=aq.length;refine calls_of_wp hf hb ?_;refine B4j (B:=⟨w,g.wm,fun b=>R9 ls=true∧spare (g.G 0)=some b,0,fun _=>undef⟩) hE n c _ _ _ _ _ hn ⟨g,?_⟩ (by simp;omega) ?_
  ·refine{os:=rfl,tape:=rfl,output:=rfl,size:=Bh _,frame:=fun b _ _=>⟨rfl,rfl⟩,ext:=Ext.refl _ _,zero:=hz,ent:=fun i=>?_,tip:=fun d hd=>?_,disj:=fun d e b hd he az=>?_,mine:=fun d b hd hs=>?_,iter:=fun i c p h=>?_,idis:=fun i j c p c' p' _ h=>?_,defers:=rfl,bxl:=fun i d l h=>?_,pin:=fun i hi=>absurd hi (Nat.not_lt_zero i)}
   ·simp only[A2m,St.get,A1L,Cg,Dl,true_and];split
    ·rename_i hi;obtain⟨v,hv,co⟩:=aq.get (Bz hi);have aT:i<vs.length:=by omega
     have:(vs.toArray++Bt (fn.ntmps - vs.toArray.size) undef).getD i undef=v:=by
      rw[Bo,Ft (by simpa using aT)];simp[hv]
     rw[this];exact co
    ·exact ERep.any _ _ _
   ·simp only[A2m]at hd;cases ho:R9 ls with
    |false=>rw[ho]at hd;cases hd
    |true=>
     rw[ho]at hd;simp only[cond_true,mem_cons]at hd;rcases hd with rfl|hd
     ·exact dA ho
     ·cases hd
   ·simp only[A2m]at hd he;cases ho:R9 ls with
    |false=>rw[ho]at hd;cases hd
    |true=>
     rw[ho]at hd he;simp only[cond_true,mem_cons]at hd he;rcases hd with rfl|hd
     ·rcases he with rfl|he
      ·exact absurd rfl az
      ·cases he
     ·cases hd
   ·simp only[A2m]at hd;cases ho:R9 ls with
    |false=>rw[ho]at hd;cases hd
    |true=>
     rw[ho]at hd;simp only[cond_true,mem_cons]at hd;rcases hd with rfl|hd
     ·exact .inr ⟨rfl,hs⟩
     ·cases hd
   ·simp only[A2m,St.get,A1L]at h;split at h<;>cases h
   ·simp only[A2m,St.get,A1L]at h;split at h<;>cases h
   ·simp only[A2m,St.get,A1L]at h;split at h<;>cases h
  ·intro e s' a' w' hk ⟨g',ct⟩ bX;have fin:A7k E fn.results.toList s'=some r→a'.defers=[]∧∃ v,(results fn a'.tmps).run P w'=.ok v w'∧(fun e w'=>∃ v g',e=Ju v∧Post E.U ⟨w,g.wm,fun b=>R9 ls=true∧spare (g.G 0)=some b,0,fun _=>undef⟩ g' r v w') (.returned v) w':=fun hp=>by
    obtain⟨v,h1,g2,h2⟩:=C0V (P:=P) hE.tb hE.U hp ct;exact⟨ct.defers,v,h1,v,g2,rfl,h2⟩
   cases e with
   |normal=>exact fin hk
   |ret=>exact fin hk
   |exit id=>cases hk
theorem A6D{d:Nat}:∀{ls:List (Leaf Ty den)},mem d (A0x ls)=true→M7 ls d
 |[],h=>by cases h
 |l::ls,h=>by
  have lY:mem d (A0x ls)=true→M7 (l::ls) d:=fun h=>by
   obtain⟨lf,h1,h2⟩:=A6D h;exact⟨lf,by simp[h1],h2⟩
  cases l with
  |sl t x o=>
   cases o with
   |none=>exact lY h
   |some e=>
    simp only[A0x,mem_cons]at h;rcases h with h|h
    ·exact⟨.sl t x (some e),by simp,by simp[Leaf.has,h,H4]⟩
    ·exact lY h
  |ptr e o=>
   simp only[A0x,mem_cons]at h;rcases h with h|h
   ·exact⟨.ptr e o,by simp,by simp[Leaf.has,h,H4]⟩
   ·exact lY h
  |_=>exact lY h
theorem B4l{d:Nat}:∀{ls:List (Leaf Ty den)},M7 ls d→mem d (A0x ls)=true
 |[],⟨lf,h,_⟩=>by simp at h
 |l::ls,⟨lf,h,hd⟩=>by
  simp only[Bn]at h;rcases h with rfl|h
  ·rcases (Leaf.has_iff d _).1 hd with⟨t,x,rfl⟩|⟨o,rfl⟩
   ·exact(mem_cons _ _ _).2 (.inl rfl)
   ·exact(mem_cons _ _ _).2 (.inl rfl)
  ·have ih:=B4l ⟨lf,h,hd⟩;cases l with
   |sl t x o=>
    cases o with
    |none=>exact ih
    |some e=>simp only[A0x,mem_cons];exact .inr ih
   |ptr e o=>simp only[A0x,mem_cons];exact .inr ih
   |_=>exact ih
theorem A86:∀(rs:List ResultVar)(j:Nat)(s:St Ty den),(∀ c d,(c,d)∈E8 j s rs→c≤j+rs.length∧mem d (J0 s rs).live=false)∧(∀ e,mem e (J0 s rs).live=true→mem e s.live=true)
 |[],j,s=>⟨fun c d h=>by simp[E8]at h,fun _ h=>h⟩
 | .cell _ _::r,j,s=>by
  obtain⟨h1,h2⟩:=A86 r (j+1) s;simp only[E8,J0];exact⟨fun c d h=>by obtain⟨k1,k2⟩:=h1 c d h;exact⟨by simp only[Eb];omega,k2⟩,h2⟩
 | .tmp t::r,j,s=>by
  have skip:∀(s':St Ty den),(∀ e,mem e s'.live=true→mem e s.live=true)→E8 j s (.tmp t::r)=E8 (j+1) s' r→J0 s (.tmp t::r)=J0 s' r→
    (∀ c d,(c,d)∈E8 j s (.tmp t::r)→c≤j+(ResultVar.tmp t::r).length∧mem d (J0 s (.tmp t::r)).live=false)∧(∀ e,mem e (J0 s (.tmp t::r)).live=true→mem e s.live=true):=by
   intro s' hl he hS;obtain⟨h1,h2⟩:=A86 r (j+1) s';rw[he,hS];exact⟨fun c d h=>by obtain⟨k1,k2⟩:=h1 c d h;exact⟨by simp only[Eb];omega,k2⟩,fun e h=>hl e (h2 e h)⟩
  cases hg:s.get t with
  |one l=>
   cases l with
   |sl t0 x o=>
    cases o with
    |none=>exact skip s (fun _ h=>h) (by simp only[E8,hg]) (by simp only[J0,hg])
    |some d=>
     cases hm:mem d s.live with
     |false=>exact skip (s.kill d) (fun _ h=>(A2s.1 h).1) (by simp only[E8,hg,hm,cond_false]) (by simp only[J0,hg])
     |true=>
      obtain⟨h1,h2⟩:=A86 r (j+1) (s.kill d);have he:E8 j s (.tmp t::r)=(bif Bg d 0 then 0 else j+1,d)::E8 (j+1) (s.kill d) r:=by simp only[E8,hg,hm,cond_true]
      have hS:J0 s (.tmp t::r)=J0 (s.kill d) r:=by simp only[J0,hg]
      rw[he,hS];refine⟨fun c d' h=>?_,fun e h=>(A2s.1 (h2 e h)).1⟩;simp only[Bn,Cc]at h;rcases h with⟨rfl,rfl⟩|h
      ·refine⟨?_,?_⟩
       ·cases Bg d' 0<;>simp only[cond_true,cond_false,Eb]<;>omega
       ·cases h5:mem d' (J0 (s.kill d') r).live with
        |false=>rfl
        |true=>exact absurd rfl (A2s.1 (h2 _ h5)).2
      ·obtain⟨k1,k2⟩:=h1 c d' h;exact⟨by simp only[Eb];omega,k2⟩
   |_=>exact skip s (fun _ h=>h) (by simp only[E8,hg]) (by simp only[J0,hg])
  |tup ls=>exact skip s (fun _ h=>h) (by simp only[E8,hg]) (by simp only[J0,hg])
  |st ls=>exact skip s (fun _ h=>h) (by simp only[E8,hg]) (by simp only[J0,hg])
  |iter c p=>exact skip s (fun _ h=>h) (by simp only[E8,hg]) (by simp only[J0,hg])
  |bx d' ls=>exact skip s (fun _ h=>h) (by simp only[E8,hg]) (by simp only[J0,hg])
theorem B7p:∀(cs:List (List (Leaf Ty den)))(bD:List (Nat×List Value))(kk:Nat)(s:St Ty den),Rel U B g s a w→Z7 w g (O5 kk cs.length) cs bD→LsRep U w g (E0 kk cs) (R0 bD)→(∀ i,i<cs.length→mem (B8 (kk+i)) s.live=true)→
  Rel U B g (B3N kk s cs) a w
 |[],[],kk,s,hr,_,_,_=>hr
 |c::cs,(b,us)::bD,kk,s,hr,hb,hl,hm=>by
  obtain⟨⟨b1,b2,b3,b4,b5⟩,bw⟩:=hb;obtain⟨h1,h2⟩:=LsRep.split hl.2 b2.symm;exact B7p cs bD (kk+1) _ (hr.setBx (A94 b1 b2 b3 b4 b5 h1) (hm 0 (by simp))) bw h2 fun i hi=>by
   have:=hm (i+1) (by simpa using hi);rw[show kk+(i+1)=kk+1+i by omega]at this;exact this
 |[],_::_,_,_,_,h,_,_=>h.elim
 |_::_,[],_,_,_,h,_,_=>h.elim
theorem B4r:∀{ps:List Nat}{kk:Nat},pinned E s kk ps=true→∀{i p:Nat},ps[i]?=some p→s.get p=.one (.ptr (B8 (kk+i)) 0)∧p<E.np
 |[],_,_,i,p,h=>by simp at h
 |q::ps,kk,h,i,p,hp=>by
  simp only[pinned,Bb]at h;cases i with
  |zero=>
   simp at hp;subst hp;have h1:=h.1;split at h1
   ·rename_i d hd;simp only[Bb,By]at h1;have:=(F6 _ _).1 h1.1;subst this;exact⟨hd,h1.2⟩
   ·cases h1
  |succ i=>
   have:=B4r h.2 (i:=i) (p:=p) (by simpa using hp);rw[show kk+(i+1)=kk+1+i by omega];exact this
theorem B4N{args:List (Leaf Ty den)}:∀{ps:List Nat}{kk:Nat},A7t args kk ps=true→∀{i p:Nat},ps[i]?=some p→args[p]?=some (.ptr (B8 (kk+i)) 0)
 |[],_,_,i,p,h=>by simp at h
 |q::ps,kk,h,i,p,hp=>by
  simp only[A7t,Bb]at h;cases i with
  |zero=>
   simp at hp;subst hp;have h1:=h.1;split at h1
   ·rename_i d hd;have:=(F6 _ _).1 h1;subst this;exact hd
   ·cases h1
  |succ i=>
   have:=B4N h.2 (i:=i) (p:=p) (by simpa using hp);rw[show kk+(i+1)=kk+1+i by omega];exact this
theorem B2M:∀{ds:List Nat}{cs:List (List (Leaf Ty den))}{bD:List (Nat×List Value)},Z7 w g ds cs bD→ds.length=bD.length∧cs.length=bD.length∧∀{i d:Nat}{c:List (Leaf Ty den)},ds[i]?=some d→cs[i]?=some c→∃(b:Nat)(us:List Value),bD[i]?=some (b,us)∧g.G d=.slice (some ⟨b,0,none⟩) 0 us.length∧us.length=c.length
 |[],[],[],_=>⟨rfl,rfl,fun h=>by simp at h⟩
 |x::ds,c::cs,(b,us)::bD,hb=>by
  obtain⟨h1,h2,h3⟩:=B2M hb.2;refine⟨by simp[h1],by simp[h2],fun{i d c'} hd hc=>?_⟩;cases i with
  |zero=>simp at hd hc;subst hd hc;exact⟨b,us,rfl,hb.1.1,hb.1.2.1⟩
  |succ i=>simpa using h3 (i:=i) (by simpa using hd) (by simpa using hc)
 |[],[],_::_,h=>h.elim
 |[],_::_,bD,h=>by cases bD<;>exact h.elim
 |_::_,[],bD,h=>by cases bD<;>exact h.elim
 |_::_,_::_,[],h=>h.elim
theorem B6B:∀{cs av:List (List (Leaf Ty den))},A74 cs av=true→cs.length=av.length∧∀{i:Nat}{c c':List (Leaf Ty den)},cs[i]?=some c→av[i]?=some c'→c.length=c'.length
 |[],[],_=>⟨rfl,fun h=>by simp at h⟩
 |a::r,b::r',h=>by
  simp only[A74,Bb]at h;obtain⟨h1,h2⟩:=B6B h.2;refine⟨by simp[h1],fun{i c c'} hc cC=>?_⟩;cases i with
  |zero=>simp at hc cC;subst hc cC;exact(F6 _ _).1 h.1
  |succ i=>exact h2 (i:=i) (by simpa using hc) (by simpa using cC)
 |[],_::_,h=>by cases h
 |_::_,[],h=>by cases h
theorem B5d:∀(n kk:Nat),A0c (O5 kk n)=true
 |0,_=>rfl
 |n+1,kk=>by
  simp only[O5,A0c,Bb,Cd];refine⟨?_,B5d n (kk+1)⟩;have:∀(n k2:Nat),kk<k2→mem (B8 kk) (O5 k2 n)=false:=by
   intro n
   induction n with
   |zero=>intro _ _;rfl
   |succ n ih=>
    intro k2 hk;simp only[O5,mem];rw[L2 (by unfold B8;omega)];exact ih (k2+1) (by omega)
  exact this n (kk+1) (by omega)
theorem B5O:∀(n kk:Nat),(O5 kk n).length=n
 |0,_=>rfl
 |n+1,kk=>by simp[O5,B5O n]
theorem B76{I:Inv}(fy:A9I P E I){f:Cb}{fn:Func}{ps:List Nat}(hf:P.funcs[f]?=some fn)(dL:E.nt=fn.ntmps)(eZ:∀ args w,(Cf f args).run P w=.ok (.enter f args) w)
  {S:List (Leaf Ty den)→List (List (Leaf Ty den))→Option (List (Leaf Ty den)×List (List (Leaf Ty den)))}(hS:∀ ls cs r,S ls cs=some r→∃ n,I7 E n fn ps ls cs=some r):H9 P E.U I f S:=by
 refine⟨eZ,fun ls cs rs av bm w g vs bD hI hz aq qA je dA qB db=>?_⟩;obtain⟨n,hn⟩:=hS ls cs _ bm;unfold I7 at hn;cases hb:fn.body with
 |none=>rw[hb]at hn;cases hn
 |some c=>
  rw[hb]at hn;obtain⟨qC,hn⟩:=C0 hn;simp only[Bb,Gw,By]at qC;obtain⟨aQ,xR,iN,cm⟩:=qC;have iN:=(F6 _ _).1 iN;have au:=aq.length;generalize hB:(⟨w,g.wm,fun b=>∃ d,M7 (E0 0 cs) d∧spare (g.G d)=some b,E.np,fun i=>(vs.toArray++Bt (fn.ntmps - vs.toArray.size) undef).getD i undef⟩:Bs)=B0;have hE:A0K P E B0:=⟨fy.U,by rw[←hB];exact Bh _,fy.tb,fy.zr,fun f' bh r' h'=>by
   obtain⟨h1,h2⟩:=fy.T f' bh r' h';exact⟨h1,fun w1 g1 dE hx=>h2 w1 g1 dE (fy.mono _ _ _ _ hI (by rw[←hB]at hx;exact hx))⟩,fun f' bh ek kn lH h'=>by
   obtain⟨h1,h2⟩:=fy.TB f' bh ek kn lH h';exact⟨h1,fun w1 g1 dE fA hx=>h2 w1 g1 dE fA (fy.mono _ _ _ _ hI (by rw[←hB]at hx;exact hx))⟩,fun nm bh ek kn lH h'=>by
   have:=fy.TI _ _ hI nm bh ek kn lH h';subst hB;exact this,fun f' bh ek kn h'=>by
   obtain⟨h1,h2⟩:=fy.TR f' bh ek kn h';exact⟨h1,fun w1 g1 dE fA hx=>h2 w1 g1 dE fA (fy.mono _ _ _ _ hI (by rw[←hB]at hx;exact hx))⟩⟩
  refine calls_of_wp hf hb ?_;have bH:Rel E.U B0 g {fr:=A22 0 ls,live:=A0x (E0 0 cs)} {tmps:=vs.toArray++Bt (fn.ntmps - vs.toArray.size) undef,defers:=[]} w:=by
   subst hB;refine{os:=rfl,tape:=rfl,output:=rfl,size:=Bh _,frame:=fun b _ _=>⟨rfl,rfl⟩,ext:=Ext.refl _ _,zero:=hz,ent:=fun i=>?_,tip:=fun d hd=>dA d (A6D hd),disj:=fun d e b hd he az=>qB d e b (A6D hd) (A6D he) az,mine:=fun d b hd hs=>.inr ⟨d,A6D hd,hs⟩,iter:=fun i c p h=>?_,idis:=fun i j c p c' p' _ h=>?_,defers:=rfl,bxl:=fun i d l h=>?_,pin:=fun i hi=>rfl}
   ·simp only[St.get,A1L,Cg,Dl,true_and];split
    ·rename_i hi;obtain⟨v,hv,co⟩:=aq.get (Bz hi);have aT:i<vs.length:=by omega
     have:(vs.toArray++Bt (fn.ntmps - vs.toArray.size) undef).getD i undef=v:=by
      rw[Bo,Ft (by simpa using aT)];simp[hv]
     rw[this];exact co
    ·exact ERep.any _ _ _
   ·simp only[St.get,A1L]at h;split at h<;>cases h
   ·simp only[St.get,A1L]at h;split at h<;>cases h
   ·simp only[St.get,A1L]at h;split at h<;>cases h
  have qD:=B7p cs bD 0 _ bH je qA (fun i hi=>B4l (A5B cs 0 i hi));refine B4j (B:=B0) hE n c _ _ _ _ _ hn ⟨g,qD⟩ (by simp;omega) ?_;intro e s' a' w' hk ⟨g',ct⟩ bX;have fin:Z3 E fn.results.toList ps cs .normal s'=some (rs,av)→a'.defers=[]∧∃ v,(results fn a'.tmps).run P w'=.ok v w'∧(fun e w'=>∃ g' rv dc,e=Ju (S9 rv)∧rs.length=rv.length∧
   Post E.U ⟨w,g.wm,fun b=>∃ d,M7 (E0 0 cs) d∧spare (g.G d)=some b,0,fun _=>undef⟩ g' (.tup (rs++E0 0 av)) (.tuple (rv++R0 dc).toArray) w'∧
   Z7 w' g' (O5 0 cs.length) av dc∧dc.map (fun p=>(p.1,p.2.length))=bD.map (fun p=>(p.1,p.2.length))) (.returned v) w':=fun hp=>by
   simp only[Z3]at hp;split at hp
   case h_2=>cases hp
   rename_i wa ek s1 xS xT;obtain⟨qC,hp⟩:=C0 hp;simp only[Br,Cc]at hp;obtain⟨rfl,rfl⟩:=hp;simp only[Bb,By]at qC;obtain⟨cE,tC,aM,sU⟩:=qC;obtain⟨dE,q1,q2,q3⟩:=A66 (P:=P) hE.tb hE.U _ 0 s' wa xS ct;obtain⟨fA,N,p1,p2,p3,p4,p5,p6,p7⟩:=B06 hE.U _ 0 _ ek s1 xT q3;obtain⟨n1,n2⟩:=A56 fn.results.toList 0 s';obtain⟨n3,n4⟩:=A86 fn.results.toList 0 s';have pw:=B5O cs.length 0;have aF:=B6K (s:=J0 s' fn.results.toList) (B5d cs.length 0) (by rw[pw];exact cm) p4 p5 aM;have ko:∀ c d,(c,d)∈K6 0 (O5 0 cs.length)++N→mem d (J0 s' fn.results.toList).live=true∧900000≤c:=fun c d mF=>by
    rw[Hb]at mF;rcases mF with h1|h1
    ·obtain⟨i,_,_,h3,h4⟩:=A2r _ 0 _ h1;exact⟨p6 _ (A6r aM h4),by(have jU:c=B8 i:=h3);rw[jU];unfold B8;omega⟩
    ·obtain⟨⟨i,j,_,_,h3⟩,h4,_⟩:=p5 _ h1;exact⟨h4,by(have jU:c=bo (B8 i) j:=h3);rw[jU];unfold bo;omega⟩
   have bO:OneOne (E8 0 s' fn.results.toList++(K6 0 (O5 0 cs.length)++N)):=OneOne.append n2 aF fun p hp q hq=>by
    obtain⟨h1,h2⟩:=n3 p.1 p.2 hp;obtain⟨h3,h4⟩:=ko q.1 q.2 hq;refine⟨by omega,fun e=>?_⟩;rw[e,h3]at h2;cases h2
   have cv:=B3b ct bO (fun c d mF=>by
    rw[Hb]at mF;rcases mF with h1|h1
    ·exact(n1 c d h1).1
    ·exact n4 _ (ko c d h1).1) ((q1.mono fun p hp=>Ha _ hp).append (p2.mono fun p hp=>Gz _ hp)) (r:=.tup (wa++E0 0 ek)) (v:=.tuple (dE++R0 fA).toArray) (fun c=>by simp only[Ent.has,Hd]) rfl (fun Ad tD=>⟨_,rfl,tD⟩)
   obtain⟨z1,z2⟩:=B6B cE;have jf:=A8G bO _ _ _ 0 p3 (fun p hp=>Gz _ (Ha _ hp));refine⟨ct.defers,_,A1q P fn a' w' _ rfl q2,_,dE,fA,rfl,q1.length,?_,by rw[z1];exact jf,?_⟩
   ·subst hB;exact{os:=cv.os,tape:=cv.tape,output:=cv.output,size:=cv.size,frame:=cv.frame,ext:=cv.ext,zero:=cv.zero,rep:=cv.rep,nit:=cv.nit,tip:=cv.tip,disj:=cv.disj,mine:=cv.mine}
   ·obtain⟨x1,x2,x3⟩:=B2M je;obtain⟨y1,y2,y3⟩:=B2M p3;apply Jl;intro i;rw[Fk,Fk];rcases Cw i cs.length with hi|hi
    ·have mO:=A6j cs.length 0 i hi;rw[Ch]at mO;obtain⟨b,us,e1,e2,e3⟩:=x3 mO (Bz hi);obtain⟨b',gq,sS,xU,Ae⟩:=y3 mO (Bz (show i<ek.length by omega));have eY:=z2 (Bz hi) (Bz (show i<ek.length by omega));have wb:i<ps.length:=by omega
     obtain⟨f1,f2⟩:=B4r tC (Bz wb);rw[Ch]at f1;have f3:=ct.ent ps[i];rw[f1]at f3;obtain⟨b2,Af,f4,f5⟩:=f3.2.2 _ _ rfl;have f6:=ct.pin ps[i] (by subst hB;exact f2);rw[f5.at (by decide)]at f6;have f7:=B4N xR (Bz wb);rw[Ch]at f7;obtain⟨v0,f8,f9⟩:=aq.get f7;obtain⟨b3,Ag,f10,f11⟩:=f9.2.2 _ _ rfl;have f12:(Value.pointer (some ⟨b2,0,none⟩))=v0:=by
      rw[f6];subst hB;have cu:=J7 f8;show(vs.toArray++Bt (fn.ntmps - vs.toArray.size) undef).getD ps[i] undef=v0;rw[Bo,Ft (by simpa using cu)];simp[f8]
     rw[f11.at (by decide)]at f12;rw[e2]at f10;rw[xU]at f4;simp only[Hq,Br,Kf]at f10 f4;simp only[Kh,Br,Kf]at f12;rw[e1,sS];simp only[Gr,Br,Cc];exact⟨by rw[f4.1.1,f12.1, ←f10.1.1],by omega⟩
    ·rw[Fl (by omega),Fl (by omega)]
  cases e with
  |normal=>exact fin hk
  |ret=>exact fin hk
  |exit id=>cases hk
end
end Go.Aev
end
section
namespace Go.Aev
structure C2 where
 line:Int
 col:Int
structure A3J where
 name:List UInt8
 index:Int
 item:Bool
structure A1 where
 kind:Int
 pos:C2
 from_:Int
 to_:Int
 text:List UInt8
 value:List UInt8
structure I0 where
 name:List UInt8
 wrap:List UInt8
structure A1k where
 has:Bool
 block:Bool
 text:List UInt8
structure Q4 where
 name:List UInt8
 pos:C2
structure Q8 where
 kind:Int
 pos:List C2
 path:List A3J
structure B7 where
 name:List UInt8
 choices:List (List (List UInt8))
structure G3 where
 sym:List UInt8
 kids:List Int
 tok:Int
structure A1t where
 nodes:List G3
 toks:List A1
inductive LitT where
 |mk (kind:Int) (text:List UInt8) (block:Bool) (items:List LitT) (fields:List (List UInt8×LitT×C2)) (pos:C2)
abbrev LfT:=List UInt8×LitT×C2
abbrev LfT.name(x:LfT):List UInt8:=x.1
abbrev LfT.value(x:LfT):LitT:=x.2.1
abbrev LfT.pos(x:LfT):C2:=x.2.2
namespace LitT
def kind:LitT→Int|mk a _ _ _ _ _=>a
def text:LitT→List UInt8|mk _ a _ _ _ _=>a
def block:LitT→Bool|mk _ _ a _ _ _=>a
def items:LitT→List LitT|mk _ _ _ a _ _=>a
def fields:LitT→List LfT|mk _ _ _ _ a _=>a
def pos:LitT→C2|mk _ _ _ _ _ a=>a
theorem eta(x:LitT):LitT.mk x.kind x.text x.block x.items x.fields x.pos=x:=by cases x;rfl
end LitT
structure A1Z where
 name:List UInt8
 value:LitT
 pos:C2
structure X5 where
 name:List UInt8
 args:List A1Z
 pos:C2
structure VdT where
 name:List UInt8
 type_:I0
 hasDefault:Bool
 dflt:LitT
 dirs:List X5
 pos:C2
structure RdT where
 op:Int
 type_:List UInt8
 pos:C2
structure A2t where
 note:A1k
 name:List UInt8
 dirs:List X5
 pos:C2
structure IvT where
 note:A1k
 name:List UInt8
 type_:I0
 hasDefault:Bool
 dflt:LitT
 dirs:List X5
 pos:C2
structure FdT where
 note:A1k
 name:List UInt8
 args:List IvT
 type_:I0
 dirs:List X5
 pos:C2
inductive SelT where
 |mk (kind:Int) (alias_ name on_:List UInt8) (args:List A1Z) (dirs:List X5) (sels:List SelT) (pos:C2)
namespace SelT
def kind:SelT→Int|mk a _ _ _ _ _ _ _=>a
def alias_:SelT→List UInt8|mk _ a _ _ _ _ _ _=>a
def name:SelT→List UInt8|mk _ _ a _ _ _ _ _=>a
def on_:SelT→List UInt8|mk _ _ _ a _ _ _ _=>a
def args:SelT→List A1Z|mk _ _ _ _ a _ _ _=>a
def dirs:SelT→List X5|mk _ _ _ _ _ a _ _=>a
def sels:SelT→List SelT|mk _ _ _ _ _ _ a _=>a
def pos:SelT→C2|mk _ _ _ _ _ _ _ a=>a
theorem eta(x:SelT):SelT.mk x.kind x.alias_ x.name x.on_ x.args x.dirs x.sels x.pos=x:=by cases x;rfl
end SelT
structure A3S where
 kind:Int
 name:List UInt8
 on_:List UInt8
 short:Bool
 vars:List VdT
 dirs:List X5
 sels:List SelT
 pos:C2
structure A2R where
 defs:List A3S
structure A2V where
 kind:Int
 extd:Bool
 note:A1k
 name:List UInt8
 ifaces:List Q4
 dirs:List X5
 fields:List FdT
 inputs:List IvT
 members:List Q4
 values:List A2t
 roots:List RdT
 repeatable:Bool
 places:List Q4
 pos:C2
structure CurT where
 toks:List A1
 at_:Int
 nest:Int
 limit:Int
 kind:Int
structure B34 where
 toks:List A1
 at_:Int
structure B39 where
 b:List Int
structure B1t where
 buf:List Int
inductive PartT where
 |sel (x:SelT)|root (x:RdT)|field (x:FdT)|value (x:A2t)|input (x:IvT)
inductive Ty6 where|i32|u8|i64|rs|str|strs|part|pos|tok|lit|lf|arg|dir|vd|sel|dfn|doc|note|named|iv|fd|vald|rd|sys|fault|step|tref|rule|node|tree|cur|rdr|out|page
 deriving DecidableEq
abbrev A4:Ty6→Type
 | .i32=>Int
 | .u8=>Int
 | .i64=>Int
 | .rs=>List Int
 | .str=>List UInt8
 | .strs=>List (List UInt8)
 | .part=>PartT
 | .pos=>C2
 | .tok=>A1
 | .lit=>LitT
 | .lf=>LfT
 | .arg=>A1Z
 | .dir=>X5
 | .vd=>VdT
 | .sel=>SelT
 | .dfn=>A3S
 | .doc=>A2R
 | .note=>A1k
 | .named=>Q4
 | .iv=>IvT
 | .fd=>FdT
 | .vald=>A2t
 | .rd=>RdT
 | .sys=>A2V
 | .fault=>Q8
 | .step=>A3J
 | .tref=>I0
 | .rule=>B7
 | .node=>G3
 | .tree=>A1t
 | .cur=>CurT
 | .rdr=>B34
 | .out=>B39
 | .page=>B1t
abbrev L6:=Leaf Ty6 A4
abbrev E6:=Ent Ty6 A4
abbrev S6:=St Ty6 A4
def G8:(t:Ty6)→A4 t→List L6
 | .i32,(n:Int)=>[.int .i32 n]
 | .u8,(n:Int)=>[.int .u8 n]
 | .i64,(n:Int)=>[.int .i64 n]
 | .rs,(l:List Int)=>[.sl .i32 l none]
 | .str,(s:List UInt8)=>[.str s]
 | .strs,(l:List (List UInt8))=>[.sl .str l none]
 | .part,(p:PartT)=>[match p with| .sel x=>.ifc 238 .sel x| .root x=>.ifc 254 .rd x| .field x=>.ifc 255 .fd x| .value x=>.ifc 258 .vald x| .input x=>.ifc 259 .iv x]
 | .pos,(x:C2)=>[.int .i64 x.line,.int .i64 x.col]
 | .tok,(x:A1)=>[.int .i64 x.kind,.int .i64 x.pos.line,.int .i64 x.pos.col,.int .i64 x.from_,.int .i64 x.to_,.str x.text,.str x.value]
 | .lit,(x:LitT)=>[.int .i64 x.kind,.str x.text,.bool x.block,.sl .lit x.items none,.sl .lf x.fields none,.int .i64 x.pos.line,.int .i64 x.pos.col]
 | .lf,(x:LfT)=>[.str x.name,.int .i64 x.value.kind,.str x.value.text,.bool x.value.block,.sl .lit x.value.items none,.sl .lf x.value.fields none,.int .i64 x.value.pos.line,.int .i64 x.value.pos.col,.int .i64 x.pos.line,.int .i64 x.pos.col]
 | .arg,(x:A1Z)=>[.str x.name,.int .i64 x.value.kind,.str x.value.text,.bool x.value.block,.sl .lit x.value.items none,.sl .lf x.value.fields none,.int .i64 x.value.pos.line,.int .i64 x.value.pos.col,.int .i64 x.pos.line,.int .i64 x.pos.col]
 | .dir,(x:X5)=>[.str x.name,.sl .arg x.args none,.int .i64 x.pos.line,.int .i64 x.pos.col]
 | .vd,(x:VdT)=>[.str x.name,.str x.type_.name,.str x.type_.wrap,.bool x.hasDefault,.int .i64 x.dflt.kind,.str x.dflt.text,.bool x.dflt.block,.sl .lit x.dflt.items none,.sl .lf x.dflt.fields none,.int .i64 x.dflt.pos.line,.int .i64 x.dflt.pos.col,.sl .dir x.dirs none,.int .i64 x.pos.line,.int .i64 x.pos.col]
 | .sel,(x:SelT)=>[.int .i64 x.kind,.str x.alias_,.str x.name,.str x.on_,.sl .arg x.args none,.sl .dir x.dirs none,.sl .sel x.sels none,.int .i64 x.pos.line,.int .i64 x.pos.col]
 | .dfn,(x:A3S)=>[.int .i64 x.kind,.str x.name,.str x.on_,.bool x.short,.sl .vd x.vars none,.sl .dir x.dirs none,.sl .sel x.sels none,.int .i64 x.pos.line,.int .i64 x.pos.col]
 | .doc,(x:A2R)=>[.sl .dfn x.defs none]
 | .note,(x:A1k)=>[.bool x.has,.bool x.block,.str x.text]
 | .named,(x:Q4)=>[.str x.name,.int .i64 x.pos.line,.int .i64 x.pos.col]
 | .iv,(x:IvT)=>[.bool x.note.has,.bool x.note.block,.str x.note.text,.str x.name,.str x.type_.name,.str x.type_.wrap,.bool x.hasDefault,.int .i64 x.dflt.kind,.str x.dflt.text,.bool x.dflt.block,.sl .lit x.dflt.items none,.sl .lf x.dflt.fields none,.int .i64 x.dflt.pos.line,.int .i64 x.dflt.pos.col,.sl .dir x.dirs none,.int .i64 x.pos.line,.int .i64 x.pos.col]
 | .fd,(x:FdT)=>[.bool x.note.has,.bool x.note.block,.str x.note.text,.str x.name,.sl .iv x.args none,.str x.type_.name,.str x.type_.wrap,.sl .dir x.dirs none,.int .i64 x.pos.line,.int .i64 x.pos.col]
 | .vald,(x:A2t)=>[.bool x.note.has,.bool x.note.block,.str x.note.text,.str x.name,.sl .dir x.dirs none,.int .i64 x.pos.line,.int .i64 x.pos.col]
 | .rd,(x:RdT)=>[.int .i64 x.op,.str x.type_,.int .i64 x.pos.line,.int .i64 x.pos.col]
 | .sys,(x:A2V)=>[.int .i64 x.kind,.bool x.extd,.bool x.note.has,.bool x.note.block,.str x.note.text,.str x.name,.sl .named x.ifaces none,.sl .dir x.dirs none,.sl .fd x.fields none,.sl .iv x.inputs none,.sl .named x.members none,.sl .vald x.values none,.sl .rd x.roots none,.bool x.repeatable,.sl .named x.places none,.int .i64 x.pos.line,.int .i64 x.pos.col]
 | .fault,(x:Q8)=>[.int .i64 x.kind,.sl .pos x.pos none,.sl .step x.path none]
 | .step,(x:A3J)=>[.str x.name,.int .i64 x.index,.bool x.item]
 | .tref,(x:I0)=>[.str x.name,.str x.wrap]
 | .rule,(x:B7)=>[.str x.name,.sl .strs x.choices none]
 | .node,(x:G3)=>[.str x.sym,.sl .i64 x.kids none,.int .i64 x.tok]
 | .tree,(x:A1t)=>[.sl .node x.nodes none,.sl .tok x.toks none]
 | .cur,(x:CurT)=>[.sl .tok x.toks none,.int .i64 x.at_,.int .i64 x.nest,.int .i64 x.limit,.int .i64 x.kind]
 | .rdr,(x:B34)=>[.sl .tok x.toks none,.int .i64 x.at_]
 | .out,(x:B39)=>[.sl .u8 x.b none]
 | .page,(x:B1t)=>[.elem .i64 (0:Int) 0,.sl .u8 x.buf none]
def B04:List L6→Option PartT
 |[.ifc 238 .sel x]=>some (PartT.sel x)
 |[.ifc 254 .rd x]=>some (PartT.root x)
 |[.ifc 255 .fd x]=>some (PartT.field x)
 |[.ifc 258 .vald x]=>some (PartT.value x)
 |[.ifc 259 .iv x]=>some (PartT.input x)
 |_=>none
theorem C2Q{ls:List L6}{x:PartT}(h:B04 ls=some x):G8 .part x=ls:=by
 unfold B04 at h;split at h<;>first|(cases h;done)|(cases h;rfl)
def B3L:List L6→Option (Int)
 |[.int .i32 n]=>some n
 |_=>none
theorem D0L{ls:List L6}{x:Int}(h:B3L ls=some x):G8 .i32 x=ls:=by
 unfold B3L at h;split at h<;>first|(cases h;done)|(cases h;rfl)
def B1n:List L6→Option (Int)
 |[.int .u8 n]=>some n
 |_=>none
theorem C10{ls:List L6}{x:Int}(h:B1n ls=some x):G8 .u8 x=ls:=by
 unfold B1n at h;split at h<;>first|(cases h;done)|(cases h;rfl)
def B07:List L6→Option (Int)
 |[.int .i64 n]=>some n
 |_=>none
theorem C8U{ls:List L6}{x:Int}(h:B07 ls=some x):G8 .i64 x=ls:=by
 unfold B07 at h;split at h<;>first|(cases h;done)|(cases h;rfl)
def B2n:List L6→Option (List Int)
 |[.sl .i32 n none]=>some n
 |_=>none
theorem D0T{ls:List L6}{x:List Int}(h:B2n ls=some x):G8 .rs x=ls:=by
 unfold B2n at h;split at h<;>first|(cases h;done)|(cases h;rfl)
def B2P:List L6→Option (List UInt8)
 |[.str n]=>some n
 |_=>none
theorem C7u{ls:List L6}{x:List UInt8}(h:B2P ls=some x):G8 .str x=ls:=by
 unfold B2P at h;split at h<;>first|(cases h;done)|(cases h;rfl)
def B3p:List L6→Option (List (List UInt8))
 |[.sl .str n none]=>some n
 |_=>none
theorem C9P{ls:List L6}{x:List (List UInt8)}(h:B3p ls=some x):G8 .strs x=ls:=by
 unfold B3p at h;split at h<;>first|(cases h;done)|(cases h;rfl)
def B29:List L6→Option C2
 |[.int .i64 v1,.int .i64 v2]=>some (⟨v1,v2⟩:C2)
 |_=>none
theorem C8r{ls:List L6}{x:C2}(h:B29 ls=some x):G8 .pos x=ls:=by
 unfold B29 at h;split at h<;>first|(cases h;done)|(cases h;rfl)
def B3h:List L6→Option A1
 |[.int .i64 v1,.int .i64 v2,.int .i64 v3,.int .i64 v4,.int .i64 v5,.str v6,.str v7]=>some (⟨v1,⟨v2,v3⟩,v4,v5,v6,v7⟩:A1)
 |_=>none
theorem C0u{ls:List L6}{x:A1}(h:B3h ls=some x):G8 .tok x=ls:=by
 unfold B3h at h;split at h<;>first|(cases h;done)|(cases h;rfl)
def B1D:List L6→Option LitT
 |[.int .i64 v1,.str v2,.bool v3,.sl .lit v4 none,.sl .lf v5 none,.int .i64 v6,.int .i64 v7]=>some (⟨v1,v2,v3,v4,v5,⟨v6,v7⟩⟩:LitT)
 |_=>none
theorem C9D{ls:List L6}{x:LitT}(h:B1D ls=some x):G8 .lit x=ls:=by
 unfold B1D at h;split at h<;>first|(cases h;done)|(cases h;rfl)
def B1f:List L6→Option LfT
 |[.str v1,.int .i64 v2,.str v3,.bool v4,.sl .lit v5 none,.sl .lf v6 none,.int .i64 v7,.int .i64 v8,.int .i64 v9,.int .i64 kp]=>some (⟨v1,⟨v2,v3,v4,v5,v6,⟨v7,v8⟩⟩,⟨v9,kp⟩⟩:LfT)
 |_=>none
theorem C52{ls:List L6}{x:LfT}(h:B1f ls=some x):G8 .lf x=ls:=by
 unfold B1f at h;split at h<;>first|(cases h;done)|(cases h;rfl)
def B0n:List L6→Option A1Z
 |[.str v1,.int .i64 v2,.str v3,.bool v4,.sl .lit v5 none,.sl .lf v6 none,.int .i64 v7,.int .i64 v8,.int .i64 v9,.int .i64 kp]=>some (⟨v1,⟨v2,v3,v4,v5,v6,⟨v7,v8⟩⟩,⟨v9,kp⟩⟩:A1Z)
 |_=>none
theorem C9s{ls:List L6}{x:A1Z}(h:B0n ls=some x):G8 .arg x=ls:=by
 unfold B0n at h;split at h<;>first|(cases h;done)|(cases h;rfl)
def B0M:List L6→Option X5
 |[.str v1,.sl .arg v2 none,.int .i64 v3,.int .i64 v4]=>some (⟨v1,v2,⟨v3,v4⟩⟩:X5)
 |_=>none
theorem C3u{ls:List L6}{x:X5}(h:B0M ls=some x):G8 .dir x=ls:=by
 unfold B0M at h;split at h<;>first|(cases h;done)|(cases h;rfl)
def B0S:List L6→Option VdT
 |[.str v1,.str v2,.str v3,.bool v4,.int .i64 v5,.str v6,.bool v7,.sl .lit v8 none,.sl .lf v9 none,.int .i64 kp,.int .i64 qE,.sl .dir qF none,.int .i64 qG,.int .i64 qH]=>some (⟨v1,⟨v2,v3⟩,v4,⟨v5,v6,v7,v8,v9,⟨kp,qE⟩⟩,qF,⟨qG,qH⟩⟩:VdT)
 |_=>none
theorem B99{ls:List L6}{x:VdT}(h:B0S ls=some x):G8 .vd x=ls:=by
 unfold B0S at h;split at h<;>first|(cases h;done)|(cases h;rfl)
def B3K:List L6→Option SelT
 |[.int .i64 v1,.str v2,.str v3,.str v4,.sl .arg v5 none,.sl .dir v6 none,.sl .sel v7 none,.int .i64 v8,.int .i64 v9]=>some (⟨v1,v2,v3,v4,v5,v6,v7,⟨v8,v9⟩⟩:SelT)
 |_=>none
theorem C9c{ls:List L6}{x:SelT}(h:B3K ls=some x):G8 .sel x=ls:=by
 unfold B3K at h;split at h<;>first|(cases h;done)|(cases h;rfl)
def B1e:List L6→Option A3S
 |[.int .i64 v1,.str v2,.str v3,.bool v4,.sl .vd v5 none,.sl .dir v6 none,.sl .sel v7 none,.int .i64 v8,.int .i64 v9]=>some (⟨v1,v2,v3,v4,v5,v6,v7,⟨v8,v9⟩⟩:A3S)
 |_=>none
theorem C5R{ls:List L6}{x:A3S}(h:B1e ls=some x):G8 .dfn x=ls:=by
 unfold B1e at h;split at h<;>first|(cases h;done)|(cases h;rfl)
def B0I:List L6→Option A2R
 |[.sl .dfn v1 none]=>some (⟨v1⟩:A2R)
 |_=>none
theorem C3g{ls:List L6}{x:A2R}(h:B0I ls=some x):G8 .doc x=ls:=by
 unfold B0I at h;split at h<;>first|(cases h;done)|(cases h;rfl)
def B0E:List L6→Option A1k
 |[.bool v1,.bool v2,.str v3]=>some (⟨v1,v2,v3⟩:A1k)
 |_=>none
theorem C5L{ls:List L6}{x:A1k}(h:B0E ls=some x):G8 .note x=ls:=by
 unfold B0E at h;split at h<;>first|(cases h;done)|(cases h;rfl)
def B2w:List L6→Option Q4
 |[.str v1,.int .i64 v2,.int .i64 v3]=>some (⟨v1,⟨v2,v3⟩⟩:Q4)
 |_=>none
theorem C3P{ls:List L6}{x:Q4}(h:B2w ls=some x):G8 .named x=ls:=by
 unfold B2w at h;split at h<;>first|(cases h;done)|(cases h;rfl)
def B2X:List L6→Option IvT
 |[.bool v1,.bool v2,.str v3,.str v4,.str v5,.str v6,.bool v7,.int .i64 v8,.str v9,.bool kp,.sl .lit qE none,.sl .lf qF none,.int .i64 qG,.int .i64 qH,.sl .dir tE none,.int .i64 tF,.int .i64 tG]=>some (⟨⟨v1,v2,v3⟩,v4,⟨v5,v6⟩,v7,⟨v8,v9,kp,qE,qF,⟨qG,qH⟩⟩,tE,⟨tF,tG⟩⟩:IvT)
 |_=>none
theorem D1s{ls:List L6}{x:IvT}(h:B2X ls=some x):G8 .iv x=ls:=by
 unfold B2X at h;split at h<;>first|(cases h;done)|(cases h;rfl)
def B0f:List L6→Option FdT
 |[.bool v1,.bool v2,.str v3,.str v4,.sl .iv v5 none,.str v6,.str v7,.sl .dir v8 none,.int .i64 v9,.int .i64 kp]=>some (⟨⟨v1,v2,v3⟩,v4,v5,⟨v6,v7⟩,v8,⟨v9,kp⟩⟩:FdT)
 |_=>none
theorem D0D{ls:List L6}{x:FdT}(h:B0f ls=some x):G8 .fd x=ls:=by
 unfold B0f at h;split at h<;>first|(cases h;done)|(cases h;rfl)
def B0O:List L6→Option A2t
 |[.bool v1,.bool v2,.str v3,.str v4,.sl .dir v5 none,.int .i64 v6,.int .i64 v7]=>some (⟨⟨v1,v2,v3⟩,v4,v5,⟨v6,v7⟩⟩:A2t)
 |_=>none
theorem C0P{ls:List L6}{x:A2t}(h:B0O ls=some x):G8 .vald x=ls:=by
 unfold B0O at h;split at h<;>first|(cases h;done)|(cases h;rfl)
def B2L:List L6→Option RdT
 |[.int .i64 v1,.str v2,.int .i64 v3,.int .i64 v4]=>some (⟨v1,v2,⟨v3,v4⟩⟩:RdT)
 |_=>none
theorem C4z{ls:List L6}{x:RdT}(h:B2L ls=some x):G8 .rd x=ls:=by
 unfold B2L at h;split at h<;>first|(cases h;done)|(cases h;rfl)
def B2a:List L6→Option A2V
 |[.int .i64 v1,.bool v2,.bool v3,.bool v4,.str v5,.str v6,.sl .named v7 none,.sl .dir v8 none,.sl .fd v9 none,.sl .iv kp none,.sl .named qE none,.sl .vald qF none,.sl .rd qG none,.bool qH,.sl .named tE none,.int .i64 tF,.int .i64 tG]=>some (⟨v1,v2,⟨v3,v4,v5⟩,v6,v7,v8,v9,kp,qE,qF,qG,qH,tE,⟨tF,tG⟩⟩:A2V)
 |_=>none
theorem C6C{ls:List L6}{x:A2V}(h:B2a ls=some x):G8 .sys x=ls:=by
 unfold B2a at h;split at h<;>first|(cases h;done)|(cases h;rfl)
def B36:List L6→Option Q8
 |[.int .i64 v1,.sl .pos v2 none,.sl .step v3 none]=>some (⟨v1,v2,v3⟩:Q8)
 |_=>none
theorem C32{ls:List L6}{x:Q8}(h:B36 ls=some x):G8 .fault x=ls:=by
 unfold B36 at h;split at h<;>first|(cases h;done)|(cases h;rfl)
def B3D:List L6→Option A3J
 |[.str v1,.int .i64 v2,.bool v3]=>some (⟨v1,v2,v3⟩:A3J)
 |_=>none
theorem C62{ls:List L6}{x:A3J}(h:B3D ls=some x):G8 .step x=ls:=by
 unfold B3D at h;split at h<;>first|(cases h;done)|(cases h;rfl)
def B0B:List L6→Option I0
 |[.str v1,.str v2]=>some (⟨v1,v2⟩:I0)
 |_=>none
theorem C6u{ls:List L6}{x:I0}(h:B0B ls=some x):G8 .tref x=ls:=by
 unfold B0B at h;split at h<;>first|(cases h;done)|(cases h;rfl)
def B05:List L6→Option B7
 |[.str v1,.sl .strs v2 none]=>some (⟨v1,v2⟩:B7)
 |_=>none
theorem C4y{ls:List L6}{x:B7}(h:B05 ls=some x):G8 .rule x=ls:=by
 unfold B05 at h;split at h<;>first|(cases h;done)|(cases h;rfl)
def B25:List L6→Option G3
 |[.str v1,.sl .i64 v2 none,.int .i64 v3]=>some (⟨v1,v2,v3⟩:G3)
 |_=>none
theorem C8o{ls:List L6}{x:G3}(h:B25 ls=some x):G8 .node x=ls:=by
 unfold B25 at h;split at h<;>first|(cases h;done)|(cases h;rfl)
def B00:List L6→Option A1t
 |[.sl .node v1 none,.sl .tok v2 none]=>some (⟨v1,v2⟩:A1t)
 |_=>none
theorem C48{ls:List L6}{x:A1t}(h:B00 ls=some x):G8 .tree x=ls:=by
 unfold B00 at h;split at h<;>first|(cases h;done)|(cases h;rfl)
def B83:(t:Ty6)→List L6→Option (A4 t)
 | .part,ls=>B04 ls
 | .i32,ls=>B3L ls
 | .u8,ls=>B1n ls
 | .i64,ls=>B07 ls
 | .rs,ls=>B2n ls
 | .str,ls=>B2P ls
 | .strs,ls=>B3p ls
 | .pos,ls=>B29 ls
 | .tok,ls=>B3h ls
 | .lit,ls=>B1D ls
 | .lf,ls=>B1f ls
 | .arg,ls=>B0n ls
 | .dir,ls=>B0M ls
 | .vd,ls=>B0S ls
 | .sel,ls=>B3K ls
 | .dfn,ls=>B1e ls
 | .doc,ls=>B0I ls
 | .note,ls=>B0E ls
 | .named,ls=>B2w ls
 | .iv,ls=>B2X ls
 | .fd,ls=>B0f ls
 | .vald,ls=>B0O ls
 | .rd,ls=>B2L ls
 | .sys,ls=>B2a ls
 | .fault,ls=>B36 ls
 | .step,ls=>B3D ls
 | .tref,ls=>B0B ls
 | .rule,ls=>B05 ls
 | .node,ls=>B25 ls
 | .tree,ls=>B00 ls
 |_,_=>none
theorem C00(t:Ty6)(ls:List L6)(x:A4 t)(h:B83 t ls=some x):G8 t x=ls:=by
 cases t
 case part=>exact C2Q h
 case i32=>exact D0L h
 case u8=>exact C10 h
 case i64=>exact C8U h
 case rs=>exact D0T h
 case str=>exact C7u h
 case strs=>exact C9P h
 case pos=>exact C8r h
 case tok=>exact C0u h
 case lit=>exact C9D h
 case lf=>exact C52 h
 case arg=>exact C9s h
 case dir=>exact C3u h
 case vd=>exact B99 h
 case sel=>exact C9c h
 case dfn=>exact C5R h
 case doc=>exact C3g h
 case note=>exact C5L h
 case named=>exact C3P h
 case iv=>exact D1s h
 case fd=>exact D0D h
 case vald=>exact C0P h
 case rd=>exact C4z h
 case sys=>exact C6C h
 case fault=>exact C32 h
 case step=>exact C62 h
 case tref=>exact C6u h
 case rule=>exact C4y h
 case node=>exact C8o h
 case tree=>exact C48 h
 case cur=>cases h
 case rdr=>cases h
 case out=>cases h
 case page=>cases h
def B0H:(t:Ty6)→Option (List UInt8→List (A4 t))
 | .u8=>some fun b=>b.map fun c=>(c.toNat:Int)
 |_=>none
def B0G:(t:Ty6)→Option (List (A4 t)→List UInt8)
 | .u8=>some fun(l:List Int)=>l.map fun n=>Hr n.toNat
 |_=>none
def B08:(t:Ty6)→Option (List Int→List (A4 t))
 | .i32=>some fun b=>b
 |_=>none
def B1l:(t:Ty6)→Option (List (A4 t)→List Int)
 | .i32=>some fun(l:List Int)=>l
 |_=>none
def C6p:Ty6→Nat
 | .pos=>2
 | .tok=>7
 | .lit=>7
 | .lf=>10
 | .arg=>10
 | .dir=>4
 | .vd=>14
 | .sel=>9
 | .dfn=>9
 | .doc=>1
 | .note=>3
 | .named=>3
 | .iv=>17
 | .fd=>10
 | .vald=>7
 | .rd=>4
 | .sys=>17
 | .fault=>3
 | .step=>3
 | .tref=>2
 | .rule=>2
 | .node=>3
 | .tree=>2
 | .cur=>5
 | .rdr=>2
 | .out=>1
 | .page=>2
 |_=>1
def C08:Ty6→Nat
 | .i32=>4| .u8=>1| .i64=>8| .rs=>24| .str=>16| .strs=>24| .part=>16
 | .pos=>16
 | .tok=>72
 | .lit=>96
 | .lf=>128
 | .arg=>128
 | .dir=>56
 | .vd=>192
 | .sel=>144
 | .dfn=>136
 | .doc=>24
 | .note=>24
 | .named=>32
 | .iv=>216
 | .fd=>136
 | .vald=>80
 | .rd=>40
 | .sys=>272
 | .fault=>56
 | .step=>32
 | .tref=>32
 | .rule=>40
 | .node=>48
 | .tree=>48
 | .cur=>56
 | .rdr=>32
 | .out=>24
 | .page=>32
def D1a:Ty6→Option Ba
 | .u8=>some 5
 |_=>none
def U6:UO Ty6 A4 where
 deq:=inferInstance
 cells:=G8
 dec:=B83
 ofBytes:=B0H
 toBytes:=B0G
 ofRunes:=B08
 toRunes:=B1l
 size:=C6p
 bytes:=C08
 bty:=109
 ety:=D1a
theorem B49(l:List Int):l.flatMap (fun n=>[(.int .i32 n:L6)])=l.map fun n=>.int .i32 n:=by
 induction l with
 |nil=>rfl
 |cons x l ih=>simp[ih]
theorem A8q(l:List Int):l.flatMap (fun n=>[(.int .u8 n:L6)])=l.map fun n=>.int .u8 n:=by
 induction l with
 |nil=>rfl
 |cons x l ih=>simp[ih]
theorem u6_ok:(U6).Ok where
 pos:=fun t=>by cases t<;>decide
 bpos:=fun t=>by cases t<;>decide
 len:=fun t x=>by cases t<;>rfl
 dec:=fun t ls x h=>by
  exact C00 t ls x h
 ofBytes:=fun t f h=>by
  cases t<;>simp only[U6,B0H,Br,reduceCtorEq]at h;subst h;intro b;refine⟨List.length_map ..,?_⟩;show List.flatMap (G8 .u8) _=_;have h2:=A8q (b.map fun c=>(c.toNat:Int));simp only[List.map_map]at h2;exact h2
 ofRunes:=fun t f h=>by
  cases t<;>simp only[U6,B08,reduceCtorEq]at h;cases h;intro b;exact⟨rfl,B49 b⟩
 toRunes:=fun t f h=>by
  cases t<;>simp only[U6,B1l,reduceCtorEq]at h;cases h;intro l;exact B49 l
 toBytes:=fun t f h=>by
  cases t<;>simp only[U6,B0G,Br,reduceCtorEq]at h;cases h;intro l;exact⟨l,A8q l,rfl⟩
 ofBytes1:=fun t f h=>by cases t<;>first|rfl|(simp only[U6,B0H,reduceCtorEq]at h;done)
 ofRunes1:=fun t f h=>by cases t<;>first|rfl|(simp only[U6,B08,reduceCtorEq]at h;done)
 toRunes1:=fun t f h=>by cases t<;>first|rfl|(simp only[U6,B1l,reduceCtorEq]at h;done)
 toBytes1:=fun t f h=>by cases t<;>first|rfl|(simp only[U6,B0G,reduceCtorEq]at h;done)
 solid:=fun t x lf h=>by
  have cS:∀ l∈G8 t x,U1 l=true:=by
   cases t<;>first
    |(intro l hl;have fI:=Ff.1 hl;subst fI;cases x<;>rfl)
    |(intro l hl;simp only[G8,Bn,Ep,or_false]at hl;rcases hl with rfl;rfl)
    |(intro l hl;simp only[G8,Bn,Ep,or_false]at hl;rcases hl with rfl|hl<;>first|rfl|(repeat (first|(rcases hl with rfl|hl<;>first|rfl|skip)|(subst hl;rfl))))
  exact B7U (cS lf h)
 closed:=fun t x lf h=>by
  have cS:∀ l∈G8 t x,l.close=l:=by
   cases t<;>first
    |(intro l hl;have fI:=Ff.1 hl;subst fI;cases x<;>rfl)
    |(intro l hl;simp only[G8,Bn,Ep,or_false]at hl;rcases hl with rfl;rfl)
    |(intro l hl;simp only[G8,Bn,Ep,or_false]at hl;rcases hl with rfl|hl<;>first|rfl|(repeat (first|(rcases hl with rfl|hl<;>first|rfl|skip)|(subst hl;rfl))))
  exact cS lf h
end Go.Aev
end
namespace Go.Aev
open Go.Proofs
theorem C6F{Ty:Type}{den:Ty→Type}{P:Bj}{U:UO Ty den}{t e:Ba}{u:Ty}(h1:P.underlying t=some (.slice e))
  (h2:(match P.info? e with
   |some i=>Bg i.size (U.size u)&&(Bg i.bytes (U.bytes u)&&(match i.zero with|some z=>Bg z.cells.size (U.size u)|none=>false))
   |none=>false)=true) (h3:(match U.ety u with|some e'=>Bg e' e|none=>true)=true):S3 P U t (.slice u e):=by
 refine⟨⟨h1,?_⟩,fun e' he=>by rw[he]at h3;exact Cr h3⟩;split at h2
 ·rename_i i hi;simp only[Bb,Nat.beq_eq]at h2;obtain⟨h3,h4,h5⟩:=h2;split at h5
  ·rename_i z hz;exact⟨i,z,hi,h3,h4,hz,Cr h5⟩
  ·cases h5
 ·cases h2
def B6c(P:Bj)(t:Ba):Option (List (Nat×Nat)):=match P.underlying t with
 |some (.struct fs)=>fs.toList.mapM (fun f=>(P.info? f.type).map fun i=>(f.offset,i.size))
 |_=>none
theorem C4T{Ty:Type}{den:Ty→Type}{P:Bj}{U:UO Ty den}{t:Ba}{u:Ty}{pl:List (Nat×Nat)}(h0:B6c P t=some pl)
  (h2:(match P.info? t with
   |some i=>Bg i.size (U.size u)&&(match i.zero with|some z=>Bg z.cells.size (U.size u)|none=>false)
   |none=>false)=true):S3 P U t (.struct u pl):=by
 unfold B6c at h0;split at h0
 ·rename_i fs h1;split at h2
  ·rename_i i hi;simp only[Bb,Nat.beq_eq]at h2;obtain⟨h3,h5⟩:=h2;split at h5
   ·rename_i z hz;exact⟨fs,i,z,h1,h0,hi,h3,hz,Cr h5⟩
   ·cases h5
  ·cases h2
 ·cases h0
theorem C2z{Ty:Type}{den:Ty→Type}{P:Bj}{U:UO Ty den}{t:Ba}{u:Ty}(h:(match P.underlying t with|some (.interface _)=>true|_=>false)=true)(hs:U.size u=1):S3 P U t (.iface u):=by
 split at h
 ·rename_i m hm;exact⟨⟨m,hm⟩,hs⟩
 ·cases h
def zm{Ty:Type}{den:Ty→Type}:Leaf Ty den→Value→Bool
 | .int k n,.int k' n'=>decide (k=k')&&decide (n=n')
 | .bool b,.bool b'=>b==b'
 | .str s,.string b=>s==b.data.toList
 | .sl _ [] none,.slice none 0 0=>true
 | .val (.pointer none),.pointer none=>true
 | .val .nilIface,.nilIface=>true
 |_,_=>false
def zms{Ty:Type}{den:Ty→Type}:List (Leaf Ty den)→List Value→Bool
 |[],[]=>true
 |l::ls,v::vs=>zm l v&&zms ls vs
 |_,_=>false
theorem C2u{Ty:Type}{den:Ty→Type}{U:UO Ty den}{lf:Leaf Ty den}{u:Value}(h:zm lf u=true):u.oneCell'=true∧u.cells= #[u]∧(∀(w:World)(g:Gh),LRep U w g lf u)∧∀ t,lf=.sl t [] none→u=.slice none 0 0:=by
 unfold zm at h;split at h
 ·rename_i k n k' n';simp only[Bb,decide_eq_true_eq]at h;obtain⟨rfl,rfl⟩:=h;exact⟨rfl,rfl,fun w g=>LRep.int _ _,fun t e=>by cases e⟩
 ·rename_i b b';simp only[beq_iff_eq]at h;subst h;exact⟨rfl,rfl,fun w g=>LRep.bool _,fun t e=>by cases e⟩
 ·rename_i s b;simp only[beq_iff_eq]at h;subst h;exact⟨rfl,rfl,fun w g=>by have:=LRep.str (U:=U) (w:=w) (g:=g) b.data.toList;rw[B6T]at this;exact this,fun t e=>by cases e⟩
 ·exact⟨rfl,rfl,fun w g=>⟨.nil _ _ _ _,fun _ _ _ e=>by(cases e),fun _ _ e=>by(cases e)⟩,fun _ _=>rfl⟩
 ·exact⟨rfl,rfl,fun w g=>⟨.val _,fun _ _ _ e=>by(cases e),fun _ _ e=>by(cases e)⟩,fun t e=>by cases e⟩
 ·exact⟨rfl,rfl,fun w g=>⟨.val _,fun _ _ _ e=>by(cases e),fun _ _ e=>by(cases e)⟩,fun t e=>by cases e⟩
 ·cases h
theorem B56{Ty:Type}{den:Ty→Type}:∀{ls:List (Leaf Ty den)}{vs:List Value},zms ls vs=true→ls.length=vs.length∧∀(j:Nat) lf,ls[j]?=some lf→∃ u,vs[j]?=some u∧zm lf u=true
 |[],[],_=>⟨rfl,fun j lf h=>by simp at h⟩
 |l::ls,v::vs,h=>by
  simp only[zms,Bb]at h;obtain⟨h1,h2⟩:=B56 h.2;refine⟨by simp[h1],fun j lf hj=>?_⟩;cases j with
  |zero=>simp at hj;subst hj;exact⟨v,rfl,h.1⟩
  |succ j=>simpa using h2 j lf (by simpa using hj)
 |[],_::_,h=>by cases h
 |_::_,[],h=>by cases h
theorem C3z{Ty:Type}{den:Ty→Type}{P:Bj}{U:UO Ty den}{t:Ba}{zs:List (Leaf Ty den)}
  (h:(match P.info? t with
   |some i=>Bg i.size zs.length&&(match i.zero with|some z=>zms zs z.cells.toList|none=>false)
   |none=>false)=true):A48 P U t zs:=by
 split at h
 ·rename_i i hi;simp only[Bb]at h;obtain⟨h1,h2⟩:=h;split at h2
  ·rename_i z hz;obtain⟨h3,h4⟩:=B56 h2;refine⟨i,z,hi,Cr h1,hz,by rw[h3];simp,fun j lf hj=>?_⟩;obtain⟨u,h5,h6⟩:=h4 j lf hj;obtain⟨a1,a2,a3,a4⟩:=C2u (U:=U) h6;exact⟨u,by rw[←Kb];exact h5,a1,a2,a3,a4⟩
  ·cases h2
 ·cases h
def tb6(t:Ba):TK Ty6:=
 match t with
 |3=>.int .i64
 |4=>.bool
 |5=>.int .u8
 |6=>.int .u8
 |9=>.str
 |21=>.int .i32
 |22=>.slice .u8 5
 |24=>.slice .dfn 76
 |25=>.struct .doc [(0,1)]
 |26=>.struct .doc [(0,1)]
 |27=>.int .i64
 |28=>.slice .pos 44
 |29=>.slice .step 334
 |30=>.struct .fault [(0,1),(1,1),(2,1)]
 |31=>.struct .fault [(0,1),(1,1),(2,1)]
 |36=>.slice .sys 88
 |40=>.int .i64
 |41=>.slice .lit 46
 |42=>.slice .lf 142
 |43=>.struct .pos [(0,1),(1,1)]
 |44=>.struct .pos [(0,1),(1,1)]
 |45=>.struct .lit [(0,1),(1,1),(2,1),(3,1),(4,1),(5,2)]
 |46=>.struct .lit [(0,1),(1,1),(2,1),(3,1),(4,1),(5,2)]
 |50=>.struct .tref [(0,1),(1,1)]
 |51=>.struct .tref [(0,1),(1,1)]
 |57=>.struct .arg [(0,1),(1,7),(8,2)]
 |58=>.struct .arg [(0,1),(1,7),(8,2)]
 |59=>.slice .arg 58
 |60=>.struct .dir [(0,1),(1,1),(2,2)]
 |61=>.struct .dir [(0,1),(1,1),(2,2)]
 |62=>.slice .dir 61
 |63=>.struct .note [(0,1),(1,1),(2,1)]
 |64=>.struct .note [(0,1),(1,1),(2,1)]
 |65=>.struct .iv [(0,3),(3,1),(4,2),(6,1),(7,7),(14,1),(15,2)]
 |66=>.struct .iv [(0,3),(3,1),(4,2),(6,1),(7,7),(14,1),(15,2)]
 |67=>.int .i64
 |68=>.slice .sel 70
 |69=>.struct .sel [(0,1),(1,1),(2,1),(3,1),(4,1),(5,1),(6,1),(7,2)]
 |70=>.struct .sel [(0,1),(1,1),(2,1),(3,1),(4,1),(5,1),(6,1),(7,2)]
 |71=>.int .i64
 |72=>.struct .vd [(0,1),(1,2),(3,1),(4,7),(11,1),(12,2)]
 |73=>.struct .vd [(0,1),(1,2),(3,1),(4,7),(11,1),(12,2)]
 |74=>.slice .vd 73
 |75=>.struct .dfn [(0,1),(1,1),(2,1),(3,1),(4,1),(5,1),(6,1),(7,2)]
 |76=>.struct .dfn [(0,1),(1,1),(2,1),(3,1),(4,1),(5,1),(6,1),(7,2)]
 |77=>.int .i64
 |78=>.slice .iv 66
 |79=>.struct .fd [(0,3),(3,1),(4,1),(5,2),(7,1),(8,2)]
 |80=>.struct .fd [(0,3),(3,1),(4,1),(5,2),(7,1),(8,2)]
 |81=>.slice .fd 80
 |82=>.struct .named [(0,1),(1,2)]
 |83=>.struct .named [(0,1),(1,2)]
 |84=>.slice .named 83
 |85=>.slice .vald 257
 |86=>.slice .rd 253
 |87=>.struct .sys [(0,1),(1,1),(2,3),(5,1),(6,1),(7,1),(8,1),(9,1),(10,1),(11,1),(12,1),(13,1),(14,1),(15,2)]
 |88=>.struct .sys [(0,1),(1,1),(2,3),(5,1),(6,1),(7,1),(8,1),(9,1),(10,1),(11,1),(12,1),(13,1),(14,1),(15,2)]
 |93=>.slice .tok 102
 |95=>.slice .node 153
 |96=>.struct .tree [(0,1),(1,1)]
 |97=>.struct .tree [(0,1),(1,1)]
 |100=>.int .i64
 |101=>.struct .tok [(0,1),(1,2),(3,1),(4,1),(5,1),(6,1)]
 |102=>.struct .tok [(0,1),(1,2),(3,1),(4,1),(5,1),(6,1)]
 |106=>.struct .page [(0,1),(1,1)]
 |107=>.struct .page [(0,1),(1,1)]
 |108=>.struct .page [(0,2)]
 |109=>.struct .page [(0,2)]
 |114=>.struct .out [(0,1)]
 |115=>.struct .out [(0,1)]
 |120=>.slice .rule 180
 |122=>.slice .str 9
 |125=>.struct .rdr [(0,1),(1,1)]
 |126=>.struct .rdr [(0,1),(1,1)]
 |142=>.struct .lf [(0,1),(1,7),(8,2)]
 |145=>.slice .i32 21
 |151=>.slice .i64 3
 |152=>.struct .node [(0,1),(1,1),(2,1)]
 |153=>.struct .node [(0,1),(1,1),(2,1)]
 |166=>.slice .part 236
 |178=>.slice .strs 122
 |179=>.struct .rule [(0,1),(1,1)]
 |180=>.struct .rule [(0,1),(1,1)]
 |195=>.struct .cur [(0,1),(1,1),(2,1),(3,1),(4,1)]
 |196=>.struct .cur [(0,1),(1,1),(2,1),(3,1),(4,1)]
 |203=>.int .u64
 |236=>.iface .part
 |238=>.struct .sel [(0,1),(1,1),(2,1),(3,1),(4,1),(5,1),(6,1),(7,2)]
 |252=>.struct .rd [(0,1),(1,1),(2,2)]
 |253=>.struct .rd [(0,1),(1,1),(2,2)]
 |254=>.struct .rd [(0,1),(1,1),(2,2)]
 |255=>.struct .fd [(0,3),(3,1),(4,1),(5,2),(7,1),(8,2)]
 |256=>.struct .vald [(0,3),(3,1),(4,1),(5,2)]
 |257=>.struct .vald [(0,3),(3,1),(4,1),(5,2)]
 |258=>.struct .vald [(0,3),(3,1),(4,1),(5,2)]
 |259=>.struct .iv [(0,3),(3,1),(4,2),(6,1),(7,7),(14,1),(15,2)]
 |264=>.int .u32
 |267=>.int .u64
 |285=>.slice .rs 145
 |326=>.int .u8
 |327=>.int .u8
 |329=>.int .i32
 |330=>.int .i32
 |333=>.struct .step [(0,1),(1,1),(2,1)]
 |334=>.struct .step [(0,1),(1,1),(2,1)]
 |_=>.other
theorem E9(t:Ba):S3 Bf U6 t (tb6 t):=by
 unfold tb6;split
 all_goals first|exact C4T (by kernel_rfl) (by kernel_rfl)|exact C6F (by kernel_rfl) (by kernel_rfl) (by kernel_rfl)|exact C2z (by kernel_rfl) rfl|(show Tryz.prog.underlying _=_;kernel_rfl)|trivial
def zr6(t:Ba):Option (List L6):=
 match t with
 |3=>some [.int .i64 0]
 |4=>some [.bool false]
 |5=>some [.int .u8 0]
 |6=>some [.int .u8 0]
 |9=>some [.str []]
 |21=>some [.int .i32 0]
 |22=>some [.sl .u8 [] none]
 |24=>some [.sl .dfn [] none]
 |25=>some [.sl .dfn [] none]
 |26=>some [.sl .dfn [] none]
 |27=>some [.int .i64 0]
 |28=>some [.sl .pos [] none]
 |29=>some [.sl .step [] none]
 |30=>some [.int .i64 0,.sl .pos [] none,.sl .step [] none]
 |31=>some [.int .i64 0,.sl .pos [] none,.sl .step [] none]
 |36=>some [.sl .sys [] none]
 |40=>some [.int .i64 0]
 |41=>some [.sl .lit [] none]
 |42=>some [.sl .lf [] none]
 |43=>some [.int .i64 0,.int .i64 0]
 |44=>some [.int .i64 0,.int .i64 0]
 |45=>some [.int .i64 0,.str [],.bool false,.sl .lit [] none,.sl .lf [] none,.int .i64 0,.int .i64 0]
 |46=>some [.int .i64 0,.str [],.bool false,.sl .lit [] none,.sl .lf [] none,.int .i64 0,.int .i64 0]
 |50=>some [.str [],.str []]
 |51=>some [.str [],.str []]
 |57=>some [.str [],.int .i64 0,.str [],.bool false,.sl .lit [] none,.sl .lf [] none,.int .i64 0,.int .i64 0,.int .i64 0,.int .i64 0]
 |58=>some [.str [],.int .i64 0,.str [],.bool false,.sl .lit [] none,.sl .lf [] none,.int .i64 0,.int .i64 0,.int .i64 0,.int .i64 0]
 |59=>some [.sl .arg [] none]
 |60=>some [.str [],.sl .arg [] none,.int .i64 0,.int .i64 0]
 |61=>some [.str [],.sl .arg [] none,.int .i64 0,.int .i64 0]
 |62=>some [.sl .dir [] none]
 |63=>some [.bool false,.bool false,.str []]
 |64=>some [.bool false,.bool false,.str []]
 |65=>some [.bool false,.bool false,.str [],.str [],.str [],.str [],.bool false,.int .i64 0,.str [],.bool false,.sl .lit [] none,.sl .lf [] none,.int .i64 0,.int .i64 0,.sl .dir [] none,.int .i64 0,.int .i64 0]
 |66=>some [.bool false,.bool false,.str [],.str [],.str [],.str [],.bool false,.int .i64 0,.str [],.bool false,.sl .lit [] none,.sl .lf [] none,.int .i64 0,.int .i64 0,.sl .dir [] none,.int .i64 0,.int .i64 0]
 |67=>some [.int .i64 0]
 |68=>some [.sl .sel [] none]
 |69=>some [.int .i64 0,.str [],.str [],.str [],.sl .arg [] none,.sl .dir [] none,.sl .sel [] none,.int .i64 0,.int .i64 0]
 |70=>some [.int .i64 0,.str [],.str [],.str [],.sl .arg [] none,.sl .dir [] none,.sl .sel [] none,.int .i64 0,.int .i64 0]
 |71=>some [.int .i64 0]
 |72=>some [.str [],.str [],.str [],.bool false,.int .i64 0,.str [],.bool false,.sl .lit [] none,.sl .lf [] none,.int .i64 0,.int .i64 0,.sl .dir [] none,.int .i64 0,.int .i64 0]
 |73=>some [.str [],.str [],.str [],.bool false,.int .i64 0,.str [],.bool false,.sl .lit [] none,.sl .lf [] none,.int .i64 0,.int .i64 0,.sl .dir [] none,.int .i64 0,.int .i64 0]
 |74=>some [.sl .vd [] none]
 |75=>some [.int .i64 0,.str [],.str [],.bool false,.sl .vd [] none,.sl .dir [] none,.sl .sel [] none,.int .i64 0,.int .i64 0]
 |76=>some [.int .i64 0,.str [],.str [],.bool false,.sl .vd [] none,.sl .dir [] none,.sl .sel [] none,.int .i64 0,.int .i64 0]
 |77=>some [.int .i64 0]
 |78=>some [.sl .iv [] none]
 |79=>some [.bool false,.bool false,.str [],.str [],.sl .iv [] none,.str [],.str [],.sl .dir [] none,.int .i64 0,.int .i64 0]
 |80=>some [.bool false,.bool false,.str [],.str [],.sl .iv [] none,.str [],.str [],.sl .dir [] none,.int .i64 0,.int .i64 0]
 |81=>some [.sl .fd [] none]
 |82=>some [.str [],.int .i64 0,.int .i64 0]
 |83=>some [.str [],.int .i64 0,.int .i64 0]
 |84=>some [.sl .named [] none]
 |85=>some [.sl .vald [] none]
 |86=>some [.sl .rd [] none]
 |87=>some [.int .i64 0,.bool false,.bool false,.bool false,.str [],.str [],.sl .named [] none,.sl .dir [] none,.sl .fd [] none,.sl .iv [] none,.sl .named [] none,.sl .vald [] none,.sl .rd [] none,.bool false,.sl .named [] none,.int .i64 0,.int .i64 0]
 |88=>some [.int .i64 0,.bool false,.bool false,.bool false,.str [],.str [],.sl .named [] none,.sl .dir [] none,.sl .fd [] none,.sl .iv [] none,.sl .named [] none,.sl .vald [] none,.sl .rd [] none,.bool false,.sl .named [] none,.int .i64 0,.int .i64 0]
 |93=>some [.sl .tok [] none]
 |95=>some [.sl .node [] none]
 |96=>some [.sl .node [] none,.sl .tok [] none]
 |97=>some [.sl .node [] none,.sl .tok [] none]
 |100=>some [.int .i64 0]
 |101=>some [.int .i64 0,.int .i64 0,.int .i64 0,.int .i64 0,.int .i64 0,.str [],.str []]
 |102=>some [.int .i64 0,.int .i64 0,.int .i64 0,.int .i64 0,.int .i64 0,.str [],.str []]
 |106=>some [.val (.pointer none),.sl .u8 [] none]
 |107=>some [.val (.pointer none),.sl .u8 [] none]
 |108=>some [.val (.pointer none),.sl .u8 [] none]
 |109=>some [.val (.pointer none),.sl .u8 [] none]
 |114=>some [.sl .u8 [] none]
 |115=>some [.sl .u8 [] none]
 |120=>some [.sl .rule [] none]
 |122=>some [.sl .str [] none]
 |125=>some [.sl .tok [] none,.int .i64 0]
 |126=>some [.sl .tok [] none,.int .i64 0]
 |142=>some [.str [],.int .i64 0,.str [],.bool false,.sl .lit [] none,.sl .lf [] none,.int .i64 0,.int .i64 0,.int .i64 0,.int .i64 0]
 |145=>some [.sl .i32 [] none]
 |151=>some [.sl .i64 [] none]
 |152=>some [.str [],.sl .i64 [] none,.int .i64 0]
 |153=>some [.str [],.sl .i64 [] none,.int .i64 0]
 |166=>some [.sl .part [] none]
 |178=>some [.sl .strs [] none]
 |179=>some [.str [],.sl .strs [] none]
 |180=>some [.str [],.sl .strs [] none]
 |195=>some [.sl .tok [] none,.int .i64 0,.int .i64 0,.int .i64 0,.int .i64 0]
 |196=>some [.sl .tok [] none,.int .i64 0,.int .i64 0,.int .i64 0,.int .i64 0]
 |203=>some [.int .u64 0]
 |238=>some [.int .i64 0,.str [],.str [],.str [],.sl .arg [] none,.sl .dir [] none,.sl .sel [] none,.int .i64 0,.int .i64 0]
 |252=>some [.int .i64 0,.str [],.int .i64 0,.int .i64 0]
 |253=>some [.int .i64 0,.str [],.int .i64 0,.int .i64 0]
 |254=>some [.int .i64 0,.str [],.int .i64 0,.int .i64 0]
 |255=>some [.bool false,.bool false,.str [],.str [],.sl .iv [] none,.str [],.str [],.sl .dir [] none,.int .i64 0,.int .i64 0]
 |256=>some [.bool false,.bool false,.str [],.str [],.sl .dir [] none,.int .i64 0,.int .i64 0]
 |257=>some [.bool false,.bool false,.str [],.str [],.sl .dir [] none,.int .i64 0,.int .i64 0]
 |258=>some [.bool false,.bool false,.str [],.str [],.sl .dir [] none,.int .i64 0,.int .i64 0]
 |259=>some [.bool false,.bool false,.str [],.str [],.str [],.str [],.bool false,.int .i64 0,.str [],.bool false,.sl .lit [] none,.sl .lf [] none,.int .i64 0,.int .i64 0,.sl .dir [] none,.int .i64 0,.int .i64 0]
 |264=>some [.int .u32 0]
 |267=>some [.int .u64 0]
 |285=>some [.sl .rs [] none]
 |326=>some [.int .u8 0]
 |327=>some [.int .u8 0]
 |329=>some [.int .i32 0]
 |330=>some [.int .i32 0]
 |333=>some [.str [],.int .i64 0,.bool false]
 |334=>some [.str [],.int .i64 0,.bool false]
 |_=>none
theorem F0(t:Ba)(zs:List L6)(h:zr6 t=some zs):A48 Bf U6 t zs:=by
 unfold zr6 at h;split at h
 all_goals first|(cases h;exact C3z (by kernel_rfl))|cases h
abbrev T6:=Cb→List L6→Option (Bool×E6)
abbrev TB6:=Cb→List L6→List (List L6)→Option (Bool×List L6×List (List L6))
def nav:Code→List Nat→Code
 |c,[]=>c
 | .seq a b,i::p=>match i with|0=>nav a p|_=>nav b p
 | .cond _ a b,i::p=>match i with|0=>nav a p|_=>nav b p
 | .block _ c,_::p=>nav c p
 | .loop c,_::p=>nav c p
 |c,_=>c
def body(f:Func):Code:=match f.body with|some c=>c|none=>.skip
def A0(f:Func)(p:List Nat):Code:=nav (body f) p
def NN:Nat:=18446744073709551616
def DD:Nat:=1000000
def lbN{R:Type}(nn:Nat)(E:Env Ty6 A4)(c:Code)(hid:Nat)(s:S6)(k:Ex→S6→Option R):Option R:=B1 E nn c s (A1z (E.drop hid) k)
section
variable {Ty:Type}{den:Ty→Type}{R:Type}
def A1w(body:St Ty den→(Ex→St Ty den→Option R)→Option R)(m:Nat)(k:Ex→St Ty den→Option R):Ex→St Ty den→Option R
 | .normal,s=>C9 body m s k
 |e,s=>k e s
theorem B1W(body:St Ty den→(Ex→St Ty den→Option R)→Option R)(m:Nat)(s:St Ty den)(k:Ex→St Ty den→Option R):
  C9 body (m+1) s k=body s (A1w body m k):=by
 simp only[C9]
 congr 1
 funext e s'
 cases e<;>rfl
end
deriving instance Inhabited for C2,A3J,A1,I0,A1k,Q4,Q8,B7,G3,A1t
instance:Inhabited LitT:=⟨.mk 0 [] false [] [] default⟩
deriving instance Inhabited for A1Z,X5,VdT,RdT,A2t,IvT,FdT
instance:Inhabited SelT:=⟨.mk 0 [] [] [] [] [] [] default⟩
deriving instance Inhabited for A3S,A2R,A2V,CurT,B34,B39,B1t,PartT
instance (t:Ty6):Inhabited (A4 t):=by
 cases t<;>unfold A4<;>infer_instance
inductive KD where
 |int (k:Cj)|bool|str|sl (t:Ty6) (own:Option Nat)|agg (t:Ty6)|ptr (d off:Nat)|any|slc (t:Ty6)
def lI:L6→Int
 | .int _ n=>n
 |_=>0
def lB:L6→Bool
 | .bool b=>b
 |_=>false
def lS:L6→List UInt8
 | .str s=>s
 |_=>[]
def lL(t:Ty6):L6→List (A4 t)
 | .sl u l _=>match(inferInstance:Decidable (u=t))with
  | .isTrue h=>h ▸ l
  | .isFalse _=>[]
 |_=>[]
def lA(t:Ty6):L6→A4 t
 | .agg u x=>match(inferInstance:Decidable (u=t))with
  | .isTrue h=>h ▸ x
  | .isFalse _=>default
 |_=>default
def A4T(l:L6):List Int:=lL .i32 l
def E1(l:L6):List Int:=lL .u8 l
def B1u(l:L6):List Int:=lL .i64 l
def K5(l:L6):List (List UInt8):=lL .str l
def A5x(l:L6):List (List (List UInt8)):=lL .strs l
def B3I(l:L6):List C2:=lL .pos l
def G6(l:L6):List A1:=lL .tok l
def B7r(l:L6):A1:=lA .tok l
def A1D(l:L6):LitT:=lA .lit l
def M9(l:L6):Q4:=lA .named l
def A9X(l:L6):Q8:=lA .fault l
def A9r(l:L6):I0:=lA .tref l
def W9:KD→L6→L6
 | .int k,l=>.int k (lI l)
 | .bool,l=>.bool (lB l)
 | .str,l=>.str (lS l)
 | .sl t own,l=>.sl t (lL t l) own
 | .agg t,l=>.agg t (lA t l)
 | .ptr d o,_=>.ptr d o
 | .any,_=>.any
 | .slc t,l=>.sl t (lL t l) none
def okL:KD→L6→Bool
 | .int k,.int k' _=>decide (k=k')
 | .bool,.bool _=>true
 | .str,.str _=>true
 | .sl t none,.sl u _ none=>decide (u=t)
 | .slc t,.sl u _ _=>decide (u=t)
 | .sl t (some d),.sl u _ (some e)=>decide (u=t)&&Bg d e
 | .agg t,.agg u _=>decide (u=t)
 | .ptr d o,.ptr e q=>Bg d e&&Bg o q
 | .any,.any=>true
 |_,_=>false
def A0p:List KD→List L6→Bool
 |[],[]=>true
 |k::ks,l::ls=>okL k l&&A0p ks ls
 |_,_=>false
def A7P:List (List KD)→List (List L6)→Bool
 |[],[]=>true
 |k::ks,l::ls=>A0p k l&&A7P ks ls
 |_,_=>false
def gL:Option E6→Nat→L6
 |some (.one l),0=>l
 |some (.tup ls),j=>ls.getD j .any
 |_,_=>.any
def gB:Option (List L6×List (List L6))→Nat→L6
 |some (ls,_),j=>ls.getD j .any
 |none,_=>.any
def gC:Option (List L6×List (List L6))→Nat→Nat→L6
 |some (_,cs),k,j=>(cs.getD k []).getD j .any
 |none,_,_=>.any
def okR(ks:List KD):Option E6→Bool
 |some (.one l)=>match ks with
  |[k]=>okL k l
  |_=>false
 |some (.tup ls)=>A0p ks ls&& !Bg ks.length 1
 |_=>false
def A4V(F:Option E6):Nat→List KD→List L6
 |_,[]=>[]
 |j,k::ks=>W9 k (gL F j)::A4V F (j+1) ks
def J4(ks:List KD)(F:Option E6):E6:=
 match ks with
 |[k]=>.one (W9 k (gL F 0))
 |ks=>.tup (A4V F 0 ks)
def okB(ks:List KD)(io:List (List KD)):Option (List L6×List (List L6))→Bool
 |some (ls,cs)=>A0p ks ls&&A7P io cs
 |none=>false
def A7f(F:Option (List L6×List (List L6))):Nat→List KD→List L6
 |_,[]=>[]
 |j,k::ks=>W9 k (gB F j)::A7f F (j+1) ks
def rsR(ks:List KD)(F:Option (List L6×List (List L6))):List L6:=A7f F 0 ks
def A58(F:Option (List L6×List (List L6)))(b:Nat):Nat→List KD→List L6
 |_,[]=>[]
 |j,k::ks=>W9 k (gC F b j)::A58 F b (j+1) ks
def A63(F:Option (List L6×List (List L6))):Nat→List (List KD)→List (List L6)
 |_,[]=>[]
 |b,k::ks=>A58 F b 0 k::A63 F (b+1) ks
def csR(io:List (List KD))(F:Option (List L6×List (List L6))):List (List L6):=A63 F 0 io
end Go.Aev
section
namespace Go.Aev
def D0(l:List Int):Bool:=A3 l.length 4
def M4(ls:List (List Int)):Bool:=A3 ls.length 24&&ls.all D0
def J6(c:Int):Bool:=c==9||c==32
def M5(l:List Int):Nat:=(l.takeWhile J6).length
def G2(l:List Int):Int:=M5 l
def B5(l:List Int):Bool:=l.all J6
def U0:Int→List (List Int)→Int
 |m,[]=>m
 |m,l::r=>U0 (if !B5 l&&(decide (m<0)||decide (G2 l<m))then G2 l else m) r
def U4(ls:List (List Int)):Int:=let m:=U0 (-1) (ls.drop 1);if m<0 then 0 else m
def N8(ls:List (List Int)):List (List Int):=ls.take 1++(ls.drop 1).map fun l=>l.drop (U4 ls).toNat
def Q5(ls:List (List Int)):List (List Int):=((ls.dropWhile B5).reverse.dropWhile B5).reverse
def I5(ls:List (List Int)):List (List Int):=Q5 (N8 ls)
end Go.Aev
namespace Go.Aev
section
variable {Ty:Type}{den:Ty→Type}{R:Type}
def lbC(E:Env Ty den)(c:Code)(hid n:Nat):St Ty den→(Ex→St Ty den→Option R)→Option R:=fun s k=>B1 E n c s (A1z (E.drop hid) k)
end
def B12(c:Int):Bool:=decide (48≤c)&&decide (c≤57)
def O3(c:Int):Int:=if B12 c then c - 48 else if decide (97≤c)&&decide (c≤102)then c - 87 else if decide (65≤c)&&decide (c≤70)then c - 55 else -1
def A2a:Int→List Int→Int
 |n,[]=>n
 |n,c::r=>if O3 c<0 then -1 else A2a (n*16+O3 c) r
def E4(l:List Int):Int:=if l.length<4 then -1 else A2a 0 (l.take 4)
def N5(eD low:Int):Int×Bool:=if decide (eD<55296)||decide (56320≤eD)||decide (low<56320)||decide (57344≤low)then(0,false)else(65536+(eD - 55296)*1024+(low - 56320),true)
def W6(l:List Int):Int×Int:=
 let eD:=E4 l
 if eD<0∨(56320≤eD∧eD≤57343)then(0,0)
 else if eD<55296∨57343<eD then(eD,6)
 else if 10≤l.length∧l[4]?=some 92∧l[5]?=some 117∧(N5 eD (E4 (l.drop 6))).2=true then((N5 eD (E4 (l.drop 6))).1,12)else(0,0)
def O7(c:Int):Int:=if c=34∨c=92∨c=47 then c else if c=98 then 8 else if c=102 then 12 else if c=110 then 10 else if c=114 then 13 else if c=116 then 9 else -1
def A07:List Int→Int×Int
 |_::c::r=>if 0≤O7 c then(O7 c,2)else if c=117 then W6 r else(0,0)
 |_=>(0,0)
def M8(c:Int):Bool:=if c<32 then c==9||(c==10||c==13)else decide (c≤65535)&&(decide (c<55296)||decide (57344≤c))
def D2(c:Int):Bool:=(decide (0≤c)&&decide (c<55296))||(decide (57343<c)&&decide (c≤1114111))
def inF(c:Int)(t:List UInt8):Bool:=t.any fun b=>(b.toNat:Int)==c
def u8F(c:Int):List Int:=
 if c<128 then [c]
 else if c<2048 then [192+c / 64,128+c % 64]
 else if c<65536 then [224+c / 4096,128+c / 64 % 64,128+c % 64]
 else [240+c / 262144,128+c / 4096 % 64,128+c / 64 % 64,128+c % 64]
def P3(c:Int):List Int:=if D2 c then u8F c else []
def toB(l:List Int):List UInt8:=l.map fun n=>Hr n.toNat
def B3(l:List Int):List UInt8:=toB (l.flatMap u8F)
def I4(l:List Int):List UInt8×Bool:=if l.all D2 then(B3 l,true)else([],false)
def Z6(c:Int):Bool:=M8 c&& !(c==34)&& !(c==92)&& !(c==10)&& !(c==13)
def I8(l:List Int):Int:=if l[0]?=some 92∧l[1]?=some 117 then E4 (l.drop 2)else -1
def I3:List Int→Int×Int
 |[]=>(0,0)
 |c::r=>if Z6 c then(c,1)else if c=92 then A07 (c::r)else(0,0)
def A4N:Nat→List Int→Option (List Int)
 |_,[]=>some []
 |0,_=>none
 |n+1,l=>if(I3 l).2≤0 then none else(A4N n (l.drop (I3 l).2.toNat)).map ((I3 l).1:: ·)
def A1v(l:List Int):Option (List Int):=A4N l.length l
def A4d:Option (List Int)→List UInt8×Int
 |some l=>((I4 l).1,0)
 |none=>([],60)
def X1(l:List Int):List UInt8×Int:=A4d (A1v l)
def K7(a b:List Int):List Int:=a++b
def smL(l:List Int):Bool:=decide (l.length≤1073741824)
def I6:List Int→Bool
 |34::34::34::_=>true
 |_=>false
def E3:List Int→List Int
 |92::34::34::34::r=>34::34::34::E3 r
 |c::r=>c::E3 r
 |[]=>[]
def Q6:List Int→Bool
 |92::34::34::34::r=>Q6 r
 |c::r=>if !M8 c||I6 (c::r)then false else Q6 r
 |[]=>true
def Y5:Int→List Int→Int
 |_,92::34::34::34::r=>Y5 0 r
 |_,c::r=>Y5 c r
 |last,[]=>last
def A2z(x:Int):Bool:= !(x==34)&& !(x==92)
def A6l(last:Int)(l:List Int):Bool:=Q6 l&&A2z (Y5 last l)
def N7:List Int→Bool
 |10::_=>true
 |13::r=> !(r.head? ==some 10)
 |_=>false
def H3:List Int→List Int→List (List Int)
 |cur,[]=>[cur]
 |cur,c::r=>if N7 (c::r)then cur::H3 [] r else if c=13 then H3 cur r else H3 (cur++[c]) r
def B4(l:List Int):List (List Int):=H3 [] l
def T5:Nat→List Int→List Int
 |_,[]=>[]
 |i,c::r=>if N7 (c::r)then((i+1:Nat):Int)::T5 (i+1) r else T5 (i+1) r
def R4(l:List Int):List Int:=0::T5 0 l
def H7:List (List Int)→List Int
 |[]=>[]
 |l::r=>l++r.flatMap (10:: ·)
def W1(l:List Int):List UInt8×Int:=if A6l 0 l then((I4 (H7 (I5 (B4 (E3 l))))).1,0)else([],60)
def M3:List Int→Bool
 |92::34::34::34::_=>true
 |_=>false
end Go.Aev
end
namespace Go.Aev
open Go.Lib
def smS(s:List UInt8):Bool:=decide (s.length≤67108864)
def V8(l:List UInt8):Bool:=decide ((Cu l).1=65533)&&decide ((Cu l).2=1)
def A1l:Nat→List UInt8→List Int×Nat
 |0,_=>([],0)
 |n+1,l=>if l=[]then([],0)else if V8 l then([],0)else
  (((Cu l).1:Int)::(A1l n (l.drop (Cu l).2)).1,(Cu l).2+(A1l n (l.drop (Cu l).2)).2)
def C4(l:List UInt8):List Int×Nat:=A1l l.length l
def dgF(l:List UInt8):Int×Int:=(((decodeGoB ⟨l.toArray⟩).1:Nat),((decodeGoB ⟨l.toArray⟩).2:Nat))
def isB(l:List Int):Bool:=l.all fun n=>decide (0≤n)&&decide (n≤255)
def eqI(a b:List Int):Bool:=a==b
def H5:List Int→Int
 |[a]=>a % 128
 |[a,b]=>a % 32*64+b % 64
 |[a,b,c]=>(a % 16*64+b % 64)*64+c % 64
 |[a,b,c,d]=>((a % 8*64+b % 64)*64+c % 64)*64+d % 64
 |_=>0
def P8(l:List Int):Int×Int:=if V8 (toB l)then(0,0)else(((Cu (toB l)).1:Nat),((Cu (toB l)).2:Nat))
def D7(c:Int):Int×Int×Bool:=if decide (c<65536)||decide (1114111<c)then(0,0,false)else(55296+(c - 65536) / 1024,56320+(c - 65536) % 1024,true)
def Q7(n:Int):Int:=if n<10 then 48+n else 55+n
def H0(c:Int):List Int:=[92,117,Q7 (c / 4096 % 16),Q7 (c / 256 % 16),Q7 (c / 16 % 16),Q7 (c % 16)]
def wrF(c:Int):List Int:=
 if c=34∨c=92 then [92,c]else if c=8 then [92,98]else if c=9 then [92,116]else if c=10 then [92,110]else if c=12 then [92,102]else if c=13 then [92,114]
 else if(D7 c).2.2 then H0 (D7 c).1++H0 (D7 c).2.1
 else if c<32∨c=127 then H0 c else [c]
def qtC(cs:List Int):List Int:=34::cs.flatMap wrF++[34]
def qtF(v:List UInt8):List UInt8×Int:=if(C4 v).2<v.length then([],1)else(B3 (qtC (C4 v).1),0)
def maskF:List Int→List Int
 |34::34::34::r=>92::34::34::34::maskF r
 |c::r=>c::maskF r
 |[]=>[]
def S8(ls:List (List Int)):Bool:=
 !B5 (ls.headD [])&&(!B5 (ls.getLastD [])&&(decide (ls.length=1)||ls.any fun l=> !B5 l&&decide (G2 l=0)))
def btC(cs:List Int):List Int:=[34,34,34]++(if decide (1<(B4 cs).length)|| !J6 (cs.headD 0)then [10]else [])++maskF cs++[10,34,34,34]
def btF(v:List UInt8):List UInt8×Bool:=
 if v=[]then([34,34,34,34,34,34],true)
 else if(C4 v).2<v.length then([],false)
 else if !(C4 v).1.all (fun c=>M8 c&& !(c==13))then([],false)
 else if !S8 (B4 (C4 v).1)then([],false)
 else(B3 (btC (C4 v).1),true)
end Go.Aev
namespace Go.Aev
open Go.Proofs
def F29(ac:List Int):Option (List L6×List (List L6)):=bif decide (ac.length≤140737488355328)then some ([.str (toB ac)],[[.ptr 900000 C6,.sl .u8 ac (some 92000001)]])else none
def S29:List L6→List (List L6)→Option (Bool×List L6×List (List L6))
 |[.ptr d0 o0],[[.ptr p0 q0,.sl .u8 ac (some ef)]]=>bif(Bg d0 900000&&Bg o0 0)&&(Bg p0 900000&&Bg q0 C6)&&(Bg ef 92000001)then some (okB [.str] [[.ptr 900000 C6,.sl .u8 (some 92000001)]] (F29 ac),rsR [.str] (F29 ac),csR [[.ptr 900000 C6,.sl .u8 (some 92000001)]] (F29 ac))else none
 |_,_=>none
def F47(a0:List UInt8)(a1:Int):Option E6:=bif decide (a0.length≤2)&&decide (0≤a1)&&decide (a1≤1000)then some (.one (.str (Go.Lib.repeatL a0 a1.toNat)))else none
def S47:List L6→Option (Bool×E6)
 |[.str a0,.int .i64 a1]=>some (okR [.str] (F47 a0 a1),J4 [.str] (F47 a0 a1))
 |_=>none
def F48(a0:List UInt8)(a1:List UInt8):Option E6:=bif smS a0&&(a1==[93])then some (.one (.int .i64 ((a0.count 93:Nat):Int)))else none
def S48:List L6→Option (Bool×E6)
 |[.str a0,.str a1]=>some (okR [.int .i64] (F48 a0 a1),J4 [.int .i64] (F48 a0 a1))
 |_=>none
def F52(a0:List Int):Option E6:=bif isB a0&&smL a0 then some (.tup [.sl .i32 (C4 (toB a0)).1 (some 1),.int .i64 (((C4 (toB a0)).2:Nat):Int)])else none
def S52:List L6→Option (Bool×E6)
 |[.sl .u8 a0 none]=>some (okR [.sl .i32 (some 1),.int .i64] (F52 a0),J4 [.sl .i32 (some 1),.int .i64] (F52 a0))
 |_=>none
def F65(a0:List UInt8)(a1:List UInt8):Option E6:=bif smS a0&&(a1==[32])then some (.one (.str (if Go.Lib.hasPrefix a0 a1 then a0.drop a1.length else a0)))else none
def S65:List L6→Option (Bool×E6)
 |[.str a0,.str a1]=>some (okR [.str] (F65 a0 a1),J4 [.str] (F65 a0 a1))
 |_=>none
def A27(ac:List Int):Option (List L6×List (List L6)):=some ([],[[.ptr 900000 C6,.sl .u8 ac (some 92000001)]])
def A9h:List L6→List (List L6)→Option (Bool×List L6×List (List L6))
 |[.ptr d0 o0],[[.ptr p0 q0,.sl .u8 ac (some ef)]]=>bif(Bg d0 900000&&Bg o0 0)&&(Bg p0 900000&&Bg q0 C6)&&(Bg ef 92000001)then some (okB [] [[.ptr 900000 C6,.sl .u8 (some 92000001)]] (A27 ac),rsR [] (A27 ac),csR [[.ptr 900000 C6,.sl .u8 (some 92000001)]] (A27 ac))else none
 |_,_=>none
def A2D(a0:List UInt8):Option E6:=bif smS a0 then some (.tup [.str (btF a0).1,.bool (btF a0).2])else none
def A9m:List L6→Option (Bool×E6)
 |[.str a0]=>some (okR [.str,.bool] (A2D a0),J4 [.str,.bool] (A2D a0))
 |_=>none
def A2h(a0:List UInt8):Option E6:=bif smS a0 then some (.tup [.str (qtF a0).1,.int .i64 (qtF a0).2])else none
def A9A:List L6→Option (Bool×E6)
 |[.str a0]=>some (okR [.str,.int .i64] (A2h a0),J4 [.str,.int .i64] (A2h a0))
 |_=>none
def A1E(a0:List UInt8):Option E6:=bif smS a0 then some (.tup [.str (btF a0).1,.bool (btF a0).2])else none
def A8i:List L6→Option (Bool×E6)
 |[.str a0]=>some (okR [.str,.bool] (A1E a0),J4 [.str,.bool] (A1E a0))
 |_=>none
def A1a(a0:List UInt8):Option E6:=bif smS a0 then some (.tup [.str (qtF a0).1,.int .i64 (qtF a0).2])else none
def A7s:List L6→Option (Bool×E6)
 |[.str a0]=>some (okR [.str,.int .i64] (A1a a0),J4 [.str,.int .i64] (A1a a0))
 |_=>none
def A14(a0:List Int):Option E6:=bif smL a0 then some (.tup [.str (W1 a0).1,.int .i64 (W1 a0).2])else none
def A8F:List L6→Option (Bool×E6)
 |[.sl .i32 a0 none]=>some (okR [.str,.int .i64] (A14 a0),J4 [.str,.int .i64] (A14 a0))
 |_=>none
def A1M(a0:List Int):Option E6:=bif D0 a0 then some (.tup [.str (X1 a0).1,.int .i64 (X1 a0).2])else none
def A9l:List L6→Option (Bool×E6)
 |[.sl .i32 a0 none]=>some (okR [.str,.int .i64] (A1M a0),J4 [.str,.int .i64] (A1M a0))
 |_=>none
theorem L5(a b:Nat):(Bg a b=true)=(a=b):=propext ⟨Cr,fun h=>by subst h;exact Nat.beq_refl a⟩
def B2u:KD→Bool
 | .slc _=>true
 |_=>false
def A0h:List KD→Bool
 |[]=>true
 |k::ks=> !B2u k&&A0h ks
theorem A7L(t:Ty6)(l:List (A4 t))(o:Option Nat):lL t (.sl t l o)=l:=by
 unfold lL;dsimp only;split
 ·rfl
 ·rename_i h _;exact absurd rfl h
theorem D0x(t:Ty6)(x:A4 t):lA t (.agg t x)=x:=by
 unfold lA;dsimp only;split
 ·rfl
 ·rename_i h _;exact absurd rfl h
theorem A6u{k:KD}{l:L6}(h:okL k l=true)(hx:B2u k=false):W9 k l=l:=by
 cases k with
 |slc t=>cases hx
 |int k0=>cases l<;>first|(cases h;done)|(simp only[okL,decide_eq_true_eq]at h;subst h;rfl)
 |bool=>cases l<;>first|(cases h;done)|rfl
 |str=>cases l<;>first|(cases h;done)|rfl
 |any=>cases l<;>first|(cases h;done)|rfl
 |ptr d o=>
  cases l<;>first|(cases h;done)|skip
  simp only[okL,Bb,L5]at h;obtain⟨rfl,rfl⟩:=h;rfl
 |agg t=>
  cases l<;>first|(cases h;done)|skip
  simp only[okL,decide_eq_true_eq]at h;subst h;simp only[W9,D0x]
 |sl t own=>
  cases l with
  |sl u x o=>
   cases own with
   |none=>
    cases o with
    |none=>
     simp only[okL,decide_eq_true_eq]at h;subst h;simp only[W9];rw[A7L]
    |some e=>cases h
   |some d=>
    cases o with
    |none=>cases h
    |some e=>
     simp only[okL,Bb,decide_eq_true_eq,L5]at h;obtain⟨rfl,rfl⟩:=h;simp only[W9];rw[A7L]
  |_=>cases own<;>cases h
theorem B5i{k:KD}{l:L6}(h:okL k l=true)(hc:(W9 k l).close=W9 k l):W9 k l=l.close:=by
 cases hs:B2u k with
 |false=>rw[A6u h hs]at hc ⊢;exact hc.symm
 |true=>
  cases k with
  |slc t=>
   cases l<;>first|(cases h;done)|skip
   rename_i u x o;simp only[okL,decide_eq_true_eq]at h;subst h;simp only[W9,Leaf.close];rw[A7L]
  |_=>cases hs
theorem B5Q(F:Option E6)(all:List L6)(hF:F=some (.tup all)):∀(ks:List KD)(ls:List L6)(j:Nat),all.drop j=ls→A0p ks ls=true→A0h ks=true→A4V F j ks=ls
 |[],[],j,_,_,_=>rfl
 |[],_::_,j,_,h,_=>by cases h
 |k::ks,[],j,_,h,_=>by cases h
 |k::ks,l::ls,j,hd,h,hx=>by
  simp only[A0p,Bb]at h;simp only[A0h,Bb,Cd]at hx;have hj:all[j]?=some l:=by
   have:=congrArg (fun x=>x[0]?) hd;simpa using this
  have aU:all.drop (j+1)=ls:=by
   have h1:all.drop (j+1)=(all.drop j).drop 1:=by rw[Ec]
   rw[h1,hd];rfl
  have hg:gL F j=l:=by rw[hF];cases j<;>simp[gL,Ci,hj]
  simp only[A4V,hg,A6u h.1 hx.1,B5Q F all hF ks ls (j+1) aU h.2 hx.2]
theorem B0Z{ks:List KD}{F:Option E6}(h:okR ks F=true)(hx:A0h ks=true):F=some (J4 ks F):=by
 unfold okR at h;split at h
 ·rename_i l;split at h
  ·rename_i k;simp only[A0h,Bb,Cd]at hx;simp only[J4,gL,A6u h hx.1]
  ·cases h
 ·rename_i ls;simp only[Bb,Cd]at h;have:=B5Q (some (.tup ls)) ls rfl ks ls 0 (by simp) h.1 hx;cases ks with
  |nil=>simp only[J4,this]
  |cons k ks=>
   cases ks with
   |nil=>have:=h.2;cases this
   |cons k2 ks=>simp only[J4,this]
 ·cases h
theorem B6f(F:Option (List L6×List (List L6)))(all:List L6)(cs:List (List L6))(hF:F=some (all,cs)):∀(ks:List KD)(ls:List L6)(j:Nat),all.drop j=ls→A0p ks ls=true→A0h ks=true→A7f F j ks=ls
 |[],[],j,_,_,_=>rfl
 |[],_::_,j,_,h,_=>by cases h
 |k::ks,[],j,_,h,_=>by cases h
 |k::ks,l::ls,j,hd,h,hx=>by
  simp only[A0p,Bb]at h;simp only[A0h,Bb,Cd]at hx;have hj:all[j]?=some l:=by
   have:=congrArg (fun x=>x[0]?) hd;simpa using this
  have aU:all.drop (j+1)=ls:=by
   have h1:all.drop (j+1)=(all.drop j).drop 1:=by rw[Ec]
   rw[h1,hd];rfl
  have hg:gB F j=l:=by rw[hF];simp[gB,Ci,hj]
  simp only[A7f,hg,A6u h.1 hx.1,B6f F all cs hF ks ls (j+1) aU h.2 hx.2]
theorem B6J(F:Option (List L6×List (List L6)))(rs:List L6)(cs:List (List L6))(hF:F=some (rs,cs))(b:Nat)(all:List L6)(hb:cs[b]?=some all):∀(ks:List KD)(ls:List L6)(j:Nat),all.drop j=ls→A0p ks ls=true→A0h ks=true→A58 F b j ks=ls
 |[],[],j,_,_,_=>rfl
 |[],_::_,j,_,h,_=>by cases h
 |k::ks,[],j,_,h,_=>by cases h
 |k::ks,l::ls,j,hd,h,hx=>by
  simp only[A0p,Bb]at h;simp only[A0h,Bb,Cd]at hx;have hj:all[j]?=some l:=by
   have:=congrArg (fun x=>x[0]?) hd;simpa using this
  have aU:all.drop (j+1)=ls:=by
   have h1:all.drop (j+1)=(all.drop j).drop 1:=by rw[Ec]
   rw[h1,hd];rfl
  have hg:gC F b j=l:=by rw[hF];simp[gC,Ci,hb,hj]
  simp only[A58,hg,A6u h.1 hx.1,B6J F rs cs hF b all hb ks ls (j+1) aU h.2 hx.2]
def A57:List (List KD)→Bool
 |[]=>true
 |k::ks=>A0h k&&A57 ks
theorem B4H(F:Option (List L6×List (List L6)))(rs:List L6)(all:List (List L6))(hF:F=some (rs,all)):∀(ks:List (List KD))(cs:List (List L6))(b:Nat),all.drop b=cs→A7P ks cs=true→A57 ks=true→A63 F b ks=cs
 |[],[],b,_,_,_=>rfl
 |[],_::_,b,_,h,_=>by cases h
 |k::ks,[],b,_,h,_=>by cases h
 |k::ks,c::cs,b,hd,h,hx=>by
  simp only[A7P,Bb]at h;simp only[A57,Bb]at hx;have hj:all[b]?=some c:=by
   have:=congrArg (fun x=>x[0]?) hd;simpa using this
  have aU:all.drop (b+1)=cs:=by
   have h1:all.drop (b+1)=(all.drop b).drop 1:=by rw[Ec]
   rw[h1,hd];rfl
  simp only[A63,B6J F rs all hF b c hj k c 0 (by simp) h.1 hx.1,B4H F rs all hF ks cs (b+1) aU h.2 hx.2]
theorem D08{ks:List KD}{io:List (List KD)}{F:Option (List L6×List (List L6))}(h:okB ks io F=true)(hx:A0h ks=true)(hy:A57 io=true):F=some (rsR ks F,csR io F):=by
 cases F with
 |none=>cases h
 |some p=>
  obtain⟨ls,cs⟩:=p;simp only[okB,Bb]at h;simp only[rsR,csR,B6f (some (ls,cs)) ls cs rfl ks ls 0 (by simp) h.1 hx,B4H (some (ls,cs)) ls cs rfl io cs 0 (by simp) h.2 hy]
def sG(S:List L6→Option (Bool×E6)):List L6→Option E6:=fun ls=>M1 (S ls)
def sGB(S:List L6→List (List L6)→Option (Bool×List L6×List (List L6))):List L6→List (List L6)→Option (List L6×List (List L6)):=fun ls cs=>M1 (S ls cs)
theorem C89{P:Bj}{I:Inv}{f:Cb}{S:List L6→Option (Bool×E6)}(h:Sound P U6 I f (sG S)){ls:List L6}{r:E6}(hr:S ls=some (true,r)):(∀ args w,(Cf f args).run P w=.ok (.enter f args) w)∧A1R P U6 I f ls r:=
 ⟨h.enter,h.ok ls r (by simp only[sG,hr,M1])⟩
theorem D0g{P:Bj}{I:Inv}{f:Cb}{S:List L6→List (List L6)→Option (Bool×List L6×List (List L6))}(h:H9 P U6 I f (sGB S)){ls:List L6}{cs:List (List L6)}{rs:List L6}{av:List (List L6)}(hr:M1 (S ls cs)=some (rs,av)):
 (∀ args w,(Cf f args).run P w=.ok (.enter f args) w)∧X9 P U6 I f ls cs rs av:=⟨h.enter,h.ok ls cs rs av hr⟩
theorem A0A{α:Type}{b:Bool}{x y:α}(h:M1 (some (b,x))=some y):b=true∧x=y:=by
 cases b with
 |false=>cases h
 |true=>cases h;exact⟨rfl,rfl⟩
theorem L8{α:Type}{c:Bool}{x:Option (Bool×α)}{y:α}(h:M1 (bif c then x else none)=some y):c=true∧M1 x=some y:=by
 cases c with
 |false=>cases h
 |true=>exact⟨rfl,h⟩
theorem E2{F:Option E6}{ks:List KD}{X:Option E6}(gu:X=F)(hx:A0h ks=true){r:E6}(h:M1 (some (okR ks F,J4 ks F))=some r):X=some r:=by
 obtain⟨h1,h2⟩:=A0A h;rw[gu,B0Z h1 hx,h2]
theorem P0{F:Option (List L6×List (List L6))}{ks:List KD}{io:List (List KD)}{X:Option (List L6×List (List L6))}(gu:X=F)(hx:A0h ks=true)(hy:A57 io=true){r:List L6×List (List L6)}(h:M1 (some (okB ks io F,rsR ks F,csR io F))=some r):X=some r:=by
 obtain⟨h1,h2⟩:=A0A h;rw[gu,D08 h1 hx hy,h2]
def A0M:E6→E6
 | .one l=>.one l.close
 | .tup ls=>.tup (G4 ls)
 |e=>e
theorem B2p(e:E6)(hi:∀ d ls,e≠ .bx d ls)(hs:∀ ls,e≠ .st ls)(d:Nat):(A0M e).has d=false:=by
 cases e with
 |one l=>simp only[A0M,Ent.has];exact A4t l d
 |tup ls=>
  simp only[A0M,Ent.has];clear hi hs
  induction ls with
  |nil=>rfl
  |cons l ls ih=>simp only[G4,List.any_cons,A4t,Hj];exact ih
 |iter s p=>rfl
 |bx d ls=>exact absurd rfl (hi d ls)
 |st ls=>exact absurd rfl (hs ls)
theorem Post.closed{B:Bs}{g':Gh}{r:E6}{v:Value}{w':World}(h:Post U6 B g' r v w')(hb:∀ d ls,r≠ .bx d ls)(hs:∀ ls,r≠ .st ls):Post U6 B g' (A0M r) v w':=by
 refine{os:=h.os,tape:=h.tape,output:=h.output,size:=h.size,frame:=h.frame,ext:=h.ext,zero:=h.zero,rep:=?_,nit:=?_,tip:=fun d hd=>?_,disj:=fun d e b hd=>?_,mine:=fun d b hd=>?_}
 ·have:=h.rep;cases r with
  |one l=>exact LRep.closed (show LRep U6 w' g' l v from this).1
  |tup ls=>
   obtain⟨vs,h1,h2⟩:=this;exact⟨vs,h1,LsRep.close h2⟩
  |iter s p=>exact this
  |bx d ls=>exact absurd rfl (hb d ls)
  |st ls=>exact absurd rfl (hs ls)
 ·have:=h.nit;cases r<;>first|rfl|exact this
 ·rw[B2p r hb hs]at hd;cases hd
 ·rw[B2p r hb hs]at hd;cases hd
 ·rw[B2p r hb hs]at hd;cases hd
theorem Sound.close{P:Bj}{I:Inv}{f:Cb}{S0 S:List L6→Option E6}(h:Sound P U6 I f S0)(hS:∀ ls r,S ls=some r→∃ r0,S0 ls=some r0∧r=A0M r0∧(∀ d ls,r0≠ .bx d ls)∧∀ ls,r0≠ .st ls):Sound P U6 I f S:=by
 refine⟨h.enter,fun ls r hr=>?_⟩;obtain⟨r0,h1,rfl,h2,h3⟩:=hS ls r hr;intro w g vs hI hz aq dA db;refine(h.ok ls r0 h1 w g vs hI hz aq dA db).mono fun e w' hw=>?_;obtain⟨v,g',h4,h5⟩:=hw;exact⟨v,g',h4,h5.closed h2 h3⟩
def A9R:KD→Bool
 | .sl _ (some _)=>false
 | .ptr _ _=>false
 |_=>true
theorem B7w{k:KD}{l:L6}(h:A9R k=true):(W9 k l).close=W9 k l:=by
 cases k with
 |sl t o=>cases o<;>first|rfl|cases h
 |ptr d o=>cases h
 |_=>rfl
theorem B6p(F:Option E6)(all:List L6)(hF:F=some (.tup all)):∀(ks:List KD)(ls:List L6)(j:Nat),all.drop j=ls→A0p ks ls=true→ks.all A9R=true→A4V F j ks=G4 ls
 |[],[],j,_,_,_=>rfl
 |[],_::_,j,_,h,_=>by cases h
 |k::ks,[],j,_,h,_=>by cases h
 |k::ks,l::ls,j,hd,h,hx=>by
  simp only[A0p,Bb]at h;simp only[Fp,Bb]at hx;have hj:all[j]?=some l:=by
   have:=congrArg (fun x=>x[0]?) hd;simpa using this
  have aU:all.drop (j+1)=ls:=by
   have h1:all.drop (j+1)=(all.drop j).drop 1:=by rw[Ec]
   rw[h1,hd];rfl
  have hg:gL F j=l:=by rw[hF];cases j<;>simp[gL,Ci,hj]
  simp only[A4V,G4,hg,B5i h.1 (B7w hx.1),B6p F all hF ks ls (j+1) aU h.2 hx.2]
theorem C6l{ks:List KD}{F:Option E6}(h:okR ks F=true)(hx:ks.all A9R=true):∃ r0,F=some r0∧J4 ks F=A0M r0∧(∀ d ls,r0≠ .bx d ls)∧∀ ls,r0≠ .st ls:=by
 unfold okR at h;split at h
 ·rename_i l;split at h
  ·rename_i k;simp only[Fp,Bb]at hx;exact⟨_,rfl,by simp only[J4,gL,A0M,B5i h (B7w hx.1)],fun d ls=>by simp,fun ls=>by simp⟩
  ·cases h
 ·rename_i ls;simp only[Bb,Cd]at h;have:=B6p (some (.tup ls)) ls rfl ks ls 0 (by simp) h.1 hx;refine⟨_,rfl,?_,fun d ls=>by simp,fun ls=>by simp⟩;cases ks with
  |nil=>simp only[J4,this,A0M]
  |cons k ks=>
   cases ks with
   |nil=>have:=h.2;cases this
   |cons k2 ks=>simp only[J4,this,A0M]
 ·cases h
theorem A6n{F:Option E6}{ks:List KD}{X:Option E6}(gu:X=F)(hx:ks.all A9R=true){r:E6}(h:M1 (some (okR ks F,J4 ks F))=some r):∃ r0,X=some r0∧r=A0M r0∧(∀ d ls,r0≠ .bx d ls)∧∀ ls,r0≠ .st ls:=by
 obtain⟨h1,h2⟩:=A0A h;obtain⟨r0,h3,h4,h5⟩:=C6l h1 hx;exact⟨r0,gu.trans h3,by rw[←h2,h4],h5⟩
structure HB(I:Inv):Prop where
 mono:∀ w m w' m',I w m→Ext w m w' m'→I w' m'
 s29:H9 Bf U6 I 29 (sGB S29)
 s138:H9 Bf U6 I 138 (sGB A9h)
 s47:Sound Bf U6 I 47 (sG S47)
 s48:Sound Bf U6 I 48 (sG S48)
 s65:Sound Bf U6 I 65 (sG S65)
 s155:Sound Bf U6 I 155 (sG A9m)
 s156:Sound Bf U6 I 156 (sG A9A)
 s163:Sound Bf U6 I 163 (sG A8i)
 s164:Sound Bf U6 I 164 (sG A7s)
 s212:Sound Bf U6 I 212 (sG A8F)
 s214:Sound Bf U6 I 214 (sG A9l)
 s52:Sound Bf U6 I 52 (sG S52)
end Go.Aev
section
open Go.Lib
namespace Go.Aev
variable {Ty:Type}{den:Ty→Type}
def ArrN(w:World)(sz:Nat)(v:Value)(n:Nat)(xs:List Value):Prop:=
 xs.length=n*sz∧∃ a cap,v=.slice a n cap∧n≤cap∧(cap=0∨∃ b c e fz,a=some ⟨b,0,none⟩∧w.heap[b]?=some (.cells c e fz)∧cap*sz≤c.size∧
  fz.2=0∧∀(j:Nat) x,xs[j]?=some x→c[j]?=some x)
def D6(v:Value):Option Nat:=
 match v with
 | .slice (some a) _ cap=>if cap=0 then none else some a.block
 |_=>none
theorem X4{b off len cap:Nat}(h:cap≠0):D6 (.slice (some ⟨b,off,none⟩) len cap)=some b:=by simp[D6,h]
theorem A75{a:Option Addr}{n m cap:Nat}:D6 (.slice a n cap)=D6 (.slice a m cap):=by cases a<;>rfl
structure KM(w:World)(m:Nat→Nat)(w':World)(m':Nat→Nat)(S:Nat→Prop):Prop where
 os:w'.os=w.os
 tape:w'.tape=w.tape
 output:w'.output=w.output
 size:w.heap.size≤w'.heap.size
 heap:∀ b,b<w.heap.size→¬S b→w'.heap[b]?=w.heap[b]? ∧m' b=m b
 ext:Ext w m w' m'
 zero:∀ b,w'.heap.size≤b→m' b=0
section
variable {w w' qy:World}{v:Value}{xs:List Value}{S T:Nat→Prop}{m m' wc:Nat→Nat}{sz n:Nat}
theorem KM.refl(w:World)(m:Nat→Nat)(S:Nat→Prop)(hz:∀ b,w.heap.size≤b→m b=0):KM w m w m S:=⟨rfl,rfl,rfl,Bh _,fun _ _ _=>⟨rfl,rfl⟩,Ext.refl _ _,hz⟩
theorem KM.mono(k:KM w m w' m' S)(h:∀ b,b<w.heap.size→S b→T b):KM w m w' m' T:=
 ⟨k.os,k.tape,k.output,k.size,fun b hb hs=>k.heap b hb fun e=>hs (h b hb e),k.ext,k.zero⟩
theorem KM.trans(k:KM w m w' m' S)(l:KM w' m' qy wc T)(h:∀ b,b<w.heap.size→T b→S b):KM w m qy wc S:=
 ⟨l.os.trans k.os,l.tape.trans k.tape,l.output.trans k.output,Dn k.size l.size,fun b hb hs=>by
  have h1:=k.heap b hb hs;have h2:=l.heap b (Dm hb k.size) fun e=>hs (h b hb e);exact⟨h2.1.trans h1.1,h2.2.trans h1.2⟩,k.ext.trans l.ext,l.zero⟩
theorem ArrN.frame(h:ArrN w sz v n xs)(hf:∀ b,D6 v=some b→w'.heap[b]?=w.heap[b]?):ArrN w' sz v n xs:=by
 obtain⟨hl,a,cap,hv,aQ,hc⟩:=h;refine⟨hl,a,cap,hv,aQ,?_⟩;by_cases h0:cap=0
 ·exact .inl h0
 obtain⟨b,c,e,fz,ha,hb,h1,h2,h3⟩:=hc.resolve_left h0;exact .inr ⟨b,c,e,fz,ha,by rw[hf b (by rw[hv,ha];exact X4 h0)];exact hb,h1,h2,h3⟩
theorem ArrN.lt(h:ArrN w sz v n xs){b:Nat}(hs:D6 v=some b):b<w.heap.size:=by
 obtain⟨hl,a,cap,hv,aQ,hc⟩:=h;by_cases h0:cap=0
 ·rw[hv,h0]at hs;cases a<;>simp[D6]at hs
 obtain⟨b',c,e,fz,ha,hb,_⟩:=hc.resolve_left h0;rw[hv,ha,X4 h0]at hs;cases hs;exact(Cp.1 hb).1
theorem KM.arr(k:KM w m w' m' S)(h:ArrN w sz v n xs)(hS:∀ b,D6 v=some b→¬S b):ArrN w' sz v n xs:=
 h.frame fun b hb=>(k.heap b (h.lt hb) (hS b hb)).1
theorem KM.mark(k:KM w m w' m' S){b:Nat}(hb:b<w.heap.size)(hs:¬S b):m' b=m b:=(k.heap b hb hs).2
theorem ArrN.len(h:ArrN w sz v n xs):∃ a cap,v=.slice a n cap:=by
 obtain⟨_,a,cap,hv,_⟩:=h;exact⟨a,cap,hv⟩
theorem ArrN.xlen(h:ArrN w sz v n xs):xs.length=n*sz:=h.1
theorem ArrN.nil:ArrN w sz (.slice none 0 0) 0 []:=⟨by simp,none,0,rfl,Bh _,.inl rfl⟩
theorem ArrN.at(h:ArrN w sz v n xs){j:Nat}{x:Value}(hj:xs[j]?=some x):∃ b cap,v=.slice (some ⟨b,0,none⟩) n cap∧cap≠0∧D6 v=some b∧
  w.cell? ⟨b,j,none⟩=some x∧w.frozen? ⟨b,j,none⟩=false:=by
 have bQ:=(Jj.1 hj).1;obtain⟨hl,a,cap,hv,aQ,hc⟩:=h;have h0:cap≠0:=by
  intro h0;have:n=0:=by omega
  rw[hl,this]at bQ;simp at bQ
 obtain⟨b,c,e,fz,ha,hb,h1,h2,h3⟩:=hc.resolve_left h0;refine⟨b,cap,by rw[hv,ha],h0,by rw[hv,ha];exact X4 h0,?_,?_⟩
 ·simp[Cm,hb,h3 j x hj]
 ·have aB:j<cap*sz:=Dm (by rw[←hl];exact bQ) (Ea _ aQ);simp only[Hp,hb];simp;omega
theorem ArrN.blk(h:ArrN w sz v n xs)(hn:0<n):∃ b cap,v=.slice (some ⟨b,0,none⟩) n cap∧cap≠0∧D6 v=some b∧n≤cap∧∀(j:Nat) x,xs[j]?=some x→w.cell? ⟨b,j,none⟩=some x∧w.frozen? ⟨b,j,none⟩=false:=by
 obtain⟨hl,a,cap,hv,aQ,hc⟩:=id h;have h0:cap≠0:=by omega
 obtain⟨b,c,e,fz,ha,hb,h1,h2,h3⟩:=hc.resolve_left h0;refine⟨b,cap,by rw[hv,ha],h0,by rw[hv,ha];exact X4 h0,aQ,fun j x hj=>?_⟩;obtain⟨b',fo,dj,_,_,h4,h5⟩:=h.at hj;rw[hv,ha]at dj;cases dj;exact⟨h4,h5⟩
theorem ArrN.first(P:Bj)(h:ArrN w sz v n xs):∀ w':World,w'.heap=w.heap→(Hh sz n v).run P w'=.ok xs.toArray w':=by
 intro w' eT;obtain⟨hl,a,cap,rfl,aQ,hc⟩:=h;by_cases h0:cap=0
 ·have h1:n=0:=by omega
  subst h1;have h2:xs=[]:=Fm (by simpa using hl);subst h2;cases a<;>simp[Hh,loadCells,loadCellsFrom]
 obtain⟨b,c,e,fz,rfl,hb,h1,h2,h3⟩:=hc.resolve_left h0;refine run_firstCells_some w' sz n ⟨b,0,none⟩ n cap xs hl (fun j u hu=>?_);rw[Cy];simp[Cm,eT,hb,h3 j u hu]
theorem ArrN.set(h:ArrN w sz v n xs){j b cap:Nat}(hj:j<n*sz)(hv:v=.slice (some ⟨b,0,none⟩) n cap)(x:Value):ArrN (w.setCell ⟨b,j,none⟩ x) sz v n (xs.set j x):=by
 obtain⟨hl,a,fo,dj,aQ,hc⟩:=h;rw[hv]at dj;have h4:=dj;simp only[Hq]at h4;obtain⟨nX,_,rfl⟩:=h4;have h0:cap≠0:=by
  intro h0;have:n=0:=by omega
  rw[this]at hj;simp at hj
 obtain⟨b',c,e,fz,ha,hb,h1,h2,h3⟩:=hc.resolve_left h0;rw[ha]at nX;cases nX;refine⟨by rw[List.length_set];exact hl,_,cap,hv,aQ,.inr ⟨b,_,e,fz,rfl,A9F w b j x c e fz hb,by simpa using h1,h2,fun i y hi=>?_⟩⟩;rw[Kc];rw[List.getElem?_set]at hi;by_cases cB:j=i
 ·subst cB;rw[if_pos rfl,if_pos (by omega)]at hi;have aB:j<cap*sz:=Dm hj (Ea _ aQ);rw[if_pos rfl,if_pos (by omega)];exact hi
 ·rw[if_neg cB]at hi;rw[if_neg cB];exact h3 i y hi
theorem B4z(w:World)(m:Nat→Nat){b off:Nat}(x:Value)(hm:m b=0)(hz:∀ b,w.heap.size≤b→m b=0):KM w m (w.setCell ⟨b,off,none⟩ x) m (fun k=>k=b):=by
 refine⟨rfl,rfl,rfl,by simp[Ga],fun k _ hk=>⟨A61 w b off k x hk,rfl⟩,⟨?_,fun k o ho=>?_,fun _=>Bh _⟩,fun k hk=>hz k (by simpa [Ga]using hk)⟩
 ·intro k c e fz h;by_cases hk:k=b
  ·subst hk;exact⟨_,fz,A9F w k off x c e fz h⟩
  ·exact⟨c,fz,by rw[A61 w b off k x hk];exact h⟩
 ·have hk:k≠b:=fun e=>by rw[e,hm]at ho;omega
  exact Bw (a:=⟨k,o,none⟩) (A61 w b off k x hk)
theorem G7(w:World)(m:Nat→Nat)(o:Obj)(hz:∀ b,w.heap.size≤b→m b=0):KM w m (w.alloc o) m (fun _=>False):=by
 have hh:∀ b,b<w.heap.size→(w.alloc o).heap[b]?=w.heap[b]? :=fun b hb=>by
  show(w.heap.push o)[b]?=_;rw[Eg,if_neg (by omega)]
 have aC:(w.alloc o).heap.size=w.heap.size+1:=by show(w.heap.push o).size=_;rw[Hl]
 refine⟨rfl,rfl,rfl,by omega,fun b hb _=>⟨hh b hb,rfl⟩,⟨A0X rfl,fun k o' ho=>Bw (a:=⟨k,o',none⟩) (hh k ?_),fun _=>Bh _⟩,fun k hk=>hz k (by omega)⟩;rcases Cw k w.heap.size with h|h
 ·exact h
 ·rw[hz k h]at ho;omega
theorem C0m{w w':World}{m:Nat→Nat}{o:Obj}(hh:w'.heap=w.heap.push o)(h1:w'.os=w.os)(h2:w'.tape=w.tape)(h3:w'.output=w.output)(hz:∀ b,w.heap.size≤b→m b=0):KM w m w' m (fun _=>False):=by
 have hb:∀ b,b<w.heap.size→w'.heap[b]?=w.heap[b]? :=fun b hb=>by
  rw[hh,Eg,if_neg (by omega)]
 have aC:w'.heap.size=w.heap.size+1:=by rw[hh,Hl]
 refine⟨h1,h2,h3,by omega,fun b bw _=>⟨hb b bw,rfl⟩,⟨A0X hh,fun k o' ho=>Bw (a:=⟨k,o',none⟩) (hb k ?_),fun _=>Bh _⟩,fun k hk=>hz k (by omega)⟩;rcases Cw k w.heap.size with h|h
 ·exact h
 ·rw[hz k h]at ho;omega
theorem C3b(w:World)(m:Nat→Nat)(o:Obj)(hz:∀ b,w.heap.size≤b→m b=0):KM w m (w.drew.alloc o) m (fun _=>False):=by
 have hh:∀ b,b<w.heap.size→(w.drew.alloc o).heap[b]?=w.heap[b]? :=fun b hb=>by
  show(w.heap.push o)[b]?=_;rw[Eg,if_neg (by omega)]
 have aC:(w.drew.alloc o).heap.size=w.heap.size+1:=by show(w.heap.push o).size=_;rw[Hl]
 refine⟨rfl,rfl,rfl,by omega,fun b hb _=>⟨hh b hb,rfl⟩,⟨A0X rfl,fun k o' ho=>Bw (a:=⟨k,o',none⟩) (hh k ?_),fun _=>Bh _⟩,fun k hk=>hz k (by omega)⟩;rcases Cw k w.heap.size with h|h
 ·exact h
 ·rw[hz k h]at ho;omega
theorem A0Y{w1:World}{c:Array Value}{e:Ba}{cap:Nat}(hl:xs.length=n*sz)(hw:w1.heap=w.heap.push (.cells c e))(aQ:n≤cap)(cH:cap*sz≤c.size)(hx:∀(j:Nat) x,xs[j]?=some x→c[j]?=some x):
  ArrN w1 sz (.slice (some ⟨w.heap.size,0,none⟩) n cap) n xs:=
 ⟨hl,_,cap,rfl,aQ,.inr ⟨w.heap.size,c,e,(0,0),rfl,by rw[hw];simp,cH,rfl,hx⟩⟩
theorem ArrN.cut{a:Option Addr}{cap:Nat}(h:ArrN w sz (.slice a n cap) n xs){k:Nat}(hk:k≤n):ArrN w sz (.slice a k cap) k (xs.take (k*sz)):=by
 obtain⟨hl,a',fo,hv,aQ,hc⟩:=h;cases hv;have:k*sz≤n*sz:=Ea _ hk;refine⟨by rw[List.length_take];omega,a,cap,rfl,by omega,?_⟩;rcases hc with h0|⟨b,c,e,fz,ha,hb,h1,h2,h3⟩
 ·exact .inl h0
 ·refine .inr ⟨b,c,e,fz,ha,hb,h1,h2,fun j x hj=>h3 j x ?_⟩;rw[Cx]at hj;split at hj
  ·exact hj
  ·cases hj
theorem A3g{P:Bj}{t u ty e:Ba}(ht:P.underlying t=some (.slice e))(hu:A8t P u){i:TypeInfo}{z:Value}(hi:P.info? e=some i)(aC:i.size=sz)(hz:i.zero=some z)(et:z.cells.size=sz)
  {y:Value}{k:Nat}{ys:List Value}(h:ArrN w sz v n xs)(au:(Builtin.lenOf y).run P w=.ok k w)(bG:∀ w':World,w'.heap=w.heap→(Hh sz k y).run P w'=.ok ys.toArray w')(gR:ys.length=k*sz)
  (aF:∀ x∈ys,x.oneCell'=true)(hm:∀ b,D6 v=some b→m b=0)(mP:∀ b,w.heap.size≤b→m b=0)(cX:(n+k)*i.bytes≤140737488355328)(lF:0<i.bytes):
  ∃ v' w',(Jx #[t,u] ty #[v,y]).run P w=.ok v' w'∧ArrN w' sz v' (n+k) (xs++ys)∧KM w m w' m (fun b=>D6 v=some b)∧(∀ b,D6 v'=some b→D6 v=some b∨w.heap.size≤b):=by
 have aW:=h.first P;have h0:=h;obtain⟨hl,a0,cap,rfl,aQ,hc⟩:=h;have nz:n+k≤140737488355328:=Dn (Nat.le_mul_of_pos_right _ lF) cX;have eY:(xs++ys).length=(n+k)*sz:=by rw[List.length_append,hl,gR,Gy]
 by_cases jP:cap<n+k
 ·have ag:=B40 (P:=P) w t u ty e i z ht hu hi hz a0 n cap xs (by rw[aC];exact aW) y k ys au (by rw[aC];exact bG) jP (by omega) cX;have bc:n+k≤grownCap w (n+k) cap e:=grownCap_ge _ _ _ _;have hk:=C3b w m (.cells (xs.toArray++ys.toArray++Builtin.zeroCells z.cells (grownCap w (n+k) cap e - (n+k))) e) mP;refine⟨_,_,ag,?_,hk.mono fun _ _ h=>h.elim,fun b hb=>?_⟩
  ·refine A0Y (w:=w) eY rfl bc ?_ (fun j x hj=>?_)
   ·simp only[Array.size_append,List.size_toArray,size_zeroCells,et,hl,gR, ←Gy];exact Ea _ (by omega)
   ·have aB:=(Jj.1 hj).1;rw[Ft (by simpa using aB)];simpa using hj
  ·right
   by_cases we:grownCap w (n+k) cap e=0
   ·rw[we]at hb;simp[D6]at hb
   ·rw[X4 we]at hb;cases hb;exact Bh _
 ·by_cases fD:cap=0
  ·have gi:n=0:=by omega
   have eB:k=0:=by omega
   subst gi;subst eB;have xV:ys=[]:=Fm (by simpa using gR);subst xV;have ag:=A9v (P:=P) w t u ty e i ht hu hi a0 0 cap y 0 [] au (by rw[aC];simpa using bG w rfl) w (fun a1 _=>by simp[Dp]) (fun _=>rfl) (by simp);refine⟨_,_,ag,by rw[Et];exact h0,KM.refl _ _ _ mP,fun b hb=>.inl ?_⟩;rw[fD]at hb;cases a0<;>simp[D6]at hb
  obtain⟨b,c,e',fz,rfl,hb,h1,h2,h3⟩:=hc.resolve_left fD;have gf:(n+k)*sz≤cap*sz:=Ea _ (by omega);rw[Gy]at gf;obtain⟨s1,⟨c',s2,s3,s4,s5⟩,s6,s7,s8,s9,ld⟩:=A4J P b e' fz ys (n*sz) w c hb (by omega) (fun j h5 h6=>by omega) aF;have ag:=A9v (P:=P) w t u ty e i ht hu hi (some ⟨b,0,none⟩) n cap y k ys au (by rw[aC];exact bG w rfl) (C3 w b (n*sz) ys)
   (fun a1 oZ=>by
    cases oZ;rw[Cy,aC,Ch];exact s1 ⟨b,n*sz,none⟩ 0 (by simp) (Cg _)) (fun e=>by cases e) (by omega)
  have jv:m b=0:=hm b (X4 fD);refine⟨_,_,ag,⟨eY,_,cap,rfl,by omega,.inr ⟨b,c',e',fz,rfl,s2,by rw[s3];exact h1,h2,fun j x hj=>?_⟩⟩,
   ⟨s8,s9,ld,by rw[s6];exact Bh _,fun k' _ hk=>⟨s7 k' (fun e=>hk (by rw[e];exact X4 fD)),rfl⟩,⟨A5X hb s2 s7,fun k' o ho=>?_,fun _=>Bh _⟩,fun k' ga=>mP k' (by rw[s6]at ga;exact ga)⟩,fun b' bw=>.inl ?_⟩
  ·by_cases bQ:j<n*sz
   ·rw[List.getElem?_append_left (by omega)]at hj;rw[s4 j (.inl bQ)];exact h3 j x hj
   ·rw[List.getElem?_append_right (by omega)]at hj;have:=s5 _ x hj;rw[show n*sz+(j - xs.length)=j by omega]at this;exact this
  ·have ga:k'≠b:=fun e=>by rw[e,jv]at ho;omega
   exact Bw (a:=⟨k',o,none⟩) (s7 k' ga)
  ·rw[←bw];exact A75
theorem A5P{U:UO Ty den}(hU:U.Ok){t:Ty}{l:List (den t)}(h:ArrN w (U.size t) v n xs)(hn:l.length=n)(hx:∀(j:Nat)(lf:Leaf Ty den),(flat U t l)[j]?=some lf→∃ u:Value,xs[j]?=some u∧CRep U w m lf u)(hm:∀ b,D6 v=some b→m b=0)(mP:∀ b,w.heap.size≤b→m b=0):
  ∃ m',CRep U w m' (.sl t l none) v∧KM w m w m' (fun b=>D6 v=some b):=by
 subst hn;obtain⟨hl,a,cap,hv,aQ,hc⟩:=id h;by_cases h0:l=[]
 ·subst h0;exact⟨m,by rw[hv];exact .nil _ _ _ _,KM.refl _ _ _ mP⟩
 have hp:=List.length_pos_iff.2 h0;obtain⟨b,fo,dj,fD,hb,_,aw⟩:=h.blk hp;have aB:=h.lt hb;have jv:=hm b hb;have fu:Ext w m w (D1 m b (l.length*U.size t)):=by
  refine⟨fun _ c _ fz h=>⟨c,fz,h⟩,fun _ _ _=>rfl,fun k=>?_⟩;unfold D1;by_cases hk:k=b
  ·rw[hk,jv];exact Cg _
  ·rw[if_neg hk];exact Bh _
 refine⟨D1 m b (l.length*U.size t),?_,⟨rfl,rfl,rfl,Bh _,fun k hk az=>⟨rfl,?_⟩,fu,fun k hk=>?_⟩⟩
 ·have gl:l.length≤fo:=by
   rw[hv]at dj;cases dj;exact aQ
  rw[dj];refine .sl t l none b 0 fo (fun j=>xs.getD j undef) gl (by rw[Ch];simp[D1]) (fun j lf hj=>?_) (fun j lf hj=>?_)
  ·obtain⟨u,hu,_⟩:=hx j lf hj;rw[Ci,hu,Ch];exact(aw j u hu).1
  ·obtain⟨u,hu,hr⟩:=hx j lf hj;rw[Ci,hu];exact hr.mono hU fu
 ·unfold D1;rw[if_neg fun e=>az (by rw[e];exact hb)]
 ·unfold D1;rw[if_neg (by omega)];exact mP k hk
end
end Go.Aev
end
section
open Go.Lib
namespace Go.Aev
def N9:List (Nat×Value)→Nat→Option Value
 |[],_=>none
 |(j,v)::r,i=>bif Bg j i then some v else N9 r i
def evV(fr:List (Nat×Value)):Bd→Option Value
 | .tmp t=>N9 fr t
 | .const v=>some v
 |_=>none
structure Tm(a:Act)(n:Nat)(fr:List (Nat×Value)):Prop where
 size:a.tmps.size=n
 dfr:a.defers=[]
 get:∀ i v,N9 fr i=some v→a.tmps.getD i undef=v
def A97(fr:List (Nat×Value)):List (Nat×Value)→Prop
 |[]=>True
 |p::r=>N9 fr p.1=some p.2∧A97 fr r
def J8(P:Bj)(t:Ba):Option (Nat×Nat×Option (List Value)):=(P.info? t).map fun i=>(i.size,i.bytes,i.zero.map fun z=>z.cells.toList)
def Z9(P:Bj)(t:Ba):Bool:=match P.underlying t with
 |some (.int _)=>true
 |some .bool=>true
 |some .string=>true
 |some (.slice _)=>true
 |_=>false
def A0B(P:Bj)(t:Ba):Bool:=match P.underlying t with
 |some (.struct _)=>true
 |_=>false
def O6(P:Bj)(t:Ba)(i:Nat):Option (Nat×Nat):=match P.underlying t with
 |some (.struct fs)=>(fs[i]?).bind fun f=>(P.info? f.type).map fun j=>(f.offset,j.size)
 |_=>none
theorem C71{P:Bj}{t:Ba}(h:Z9 P t=true)(w:World):(isAgg t).run P w=.ok false w:=by
 unfold Z9 at h;split at h<;>first
  |(rename_i h1;simp[isAgg,Bm h1];done)
  |cases h
theorem C58{P:Bj}{t:Ba}(h:A0B P t=true)(w:World):(isAgg t).run P w=.ok true w:=by
 unfold A0B at h;split at h
 ·rename_i fs h1;simp[isAgg,Bm h1]
 ·cases h
theorem V9{P:Bj}{t:Ba}{sz fj:Nat}{zc:List Value}(h:J8 P t=some (sz,fj,some zc)):∃ i z,P.info? t=some i∧i.size=sz∧i.bytes=fj∧i.zero=some z∧z.cells=zc.toArray:=by
 unfold J8 at h;obtain⟨i,h1,h2⟩:=Fb.1 h;simp only[Cc]at h2;obtain⟨h3,h4,h5⟩:=h2;obtain⟨z,h6,h7⟩:=Fb.1 h5;exact⟨i,z,h1,h3,h4,h6,by rw[←h7]⟩
section
variable {P:Bj}{a:Act}{n:Nat}{fr fr':List (Nat×Value)}{w w':World}{o:Oper}{K:Act→World→Prop}{Q:Exit→Act→World→Prop}
theorem Tm.sub(tm:Tm a n fr)(h:A97 fr fr'):Tm a n fr':=by
 refine⟨tm.size,tm.dfr,fun i v hv=>tm.get i v ?_⟩
 induction fr' with
 |nil=>cases hv
 |cons p r ih=>
  obtain⟨h1,h2⟩:=h;unfold N9 at hv;cases hb:Bg p.1 i with
  |true=>
   rw[hb]at hv;have:=(F6 _ _).1 hb;simp only[cond_true,Br]at hv;rw[←this, ←hv];exact h1
  |false=>rw[hb]at hv;exact ih h2 hv
theorem Tm.ev(tm:Tm a n fr){x:Bd}{v:Value}(h:evV fr x=some v):a.eval x=v:=by
 cases x with
 |tmp t=>exact tm.get t v h
 |const c=>simp only[evV,Br]at h;exact h
 |global g=>cases h
 |func f=>cases h
theorem Tm.put(tm:Tm a n fr){d:Nat}{v:Value}(hd:Bp d n=true):Tm (a.put (some d) v) n ((d,v)::fr):=by
 have dY:d<n:=by simpa [By]using hd
 refine⟨by rw[Z4];exact tm.size,by rw[B0h];exact tm.dfr,fun i u hu=>?_⟩;have aB:d<a.tmps.size:=by rw[tm.size];exact dY
 have hg:(a.put (some d) v).tmps.getD i undef=if d=i then v else a.tmps.getD i undef:=A78 a d i v aB
 rw[hg];unfold N9 at hu;cases hb:Bg d i with
 |true=>
  rw[hb]at hu;simp only[cond_true,Br]at hu;rw[if_pos ((F6 _ _).1 hb),hu]
 |false=>
  rw[hb]at hu;rw[if_neg fun e=>by rw[(F6 _ _).2 e]at hb;cases hb];exact tm.get i u hu
theorem Tm.none(tm:Tm a n fr){v:Value}:Tm (a.put none v) n fr:=tm
theorem A1s(tm:Tm a n fr){d:Nat}{v:Value}(aJ:o.dst=some d)(hd:Bp d n=true)(ag:(Ai a.eval o).run P w=.ok (.value v) w')(hk:∀ a',Tm a' n ((d,v)::fr)→K a' w'):o.wp P a w K Q:=by
 refine R7 ag ?_;rw[aJ];exact hk _ (tm.put hd)
theorem Q9(tm:Tm a n fr){x:Bd}{v:Value}(ak:o.op=.move x:=by rfl)(hx:evV fr x=some v:=by rfl):(Ai a.eval o).run P w=.ok (.value v) w:=by simp[Ai,ak,tm.ev hx]
theorem A8p(tm:Tm a n fr){x:Bd}{v:Value}(ak:o.op=.assign x:=by rfl)(hx:evV fr x=some v:=by rfl):(Ai a.eval o).run P w=.ok (.value v) w:=by simp[Ai,ak,tm.ev hx]
theorem O9(tm:Tm a n fr){x:Bd}{i:Nat}{v u:Value}{vs:List Value}(ak:o.op=.extract x i:=by rfl)(hx:evV fr x=some u:=by rfl)(hu:u=.tuple vs.toArray:=by rfl)(hi:vs[i]?=some v:=by rfl):(Ai a.eval o).run P w=.ok (.value v) w:=by
 subst hu;have h1:vs.toArray[i]?=some v:=by simpa using hi
 simp[Ai,ak,tm.ev hx,Jr,hi]
theorem O4(tm:Tm a n fr){x:Bd}{c:Call}{p:Option Addr}{l cp:Nat}{t e:Ba}(ht:P.underlying t=some (.slice e))(ak:o.op=.call c:=by rfl)(aG:c.callee=.builtin .len:=by rfl)(aE:c.args= #[x]:=by rfl)(fw:c.argTypes= #[t]:=by rfl){vx:Value}(hx:evV fr x=some vx:=by rfl)(hv:vx=.slice p l cp:=by rfl):
  (Ai a.eval o).run P w=.ok (.value (.int .i64 l)) w:=by
 simp[Ai,ak,Ei,aG,aE,fw,tm.ev hx,hv,invoke,builtin,Builtin.len_,Bm ht,goInt]
theorem A3k(tm:Tm a n fr){op:BinOp}{t yt:Ba}{x y:Bd}{k0:Cj}{i j:Int}{v:Value}(ak:o.op=.binOp op t x y yt)(hx:evV fr x=some (.int k0 i))(hy:evV fr y=some (.int k0 j))
  (hv:(binOp op t (.int k0 i) (.int k0 j)).run P w=.ok v w):(Ai a.eval o).run P w=.ok (.value v) w:=by
 simp[Ai,ak,tm.ev hx,tm.ev hy,eqGuard_at_int,hv]
theorem B60(tm:Tm a n fr){t yt:Ba}{x y:Bd}{k0:Cj}{i j:Int}(ak:o.op=.binOp .lss t x y yt:=by rfl)(hx:evV fr x=some (.int k0 i):=by rfl)(hy:evV fr y=some (.int k0 j):=by rfl):(Ai a.eval o).run P w=.ok (.value (.bool (decide (i<j)))) w:=
 A3k tm ak hx hy (by simp[binOp,Eo])
theorem A6O(tm:Tm a n fr){t yt:Ba}{x y:Bd}{k0:Cj}{i j:Int}(ak:o.op=.binOp .gtr t x y yt:=by rfl)(hx:evV fr x=some (.int k0 i):=by rfl)(hy:evV fr y=some (.int k0 j):=by rfl):(Ai a.eval o).run P w=.ok (.value (.bool (decide (j<i)))) w:=
 A3k tm ak hx hy (by simp[binOp,Eo])
theorem B27(tm:Tm a n fr){t yt:Ba}{x y:Bd}{k0:Cj}{i j:Int}(ak:o.op=.binOp .geq t x y yt:=by rfl)(hx:evV fr x=some (.int k0 i):=by rfl)(hy:evV fr y=some (.int k0 j):=by rfl):(Ai a.eval o).run P w=.ok (.value (.bool (decide (j≤i)))) w:=
 A3k tm ak hx hy (by simp[binOp,Eo])
theorem N6(tm:Tm a n fr){t yt:Ba}{x y:Bd}{k0:Cj}{i j:Int}(ak:o.op=.binOp .eql t x y yt:=by rfl)(hx:evV fr x=some (.int k0 i):=by rfl)(hy:evV fr y=some (.int k0 j):=by rfl):(Ai a.eval o).run P w=.ok (.value (.bool (i==j))) w:=
 A3k tm ak hx hy (by simp[binOp,Eo])
theorem B4I(tm:Tm a n fr){t yt:Ba}{x y:Bd}{k0:Cj}{i j:Int}(ak:o.op=.binOp .neq t x y yt:=by rfl)(hx:evV fr x=some (.int k0 i):=by rfl)(hy:evV fr y=some (.int k0 j):=by rfl):(Ai a.eval o).run P w=.ok (.value (.bool (i !=j))) w:=
 A3k tm ak hx hy (by simp[binOp,Eo])
theorem T7(tm:Tm a n fr){t yt:Ba}{x y:Bd}{i j:List UInt8}(ak:o.op=.binOp .eql t x y yt)(hx:evV fr x=some (.string ⟨i.toArray⟩))(hy:evV fr y=some (.string ⟨j.toArray⟩)):(Ai a.eval o).run P w=.ok (.value (.bool (i==j))) w:=by
 have h:(binOp .eql t (.string ⟨i.toArray⟩) (.string ⟨j.toArray⟩)).run P w=.ok (.bool (i==j)) w:=by simp[binOp,Op.stringOp]
 simp[Ai,ak,tm.ev hx,tm.ev hy,Ho,h]
theorem C8Y(tm:Tm a n fr){t yt:Ba}{x y:Bd}{i j:List UInt8}(ak:o.op=.binOp .neq t x y yt)(hx:evV fr x=some (.string ⟨i.toArray⟩))(hy:evV fr y=some (.string ⟨j.toArray⟩)):(Ai a.eval o).run P w=.ok (.value (.bool (!(i==j)))) w:=by
 have h:(binOp .neq t (.string ⟨i.toArray⟩) (.string ⟨j.toArray⟩)).run P w=.ok (.bool (!(i==j))) w:=by simp[binOp,Op.stringOp,bne]
 simp[Ai,ak,tm.ev hx,tm.ev hy,Ho,h]
theorem A1e(tm:Tm a n fr){t yt:Ba}{x y:Bd}{k0:Cj}{i j:Int}(ak:o.op=.binOp .add t x y yt:=by rfl)(hx:evV fr x=some (.int k0 i):=by rfl)(hy:evV fr y=some (.int k0 j):=by rfl):(Ai a.eval o).run P w=.ok (.value (.int k0 (k0.wrap (i+j)))) w:=
 A3k tm ak hx hy (by simp[binOp,Op.intArith])
theorem S2(tm:Tm a n fr){t yt:Ba}{x y:Bd}{k0:Cj}{i j:Int}(ak:o.op=.binOp .sub t x y yt:=by rfl)(hx:evV fr x=some (.int k0 i):=by rfl)(hy:evV fr y=some (.int k0 j):=by rfl):(Ai a.eval o).run P w=.ok (.value (.int k0 (k0.wrap (i - j)))) w:=
 A3k tm ak hx hy (by simp[binOp,Op.intArith])
theorem A5M(tm:Tm a n fr){t:Ba}{x:Bd}{b:Bool}(ak:o.op=.unOp .not t x:=by rfl)(hx:evV fr x=some (.bool b):=by rfl):(Ai a.eval o).run P w=.ok (.value (.bool (!b))) w:=by simp[Ai,ak,tm.ev hx,Op.unary]
theorem Q2(tm:Tm a n fr){c x y:Bd}{v:Value}(ak:o.op=.pick c x y:=by rfl)(hc:evV fr c=some (.bool true):=by rfl)(hx:evV fr x=some v:=by rfl):(Ai a.eval o).run P w=.ok (.value v) w:=by simp[Ai,ak,tm.ev hc,tm.ev hx,asBool]
theorem A0b(tm:Tm a n fr){c x y:Bd}{v:Value}(ak:o.op=.pick c x y:=by rfl)(hc:evV fr c=some (.bool false):=by rfl)(hy:evV fr y=some v:=by rfl):(Ai a.eval o).run P w=.ok (.value v) w:=by simp[Ai,ak,tm.ev hc,tm.ev hy,asBool]
theorem A1I(tm:Tm a n fr){x:Bd}{ad:Addr}(ak:o.op=.nilCheck x:=by rfl)(hx:evV fr x=some (.pointer (some ad)):=by rfl):(Ai a.eval o).run P w=.ok (.value (.pointer (some ad))) w:=by simp[Ai,ak,tm.ev hx]
theorem R6(tm:Tm a n fr){t e:Ba}{x i:Bd}{b off l cp sz fj:Nat}{zc:List Value}{j:Int}{m:Nat}(ht:P.underlying t=some (.slice e))(bR:J8 P e=some (sz,fj,some zc))(ak:o.op=.indexAddr t x i)
  {vx:Value}(hx:evV fr x=some vx)(hv:vx=.slice (some ⟨b,off,none⟩) l cp)(hi:evV fr i=some (.int .i64 j))(hj:j=(m:Int))(hm:m<l):(Ai a.eval o).run P w=.ok (.value (.pointer (some ⟨b,off+m*sz,none⟩))) w:=by
 subst hj;obtain⟨ie,z,bR,aC,_⟩:=V9 bR;have cR:(Fu b off none).add (m*sz)=⟨b,off+m*sz,none⟩:=by rw[Cy]
 have h0:(0:Int)≤(m:Int):=by omega
 have h1:(m:Int)<(l:Int):=by omega
 simp[Ai,ak,tm.ev hx,hv,tm.ev hi,Instr.indexAt,asIntOf,Bm ht,h0,h1,Ck,Cq,bR,aC,h1,hm,Nat.not_le.2 hm];rw[←cR]
theorem D9(tm:Tm a n fr){t:Ba}{x:Bd}{ad:Addr}{v:Value}(hC:Z9 P t=true)(ak:o.op=.load t x)(hx:evV fr x=some (.pointer (some ad)))(hc:w.cell? ad=some v):(Ai a.eval o).run P w=.ok (.value v) w:=by
 have:=C71 hC;simp[Ai,ak,tm.ev hx,Jq,Ee,loadVar,this,hc]
theorem A1S{t:Ba}{b off sz fj:Nat}{zc us:List Value}(hC:A0B P t=true)(bR:J8 P t=some (sz,fj,some zc))(hl:us.length=sz)(hc:∀(j:Nat) u,us[j]?=some u→w.cell? ⟨b,off+j,none⟩=some u):
  (loadVar t ⟨b,off,none⟩).run P w=.ok (.agg us.toArray) w:=by
 have:=C58 hC;obtain⟨ie,z,bR,aC,_⟩:=V9 bR;have dk:(loadCells ⟨b,off,none⟩ sz).run P w=.ok us.toArray w:=by
  have h1:=run_loadCells (P:=P) w ⟨b,off,none⟩ sz (fun j=>us.getD j undef) fun j hj=>by
   rw[Cy];have h2:us[j]?=some (us[j]'(by omega)):=Bz (by omega);rw[hc j _ h2,Ci,h2];rfl
  have h3:(Fe sz).map (fun j=>us.getD j undef)=us:=by
   apply Jl;intro j;rw[Fk];by_cases hj:j<sz
   ·rw[List.getElem?_range hj,Gr,Ci,Bz (by omega)];rfl
   ·rw[Fl (by simp;omega),Fl (by omega)];rfl
  rw[h3]at h1;exact h1
 simp[loadVar,this,Ck,Cq,bR,aC,dk]
theorem I9(tm:Tm a n fr){t:Ba}{x:Bd}{b off sz fj:Nat}{zc us:List Value}(hC:A0B P t=true)(bR:J8 P t=some (sz,fj,some zc))(ak:o.op=.load t x)(hx:evV fr x=some (.pointer (some ⟨b,off,none⟩)))
  (hl:us.length=sz)(hc:∀(j:Nat) u,us[j]?=some u→w.cell? ⟨b,off+j,none⟩=some u):(Ai a.eval o).run P w=.ok (.value (.agg us.toArray)) w:=by
 have:=A1S (P:=P) hC bR hl hc;simp[Ai,ak,tm.ev hx,Jq,Ee,this]
theorem C1(tm:Tm a n fr){t:Ba}{x:Bd}{i b off o' m:Nat}(hf:O6 P t i=some (o',m+1))(ak:o.op=.fieldAddr t x i:=by rfl)(hx:evV fr x=some (.pointer (some ⟨b,off,none⟩)):=by rfl):(Ai a.eval o).run P w=.ok (.value (.pointer (some ⟨b,off+o',none⟩))) w:=by
 unfold O6 at hf;split at hf
 ·rename_i fs h1;obtain⟨f,h2,h3⟩:=Option.bind_eq_some_iff.1 hf;obtain⟨xk,h4,h5⟩:=Fb.1 h3;simp only[Cc]at h5;have cR:(Fu b off none).add o'=⟨b,off+o',none⟩:=Cy _ _ _;have aC:(Ck f.type).run P w=.ok (m+1) w:=by simp[Ck,Cq,h4,h5.2]
  simp[Ai,ak,tm.ev hx,Instr.fieldAt,Bm h1,h2,Ee,fieldPlace,aC,h5.1,cR]
 ·cases hf
theorem B2i(tm:Tm a n fr){t e:Ba}{x hi:Bd}{b l cp sz fj:Nat}{zc:List Value}{k:Nat}{j:Int}(ht:P.underlying t=some (.slice e))(bR:J8 P e=some (sz,fj,some zc))(ak:o.op=.slice t x none (some hi) none)
  {vx:Value}(hx:evV fr x=some vx)(hv:vx=.slice (some ⟨b,0,none⟩) l cp)(hh:evV fr hi=some (.int .i64 j))(hj:j=(k:Int))(hk:k≤l)(hl:l≤cp):(Ai a.eval o).run P w=.ok (.value (.slice (some ⟨b,0,none⟩) k cp)) w:=by
 subst hj;obtain⟨ie,z,bR,aC,_⟩:=V9 bR;have hb:=B3l P w true l cp hl none (some (.int .i64 (k:Int))) none 0 k cp (.inl ⟨rfl,rfl⟩) (.inr ⟨.i64,rfl⟩) (.inl ⟨rfl,rfl⟩) (Cg _) (by omega) (Bh _);have cR:(Fu b 0 none).add 0=⟨b,0,none⟩:=by rw[Cy]
 simp[Ai,ak,tm.ev hx,hv,tm.ev hh,Instr.sliceAt,Instr.slice,Bm ht,hb,Ck,Cq,bR,aC,cR]
theorem D1o(tm:Tm a n fr){x y:Bd}{c:Call}{k0:Cj}{i j:Int}(ak:o.op=.call c:=by rfl)(aG:c.callee=.builtin .max:=by rfl)(aE:c.args= #[x,y]:=by rfl)(hx:evV fr x=some (.int k0 i):=by rfl)(hy:evV fr y=some (.int k0 j):=by rfl):
  (Ai a.eval o).run P w=.ok (.value (.int k0 (if j>i then j else i))) w:=by
 simp[Ai,ak,Ei,aG,aE,invoke,builtin,tm.ev hx,tm.ev hy,run_max_int2]
theorem C9b(tm:Tm a n fr){x y:Bd}{c:Call}{k0:Cj}{i j:Int}(ak:o.op=.call c:=by rfl)(aG:c.callee=.builtin .min:=by rfl)(aE:c.args= #[x,y]:=by rfl)(hx:evV fr x=some (.int k0 i):=by rfl)(hy:evV fr y=some (.int k0 j):=by rfl):
  (Ai a.eval o).run P w=.ok (.value (.int k0 (if j<i then j else i))) w:=by
 simp[Ai,ak,Ei,aG,aE,invoke,builtin,tm.ev hx,tm.ev hy,run_min_int2]
theorem X8(tm:Tm a n fr){t:Ba}{ps:Array (Nat×Bd)}{cs:Array Value}(ak:o.op=.build t ps){qs:List (Nat×Value)}(hq:(ps.map fun(i,x)=>(i,a.eval x)).toList=qs)(hb:P.built t qs=some cs):(Ai a.eval o).run P w=.ok (.value (.agg cs)) w:=by
 rw[←hq]at hb;simp[Ai,ak,run_build w t _ _ hb]
theorem B4m(tm:Tm a n fr){t:Ba}{i:Nat}{x:Bd}{v:Value}{ps:Array (Nat×Bd)}{cs:Array Value}(ak:o.op=.build t ps)(eu:ps= #[(i,x)])(hx:evV fr x=some v)(hb:P.built t [(i,v)]=some cs):(Ai a.eval o).run P w=.ok (.value (.agg cs)) w:=
 X8 tm ak (qs:=[(i,v)]) (by rw[eu];simp[tm.ev hx]) hb
theorem A71(tm:Tm a n fr){t:Ba}{i j:Nat}{x y:Bd}{v u:Value}{ps:Array (Nat×Bd)}{cs:Array Value}(ak:o.op=.build t ps)(eu:ps= #[(i,x),(j,y)])(hx:evV fr x=some v)(hy:evV fr y=some u)(hb:P.built t [(i,v),(j,u)]=some cs):(Ai a.eval o).run P w=.ok (.value (.agg cs)) w:=
 X8 tm ak (qs:=[(i,v),(j,u)]) (by rw[eu];simp[tm.ev hx,tm.ev hy]) hb
theorem D1d(tm:Tm a n fr){t:Ba}{i j k:Nat}{x y z:Bd}{v u r:Value}{ps:Array (Nat×Bd)}{cs:Array Value}(ak:o.op=.build t ps)(eu:ps= #[(i,x),(j,y),(k,z)])(hx:evV fr x=some v)(hy:evV fr y=some u)(hz:evV fr z=some r)(hb:P.built t [(i,v),(j,u),(k,r)]=some cs):(Ai a.eval o).run P w=.ok (.value (.agg cs)) w:=
 X8 tm ak (qs:=[(i,v),(j,u),(k,r)]) (by rw[eu];simp[tm.ev hx,tm.ev hy,tm.ev hz]) hb
theorem K8(tm:Tm a n fr){d:Nat}{t:Ba}{sz fj:Nat}{zc:List Value}(bR:J8 P t=some (sz,fj,some zc))(aJ:o.dst=some d)(ak:o.op=.alloc t)(hd:Bp d n=true)(hk:∀ a',Tm a' n ((d,.pointer (some ⟨w.heap.size,0,none⟩))::fr)→K a' (w.alloc (.cells zc.toArray t))):o.wp P a w K Q:=by
 obtain⟨ie,z,h1,h2,h3,h4,h5⟩:=V9 bR;refine A1s tm aJ hd ?_ hk;simp[Ai,ak,Jt,zeroValue,Cq,h1,h4,newVar,newRow,h5]
theorem B9Y(tm:Tm a n fr){d:Nat}{t:Ba}{x:Bd}{us:List Value}{v:Value}(aJ:o.dst=some d)(ak:o.op=.box t x)(hd:Bp d n=true)(hx:evV fr x=some v)(hv:v.cells=us.toArray)(hk:∀ a',Tm a' n ((d,.pointer (some ⟨w.heap.size,0,none⟩))::fr)→K a' (w.alloc (.cells us.toArray t))):o.wp P a w K Q:=by
 refine A1s tm aJ hd ?_ hk;simp[Ai,ak,Instr.box,newVar,newRow,tm.ev hx,hv]
theorem A04(tm:Tm a n fr){d:Nat}{t e:Ba}{ps:Array (Nat×Bd)}{x:Bd}{sz fj:Nat}{zc us:List Value}{v:Value}(ht:P.underlying t=some (.slice e))(bR:J8 P e=some (sz,fj,some zc))(aJ:o.dst=some d)(ak:o.op=.buildSlice t 1 ps)(eu:ps= #[(0,x)])(hd:Bp d n=true)
  (hx:evV fr x=some v)(hv:v.cells=us.toArray)(hl:us.length=sz)(hz:zc.length=sz)(aC:0<sz)(pY:sz<65536)(hk:∀ a',Tm a' n ((d,.slice (some ⟨w.heap.size,0,none⟩) 1 1)::fr)→K a' (w.alloc (.cells us.toArray e))):o.wp P a w K Q:=by
 obtain⟨ie,z,h1,h2,h3,h4,h5⟩:=V9 bR;have ag:(Js t 1 #[(0,v)]).run P w=.ok (.slice (some ⟨w.heap.size,0,none⟩) 1 1) (w.alloc (.cells us.toArray e)):=by
  refine run_buildSlice w t e 1 _ _ ie z ht h1 h4 (by rw[h2];omega) (by rw[h2];omega) ?_;have h6:=Great.fill_whole aC [v] ((Array.range (1*ie.size)).map (z.cells[· % z.cells.size]!)) (fun u hu=>by rcases Ff.1 hu with rfl;rw[hv];simpa using hl) (by simp[h2]);rw[h2]at h6 ⊢;simpa [hv]using h6
 refine A1s tm aJ hd ?_ hk;simp[Ai,ak,eu,tm.ev hx,ag]
theorem A82(tm:Tm a n fr){d k:Nat}{t e:Ba}{ps:Array (Nat×Bd)}{fj:Nat}{zc:List Value}{vs:List Value}(ht:P.underlying t=some (.slice e))(bR:J8 P e=some (1,fj,some zc))(aJ:o.dst=some d)(ak:o.op=.buildSlice t k ps)(hd:Bp d n=true)
  (eu:∀ ev:Bd→Value,(∀ v,ev (.const v)=v)→(ps.map fun(j,x)=>(j,ev x)).toList=(vs.zipIdx 0).map fun x=>(x.2,x.1))(aF:∀ v∈vs,v.cells= #[v])(hl:vs.length=k)(eB:0<k)(dU:k<65536)(hk:∀ a',Tm a' n ((d,.slice (some ⟨w.heap.size,0,none⟩) k k)::fr)→K a' (w.alloc (.cells vs.toArray e))):o.wp P a w K Q:=by
 obtain⟨ie,z,h1,h2,h3,h4,h5⟩:=V9 bR;have ag:(Js t k (ps.map fun(j,x)=>(j,a.eval x))).run P w=.ok (.slice (some ⟨w.heap.size,0,none⟩) k k) (w.alloc (.cells vs.toArray e)):=by
  refine run_buildSlice w t e k _ _ ie z ht h1 h4 (by rw[h2];omega) (by rw[h2];omega) ?_;rw[eu a.eval (fun v=>rfl),h2];exact Great.fill_flat _ _ aF (by simp[hl])
 refine A1s tm aJ hd ?_ hk;simp[Ai,ak,ag]
theorem A9N(tm:Tm a n fr){d k cp:Nat}{t e:Ba}{x:Bd}{vs:List Value}{w0:World}(ht:P.underlying t=some (.slice e))(he:P.underlying e=some (.int .u8))(aJ:o.dst=some d)(ak:o.op=.convert t t x)(hd:Bp d n=true)
  (hw:w.heap=w0.heap.push (.cells vs.toArray e (0,0)))(hx:evV fr x=some (.slice (some ⟨w0.heap.size,0,none⟩) k cp))
  (hk:∀ a' w2,Tm a' n ((d,.slice (some ⟨w0.heap.size,0,none⟩) k cp)::fr)→w2.heap=w0.heap.push (.cells vs.toArray e (vs.length,vs.length+1))→w2.os=w.os→w2.tape=w.tape→w2.output=w.output→K a' w2):o.wp P a w K Q:=by
 obtain⟨w2,h1,h2,h3,h4,h5⟩:=B5r P w0 vs.toArray e w0.heap.size w hw rfl;refine A1s (w':=w2) tm aJ hd ?_ fun a' jh=>hk a' w2 jh (by simpa using h2) h3 h4 h5;simp[Ai,ak,convert,Bm ht,Bm he,tm.ev hx,h1]
theorem B8Y(tm:Tm a n fr){t:Ba}{x y:Bd}{b off sz fj:Nat}{zc:List Value}{v u:Value}(bR:J8 P t=some (1,fj,some zc))(aJ:o.dst=none)(ak:o.op=.store t x y)
  (hx:evV fr x=some (.pointer (some ⟨b,off,none⟩)))(hy:evV fr y=some v)(hv:v.cells= #[v])(aF:v.oneCell'=true)(hc:w.cell? ⟨b,off,none⟩=some u)(hf:w.frozen? ⟨b,off,none⟩=false)(hk:K a (w.setCell ⟨b,off,none⟩ v)):o.wp P a w K Q:=by
 obtain⟨ie,z,h1,h2,h3,h4,h5⟩:=V9 bR;have bL:=run_store P w ⟨b,off,none⟩ v .plain aF;simp only[hc,hf]at bL;have cR:(Fu b off none).add 0=⟨b,off,none⟩:=by rw[Cy,Gx]
 have ag:(Ai a.eval o).run P w=.ok .skip (w.setCell ⟨b,off,none⟩ v):=by
  have bX:(Ck t).run P w=.ok 1 w:=by simp[Ck,Cq,h1,h2]
  have cH:(Dp ⟨b,off,none⟩ [v]).run P w=.ok () (w.setCell ⟨b,off,none⟩ v):=by
   simp[Dp,cR,bL]
  simp[Ai,ak,tm.ev hx,tm.ev hy,Hf,Ee,storeVar,bX,hv,cH]
 unfold En;rw[ag,Gv,aJ];exact hk
theorem G9(tm:Tm a n fr){t:Ba}{x y:Bd}{b off sz fj:Nat}{zc us:List Value}{v:Value}(bR:J8 P t=some (sz,fj,some zc))(aJ:o.dst=none)(ak:o.op=.store t x y)
  (hx:evV fr x=some (.pointer (some ⟨b,off,none⟩)))(hy:evV fr y=some v)(hv:v.cells=us.toArray)(hl:us.length=sz)(bL:(Dp ⟨b,off,none⟩ us).run P w=.ok () w')(hk:K a w'):o.wp P a w K Q:=by
 obtain⟨ie,z,h1,h2,h3,h4,h5⟩:=V9 bR;have ag:(Ai a.eval o).run P w=.ok .skip w':=by
  have bX:(Ck t).run P w=.ok sz w:=by simp[Ck,Cq,h1,h2]
  simp[Ai,ak,tm.ev hx,tm.ev hy,Hf,Ee,storeVar,bX,hv,hl,bL]
 unfold En;rw[ag,Gv,aJ];exact hk
theorem A25(tm:Tm a n fr){d:Nat}{c:Call}{t u:Ba}{x y:Bd}{vx vy v':Value}(aJ:o.dst=some d)(ak:o.op=.call c)(aG:c.callee=.builtin .append)(aE:c.args= #[x,y])(fw:c.argTypes= #[t,u])(hd:Bp d n=true)
  (hx:evV fr x=some vx)(hy:evV fr y=some vy)(ag:(Jx #[t,u] o.type #[vx,vy]).run P w=.ok v' w')(hk:∀ a',Tm a' n ((d,v')::fr)→K a' w'):o.wp P a w K Q:=
 A1s tm aJ hd (by simp[Ai,ak,Ei,aG,aE,fw,invoke,builtin,tm.ev hx,tm.ev hy,ag]) hk
theorem H6(tm:Tm a n fr){d:Nat}{c:Call}{f:Cb}{vs:List Value}{R:Ending→World→Prop}(aJ:o.dst=some d)(ak:o.op=.call c)(aG:c.callee=.value (.func f))(aK:∀ args w,(Cf f args).run P w=.ok (.enter f args) w)
  (hd:Bp d n=true)(aE:c.args.toList.map a.eval=vs)(hc:Calls P f vs.toArray w R)(hk:∀ e w',R e w'→∃ v,e=.returned v∧∀ a',Tm a' n ((d,v)::fr)→K a' w'):o.wp P a w K Q:=by
 have fY:(Ai a.eval o).run P w=.ok (.enter f (c.args.toList.map a.eval).toArray) w:=by
  simp[Ai,ak,Ei,aG,Act.eval,Deferred.ofValue,invoke,aK];apply Array.ext';simp
 unfold En;rw[fY,Oper.upon_enter,aE];refine hc.mono fun e w' eT=>?_;obtain⟨v,rfl,hv⟩:=hk e w' eT;rw[aJ];exact hv _ (tm.put hd)
theorem V7(tm:Tm a n fr){c:Call}{x:Bd}{v:Value}(h:c.args= #[x])(hx:evV fr x=some v):c.args.toList.map a.eval=[v]:=by rw[h];simp[tm.ev hx]
theorem S4(tm:Tm a n fr){c:Call}{x y:Bd}{v u:Value}(h:c.args= #[x,y])(hx:evV fr x=some v)(hy:evV fr y=some u):c.args.toList.map a.eval=[v,u]:=by rw[h];simp[tm.ev hx,tm.ev hy]
theorem B87(tm:Tm a n fr){c:Call}{x y z:Bd}{v u t:Value}(h:c.args= #[x,y,z])(hx:evV fr x=some v)(hy:evV fr y=some u)(hz:evV fr z=some t):c.args.toList.map a.eval=[v,u,t]:=by rw[h];simp[tm.ev hx,tm.ev hy,tm.ev hz]
theorem B6k{ops:Array Oper}(tm:Tm a n fr){j g:Nat}{b:Bool}(hj:(ops[j]?).bind (·.dst)=some g)(hn:Bp g n=true)(hv:N9 fr g=some (.bool b)):Ce ops a.tmps j=some b:=by
 have aB:g<a.tmps.size:=by rw[tm.size];simpa [By]using hn
 have aX:=tm.get g _ hv;have aI:a.tmps[g]?=some (.bool b):=by
  rw[Bo,Bu aB]at aX;rw[Bu aB];simpa using aX
 unfold Ce;rw[hj];simp[aI]
theorem D0w{ops:Array Oper}(tm:Tm a n fr){j g:Nat}(hj:(ops[j]?).bind (·.dst)=some g)(hn:Bp g n=true)(hv:N9 fr g=some undef):Ce ops a.tmps j=none:=by
 have aB:g<a.tmps.size:=by rw[tm.size];simpa [By]using hn
 have aX:=tm.get g _ hv;have aI:a.tmps[g]?=some undef:=by
  rw[Bo,Bu aB]at aX;rw[Bu aB];simpa using aX
 unfold Ce;rw[hj];simp[aI,undef]
theorem A4S{ops:Array Oper}{am:List Oper}(tm:Tm a n fr){j g d:Nat}{aL:Bool}(hg:o.guard=some (j,aL))(aJ:o.dst=some d)(hd:Bp d n=true)(hj:(ops[j]?).bind (·.dst)=some g)(hn:Bp g n=true)(hv:N9 fr g=some undef)
  (h:∀ a',Tm a' n ((d,undef)::fr)→Cl P ops Q am a' w):Cl P ops Q (o::am) a w:=by
 have hy:=D0w tm hj hn hv;refine Eh fun K hK=>?_;simp only[Bx,hg,hy];rw[if_neg (by simp),aJ];exact hK _ _ (h _ (tm.put hd))
theorem A3U{ops:Array Oper}{am:List Oper}(tm:Tm a n fr){j g:Nat}{aL:Bool}(hg:o.guard=some (j,aL))(hj:(ops[j]?).bind (·.dst)=some g)(hn:Bp g n=true)(hv:N9 fr g=some (.bool aL))
  (h:∀ K:Act→World→Prop,(∀ a w,Cl P ops Q am a w→K a w)→o.wp P a w K Q):Cl P ops Q (o::am) a w:=by
 have hy:=B6k tm hj hn hv;refine Eh fun K hK=>?_;simp only[Bx,hg,hy];simp;exact h K hK
theorem F1{ops:Array Oper}{am:List Oper}(tm:Tm a n fr){j g d:Nat}{aL b:Bool}(hg:o.guard=some (j,aL))(aJ:o.dst=some d)(hd:Bp d n=true)(hj:(ops[j]?).bind (·.dst)=some g)(hn:Bp g n=true)(hv:N9 fr g=some (.bool b))(az:(b==aL)=false)
  (h:∀ a',Tm a' n ((d,undef)::fr)→Cl P ops Q am a' w):Cl P ops Q (o::am) a w:=by
 have hy:=B6k tm hj hn hv;refine Eh fun K hK=>?_;have xW:(some b==some aL)=false:=by
  cases b<;>cases aL<;>first|rfl|cases az
 simp only[Bx,hg,hy,xW];rw[if_neg (by simp),aJ];exact hK _ _ (h _ (tm.put hd))
end
def A05:Code→Array Oper
 | .region _ ops _=>ops
 |_=> #[]
def opN(c:Code)(j:Nat):Oper:=((A05 c).toList[j]?).getD ⟨none,.move (.const undef),0, "", #[],none⟩
def B1X(c:Code):Nat→Nat→List Oper
 |_,0=>[]
 |j,m+1=>opN c j::B1X c (j+1) m
section
variable {P:Bj}{Q:Exit→Act→World→Prop}{a:Act}{w w':World}{c:Code}{n:Nat}{fr:List (Nat×Value)}{o:Oper}{K:Act→World→Prop}
theorem A6(id m:Nat)(h:c=.region id (A05 c) false)(h2:(A05 c).toList=B1X c 0 m)(hw:Cl P (A05 c) Q (B1X c 0 m) a w):c.wp P Q a w:=by
 rw[h];refine wp_region_list ?_;rw[h2];exact hw
theorem K4(h:c=.skip)(hq:Q .normal a w):c.wp P Q a w:=by rw[h];exact wp_skip hq
theorem A1f(id:Nat)(h:c=.exit id)(hq:Q (.exit id) a w):c.wp P Q a w:=by rw[h];exact wp_exit hq
theorem P5(h:c=.ret)(hq:Q .ret a w):c.wp P Q a w:=by rw[h];exact wp_ret hq
theorem A5O{S:World→Prop}(hm:P.follows .mixedOrders=true)(id m:Nat)(h:c=.region id (A05 c) true)(hs:(A05 c).size=m)
  (hw:Do P .any (A05 c) (M2 Q) S m (Bt m false) a {w with drawn:=w.drawn+1}):c.wp P Q a w:=by
 rw[h];refine Jv (Q:=M2 Q) (fun e a w h=>by cases e<;>first|exact h|exact h.elim) ?_;subst hs;exact wp_region_held hm hw
theorem C8O{ops:Array Oper}{S:World→Prop}{listed:Array Bool}{fuel i d:Nat}{v:Value}(tm:Tm a n fr)(hi:ops[i]?=some o)(hs:Region.noSelect ops=true)(hf:Region.free .any ops listed i=true)
  (hr:(Cn .any ops listed).contains i=true)(hg:o.guard=none)(aJ:o.dst=some d)(hd:Bp d n=true)(hS:S w)(ag:∀ w,S w→(Ai a.eval o).run P w=.ok (.value v) w)
  (hk:∀ a',Tm a' n ((d,v)::fr)→Do P .any ops (M2 Q) S fuel (listed.setIfInBounds i true) a' w):Do P .any ops (M2 Q) S (fuel+1) listed a w:=by
 refine wpAnyH_take hi hs hf hr (fun _ _ _ h=>h.elim) (.inl ⟨by simp[Bx,hg],ag⟩) hS ?_;rw[aJ];exact hk _ (tm.put hd)
theorem A2Z{ops:Array Oper}{S:World→Prop}{listed:Array Bool}{fuel i:Nat}(hr:Cn .any ops listed=[i])(hi:ops[i]?=some o)(hg:o.guard=none)
  (h:∀ K:Act→World→Prop,(∀ a' w',S w'→Do P .any ops (M2 Q) S fuel (listed.setIfInBounds i true) a' w'→K a' w')→o.wp P a w K (M2 Q)):Do P .any ops (M2 Q) S (fuel+1) listed a w:=by
 refine wpAnyH_all hr (by simp) fun j hj=>?_;rcases Ff.1 hj with rfl
 unfold Go.wpOp;simp only[hi];rw[if_pos (by simp[Bx,hg])];exact .inl (h _ fun a' w' h1 h2=>⟨h1,h2⟩)
theorem A6x{ops:Array Oper}{S:World→Prop}{listed:Array Bool}(hr:Cn .any ops listed=[])(h:Q .normal a w)(fuel:Nat):Do P .any ops (M2 Q) S fuel listed a w:=wpAnyH_done (Q:=M2 Q) hr h fuel
end
def Bk(w:World)(b:Nat)(us:List Value):Prop:=
 ∃ c e fz,w.heap[b]?=some (.cells c e fz)∧us.length≤c.size∧fz.2=0∧∀(j:Nat) u,us[j]?=some u→c[j]?=some u
section
variable {w w':World}{b:Nat}{us:List Value}{S:Nat→Prop}{m m':Nat→Nat}
theorem Bk.cell(h:Bk w b us){j:Nat}{u:Value}(hj:us[j]?=some u):w.cell? ⟨b,j,none⟩=some u:=by
 obtain⟨c,e,fz,h1,h2,h3,h4⟩:=h;simp[Cm,h1,h4 j u hj]
theorem Bk.lt(h:Bk w b us):b<w.heap.size:=by
 obtain⟨c,e,fz,h1,_⟩:=h;exact(Cp.1 h1).1
theorem Bk.frame(h:Bk w b us)(hb:w'.heap[b]?=w.heap[b]?):Bk w' b us:=by
 obtain⟨c,e,fz,h1,h2⟩:=h;exact⟨c,e,fz,hb.trans h1,h2⟩
theorem KM.bk(k:KM w m w' m' S)(h:Bk w b us)(hS:¬S b):Bk w' b us:=h.frame (k.heap b h.lt hS).1
theorem K1{zc:List Value}{t:Ba}:Bk (w.alloc (.cells zc.toArray t)) w.heap.size zc:=
 ⟨zc.toArray,t,(0,0),by show(w.heap.push _)[w.heap.size]?=_;simp,by simp,rfl,fun j u hj=>by simpa using hj⟩
theorem Bk.store(P:Bj)(h:Bk w b us){off:Nat}{vs:List Value}(aQ:off+vs.length≤us.length)(aF:∀ v∈vs,v.oneCell'=true)(hm:m b=0)(hz:∀ b,w.heap.size≤b→m b=0):
  (Dp ⟨b,off,none⟩ vs).run P w=.ok () (C3 w b off vs)∧Bk (C3 w b off vs) b (L0 us off vs)∧KM w m (C3 w b off vs) m (fun k=>k=b):=by
 obtain⟨c,e,fz,h1,h2,h3,h4⟩:=h;obtain⟨s1,⟨c',s2,s3,s4,s5⟩,s6,s7,s8,s9,ld⟩:=A4J P b e fz vs off w c h1 (by omega) (fun j h5 h6=>by omega) aF;obtain⟨o1,o2⟩:=A6B us off vs aQ;refine⟨s1 _ 0 (by simp) (Cg _),⟨c',e,fz,s2,by rw[o1,s3];exact h2,h3,fun j u hj=>?_⟩,⟨s8,s9,ld,by rw[s6];exact Bh _,fun k _ hk=>⟨s7 k hk,rfl⟩,⟨A5X h1 s2 s7,fun k o ho=>?_,fun _=>Bh _⟩,fun k hk=>hz k (by rw[s6]at hk;exact hk)⟩⟩
 ·rw[o2]at hj;by_cases cL:off≤j∧j<off+vs.length
  ·rw[if_pos cL]at hj;have:=s5 (j - off) u hj;rw[show off+(j - off)=j by omega]at this;exact this
  ·rw[if_neg cL]at hj;rw[s4 j (by omega)];exact h4 j u hj
 ·have hk:k≠b:=fun e=>by rw[e,hm]at ho;omega
  exact Bw (a:=⟨k,o,none⟩) (s7 k hk)
theorem ArrN.store(P:Bj){sz n:Nat}{v:Value}{xs vs:List Value}(h:ArrN w sz v n xs){cap off:Nat}(hv:v=.slice (some ⟨b,0,none⟩) n cap)(hb:D6 v=some b)(aQ:off+vs.length≤xs.length)(aF:∀ v∈vs,v.oneCell'=true)(hm:m b=0)(hz:∀ b,w.heap.size≤b→m b=0):
  (Dp ⟨b,off,none⟩ vs).run P w=.ok () (C3 w b off vs)∧ArrN (C3 w b off vs) sz v n (L0 xs off vs)∧KM w m (C3 w b off vs) m (fun k=>k=b):=by
 obtain⟨hl,a,fo,dj,qI,hc⟩:=h;rw[hv]at dj;cases dj;have h0:cap≠0:=fun h0=>by rw[hv,h0]at hb;simp[D6]at hb
 obtain⟨b',c,e,fz,ha,h1,h2,h3,h4⟩:=hc.resolve_left h0;cases ha;have gf:n*sz≤cap*sz:=Ea _ qI;have tH:Bk w b xs:=⟨c,e,fz,h1,by omega,h3,h4⟩;obtain⟨s1,⟨c',s2,s3,s4,s5⟩,s6,s7,s8,s9,ld⟩:=A4J P b e fz vs off w c h1 (by omega) (fun j h5 h6=>by omega) aF;obtain⟨q1,q2,q3⟩:=tH.store P aQ aF hm hz;obtain⟨c2,e2,mQ,r1,r2,r3,r4⟩:=q2;obtain⟨o1,o2⟩:=A6B xs off vs aQ;rw[s2]at r1;cases r1;exact⟨q1,⟨by rw[o1];exact hl,_,cap,hv,qI,.inr ⟨b,c',e,fz,rfl,s2,by rw[s3];exact h2,h3,r4⟩⟩,q3⟩
theorem A2j{w:World}{m:Nat→Nat}(hz:∀ b,w.heap.size≤b→m b=0):KM w m {w with drawn:=w.drawn+1} m (fun _=>False):=
 ⟨rfl,rfl,rfl,Bh _,fun _ _ _=>⟨rfl,rfl⟩,⟨A6H rfl,fun _ _ _=>rfl,fun _=>Bh _⟩,hz⟩
def A7(ρ:Nat→Nat)(n r:Nat):Nat→Nat:=fun b=>if b<n then ρ b else r
structure Sys(w0:World)(m0:Nat→Nat)(M:Nat→Prop)(w:World)(m:Nat→Nat)(ρ:Nat→Nat):Prop where
 km:KM w0 m0 w m M
 zr:∀ b,ρ b≠0→m b=0
 base:∀ b,b<w0.heap.size→ρ b≠0→M b
variable {w0:World}{m0:Nat→Nat}{M:Nat→Prop}{ρ:Nat→Nat}
theorem Sys.z(h:Sys w0 m0 M w m ρ):∀ b,w.heap.size≤b→m b=0:=h.km.zero
theorem Sys.step(h:Sys w0 m0 M w m ρ)(k:KM w m w' m' S)(hS:∀ b,b<w.heap.size→S b→ρ b≠0)(xX:∀ b,b<w.heap.size→S b→m' b=0)(r:Nat)(hr:r≠0→∀ b,w.heap.size≤b→m' b=0):Sys w0 m0 M w' m' (A7 ρ w.heap.size r):=by
 classical
 refine⟨h.km.trans (k.mono (T:=fun b=>S b) fun _ _ h=>h) fun b hb hs=>?_,fun b hb=>?_,fun b hb hr=>?_⟩
 ·exact h.base b hb (hS b (Dm hb h.km.size) hs)
 ·unfold A7 at hb;by_cases aB:b<w.heap.size
  ·rw[if_pos aB]at hb;by_cases hs:S b
   ·exact xX b aB hs
   ·rw[(k.heap b aB hs).2];exact h.zr b hb
  ·rw[if_neg aB]at hb;exact hr hb b (by omega)
 ·unfold A7 at hr;rw[if_pos (Dm hb h.km.size)]at hr;exact h.base b hb hr
theorem Sys.stepM(h:Sys w0 m0 M w m ρ)(k:KM w m w' m S)(hS:∀ b,b<w.heap.size→S b→ρ b≠0)(r:Nat):Sys w0 m0 M w' m (A7 ρ w.heap.size r):=
 h.step k hS (fun b hb hs=>h.zr b (hS b hb hs)) r (fun _ b hb=>h.z b hb)
theorem Sys.stay(h:Sys w0 m0 M w m ρ)(k:KM w m w' m S)(hS:∀ b,b<w.heap.size→S b→ρ b≠0):Sys w0 m0 M w' m ρ:=by
 refine⟨h.km.trans k fun b hb hs=>h.base b hb (hS b (Dm hb h.km.size) hs),h.zr,h.base⟩
theorem Sys.close(h:Sys w0 m0 M w m ρ)(k:KM w m w m' S)(hS:∀ b,b<w.heap.size→S b→ρ b≠0){ρ':Nat→Nat}(h1:∀ b,ρ' b≠0→ρ b≠0∧¬S b):Sys w0 m0 M w m' ρ':=by
 refine⟨h.km.trans k fun b hb hs=>h.base b hb (hS b (Dm hb h.km.size) hs),fun b hb=>?_,fun b hb hr=>h.base b hb (h1 b hr).1⟩;by_cases aB:b<w.heap.size
 ·rw[(k.heap b aB (h1 b hb).2).2];exact h.zr b (h1 b hb).1
 ·exact k.zero b (by omega)
theorem A5{n r b:Nat}(h:b<n):A7 ρ n r b=ρ b:=if_pos h
theorem H1{n r b:Nat}(h:n≤b):A7 ρ n r b=r:=if_neg (by omega)
end
end Go.Aev
end
namespace Go.Aev
variable {Ty:Type}{den:Ty→Type}
def LsC(U:UO Ty den)(w:World)(m:Nat→Nat):List (Leaf Ty den)→List Value→Prop
 |[],[]=>True
 |l::ls,v::vs=>CRep U w m l v∧LsC U w m ls vs
 |_,_=>False
def clL:Leaf Ty den→Bool
 | .sl _ _ (some _)=>false
 | .ptr _ _=>false
 |_=>true
section
variable {P:Bj}{U:UO Ty den}{I:Inv}{w w':World}{m m':Nat→Nat}
theorem LsC.mono(hU:U.Ok)(hx:Ext w m w' m'):∀{ls:List (Leaf Ty den)}{vs:List Value},LsC U w m ls vs→LsC U w' m' ls vs
 |[],[],_=>trivial
 |_::_,_::_,h=>⟨h.1.mono hU hx,LsC.mono hU hx h.2⟩
 |[],_::_,h=>h.elim
 |_::_,[],h=>h.elim
theorem LsC.len:∀{ls:List (Leaf Ty den)}{vs:List Value},LsC U w m ls vs→ls.length=vs.length
 |[],[],_=>rfl
 |_::_,_::_,h=>by simp[LsC.len h.2]
 |[],_::_,h=>h.elim
 |_::_,[],h=>h.elim
theorem LsC.get:∀{ls:List (Leaf Ty den)}{vs:List Value},LsC U w m ls vs→∀(j:Nat) lf,ls[j]?=some lf→∃ v,vs[j]?=some v∧CRep U w m lf v
 |[],[],_,j,lf,h=>by simp at h
 |_::_,_::_,h,0,lf,hj=>by cases hj;exact⟨_,rfl,h.1⟩
 |_::_,_::_,h,j+1,lf,hj=>by
  obtain⟨v,h1,h2⟩:=LsC.get h.2 j lf (by simpa using hj);exact⟨v,by simpa using h1,h2⟩
 |[],_::_,h,_,_,_=>h.elim
 |_::_,[],h,_,_,_=>h.elim
theorem LsC.of_rep{g:Gh}:∀{ls:List (Leaf Ty den)}{vs:List Value},LsRep U w g ls vs→LsC U w g.wm ls vs
 |[],[],_=>trivial
 |_::_,_::_,h=>⟨h.1.1,LsC.of_rep h.2⟩
 |[],_::_,h=>h.elim
 |_::_,[],h=>h.elim
theorem C0r{lf:Leaf Ty den}{v:Value}{g:Gh}(h:clL lf=true):Own w g U lf v:=by
 cases lf with
 |sl t l o=>
  cases o with
  |none=>exact⟨fun t l d e=>(by cases e),fun _ _ e=>(by cases e)⟩
  |some e=>cases h
 |ptr d o=>cases h
 |_=>exact⟨fun t l d e=>(by cases e),fun _ _ e=>(by cases e)⟩
theorem A46{lf:Leaf Ty den}{d:Nat}(h:clL lf=true):lf.has d=false:=by
 cases lf with
 |sl t l o=>
  cases o with
  |none=>rfl
  |some e=>cases h
 |ptr d o=>cases h
 |_=>rfl
theorem LsC.rep{g:Gh}(hg:g.wm=m):∀{ls:List (Leaf Ty den)}{vs:List Value},LsC U w m ls vs→ls.all clL=true→LsRep U w g ls vs
 |[],[],_,_=>trivial
 |l::ls,_::_,h,hc=>by
  rw[Fp,Bb]at hc;exact⟨⟨by rw[hg];exact h.1,C0r hc.1⟩,LsC.rep hg h.2 hc.2⟩
 |[],_::_,h,_=>h.elim
 |_::_,[],h,_=>h.elim
theorem B18:∀{ls:List (Leaf Ty den)},ls.all clL=true→R9 ls=false
 |[],_=>rfl
 |l::ls,h=>by
  rw[Fp,Bb]at h;have ih:=B18 h.2;have h1:=h.1;cases l with
  |sl t x o=>
   cases o with
   |none=>exact ih
   |some e=>cases h1
  |ptr d o=>cases h1
  |_=>exact ih
def EC(U:UO Ty den)(w:World)(m:Nat→Nat)(e:Ent Ty den)(v:Value):Prop:=
 match e with
 | .one l=>CRep U w m l v
 | .tup ls=>∃ vs:List Value,v=.tuple vs.toArray∧LsC U w m ls vs
 |_=>True
theorem R5{f:Cb}{S:List (Leaf Ty den)→Option (Ent Ty den)}(snd:Sound P U I f S){ls:List (Leaf Ty den)}{r:Ent Ty den}{vs:List Value}(hS:S ls=some r)(hI:I w m)(hz:∀ b,w.heap.size≤b→m b=0)(bm:LsC U w m ls vs)(hc:ls.all clL=true):
  Calls P f vs.toArray w fun e w'=>∃ v m',e=.returned v∧KM w m w' m' (fun _=>False)∧EC U w' m' r v:=by
 refine(snd.ok ls r hS w ⟨m,fun _=>.int .i64 0,fun _=>0,fun _=>0⟩ vs hI hz (bm.rep rfl hc) (fun e=>by rw[B18 hc]at e;cases e) (fun lf cz d hd=>by
  rw[A46 ((Ed.1 hc) lf cz)]at hd;cases hd)).mono fun e w' ⟨v,g',he,p⟩=>⟨v,g'.wm,he,⟨p.os,p.tape,p.output,p.size,fun b hb _=>p.frame b hb (fun e=>by rw[B18 hc]at e;cases e.1),p.ext,p.zero⟩,?_⟩
 have:=p.rep;cases r with
 |one l=>exact this.1
 |tup ls=>obtain⟨vs,h1,h2⟩:=this;exact⟨vs,h1,LsC.of_rep h2⟩
 |_=>trivial
theorem B5L{g:Gh}:∀{asq bs:List (Leaf Ty den)}{us vs:List Value},asq.length=us.length→LsRep U w g (asq++bs) (us++vs)→LsRep U w g asq us∧LsRep U w g bs vs
 |[],bs,[],vs,_,h=>⟨trivial,h⟩
 |a::asq,bs,u::us,vs,hl,h=>by
  obtain⟨h1,h2⟩:=B5L (asq:=asq) (us:=us) (by simpa using hl) h.2;exact⟨⟨h.1,h1⟩,h2⟩
 |[],_,_::_,_,hl,_=>by cases hl
 |_::_,_,[],_,hl,_=>by cases hl
theorem C2x{f:Cb}{S:List (Leaf Ty den)→List (List (Leaf Ty den))→Option (List (Leaf Ty den)×List (List (Leaf Ty den)))}(snd:H9 P U I f S){ls c rs c':List (Leaf Ty den)}{vs us:List Value}{b:Nat}
  (hS:S (.ptr 900000 0::ls) [c]=some (rs,[c']))(hI:I w m)(hz:∀ b,w.heap.size≤b→m b=0)(bm:LsC U w m ls vs)(cm:ls.all clL=true)(tH:Bk w b us)(tI:∀ u∈us,u.oneCell'=true∧u.cells= #[u])(ck:0<us.length)(hm:m b=0)(hc:LsC U w m c us)(gk:c.all clL=true):
  Calls P f (.pointer (some ⟨b,0,none⟩)::vs).toArray w fun e w'=>∃ m' rv gq,e=.returned (S9 rv)∧KM w m w' m' (fun k=>k=b)∧Bk w' b gq∧m' b=0∧gq.length=us.length∧(∀ u∈gq,u.oneCell'=true∧u.cells= #[u])∧LsC U w' m' c' gq∧LsC U w' m' rs rv:=by
 have au:=hc.len;obtain⟨cc,e,fz,k1,k2,k3,k4⟩:=tH
 let g:Gh:=⟨m,fun _=>.slice (some ⟨b,0,none⟩) 0 us.length,fun _=>1,fun _=>0⟩
 have dn:spare (Value.slice (some ⟨b,0,none⟩) 0 us.length)=some b:=by
  simp only[spare];rw[if_neg (by omega)]
 have qJ:∀(d:Nat),M7 (E0 (Ty:=Ty) (den:=den) 0 [c]) d→d=900000:=fun d ⟨lf,h1,h2⟩=>by
  simp only[E0,Et,Bn]at h1;rcases h1 with rfl|h1
  ·simp only[Leaf.has]at h2;exact((F6 _ _).1 h2).symm
  ·rw[A46 ((Ed.1 gk) lf h1)]at h2;cases h2
 have lQ:∀(o:Nat),o=0→LRep U w g (.ptr 900000 o) (.pointer (some ⟨b,0,none⟩)):=fun o ho=>by
  subst ho;exact⟨.ptr _ _ _,fun _ _ _ e=>(by cases e),fun d o e=>by cases e;exact⟨b,us.length,rfl,.inl ⟨rfl,by decide⟩⟩⟩
 have hx:LsRep U w g (E0 0 [c]) (R0 [(b,us)]):=by
  simp only[E0,R0,Et];exact⟨lQ 0 rfl,hc.rep rfl gk⟩
 refine(snd.ok _ _ _ _ hS w g (.pointer (some ⟨b,0,none⟩)::vs) [(b,us)] hI hz ⟨lQ 0 rfl,bm.rep rfl cm⟩ hx ⟨⟨rfl,au.symm,ck,rfl,fun j u hj=>⟨by simp[Cm,k1,k4 j u hj],tI u (Ca hj)⟩⟩,trivial⟩
  (fun d _=>⟨_,0,us.length,rfl,Cg _,.inr ⟨b,0,cc,e,fz,rfl,k1,by(show 0+us.length*1≤_;omega),by(show m b=0+0*1;rw[hm]),by rw[k3];exact Cg _⟩⟩)
  (fun d e' b' hd he az=>absurd ((qJ d hd).trans (qJ e' he).symm) az) (fun lf cz d hd=>?_)).mono fun e w' ⟨g',rv,dc,he,sU,p,je,fN⟩=>?_
 ·rcases Bn.1 cz with rfl|cz
  ·exact⟨.ptr 900000 0,by simp[E0,B8],hd⟩
  ·rw[A46 ((Ed.1 cm) lf cz)]at hd;cases hd
 ·
  have lK:∃ gq,dc=[(b,gq)]∧gq.length=us.length:=by
   match dc,fN with
   |[(b',gq)],fN=>
    simp only[Hc,List.map_nil,List.cons.injEq,Cc,and_true]at fN;exact⟨gq,by rw[fN.1],fN.2⟩
   |[],fN=>simp at fN
   |_::_::_,fN=>simp at fN
  obtain⟨gq,rfl,lr⟩:=lK;obtain⟨⟨hG,gm,Ah,dD,aw⟩,_⟩:=je;have aq:=p.rep;obtain⟨jc,ed,cO⟩:=aq;have o4:jc=rv++R0 [(b,gq)]:=by
   simp only[Kg]at ed;have:=congrArg Array.toList ed;simpa using this.symm
  subst o4;obtain⟨q1,q2⟩:=B5L sU cO;simp only[E0,R0,Et]at q2;have dA:=p.tip 900000 (by simp[Ent.has,E0,B8,Leaf.has]);obtain⟨a0,len,cap,qK,tJ,mR⟩:=dA;have jA:g'.G 900000=.slice (some ⟨b,0,none⟩) 0 gq.length:=hG;have nY:g'.Gs 900000=1:=dD;rw[jA]at qK;cases qK;obtain⟨b2,pH,c2,e2,mQ,nI,cj,z1,z2,z3⟩:=mR.resolve_left (by omega);cases nI;rw[nY]at z1 z2;have lb:g'.wm b=0:=by rw[z2]
  refine⟨g'.wm,rv,gq,he,⟨p.os,p.tape,p.output,p.size,fun k hk az=>p.frame k hk fun⟨d,hd,hs⟩=>az ?_,p.ext,p.zero⟩,⟨c2,e2,mQ,cj,by omega,by omega,fun j u hj=>?_⟩,lb,lr,fun u hu=>?_,LsC.of_rep q2.2,LsC.of_rep q1⟩
  ·have:some b=some k:=by rw[←dn];exact hs
   exact(Em this).symm
  ·obtain⟨h5,_⟩:=aw j u hj;simp only[Cm,cj]at h5;simpa using h5
  ·obtain⟨j,hj,rfl⟩:=Ji hu;exact(aw j _ (Bz hj)).2
end
end Go.Aev
namespace Go.Proofs
open Go.Shelf
def Tryz.lays169_ren:Cs:=⟨fun|169=>29|n=>n,fun|70=>105|9=>9|0=>0|72=>107|37=>22|127=>172|3=>3|5=>5|n=>n,fun|n=>n⟩
theorem Tryz.lays169:Kk Bf Tryz.lays169_ren:={
 mixed:=by kernel_rfl
 f169:=Tryz.func29.trans (congrArg some (by kernel_rfl))
 t0:=Dv
 a0:=Dz
 z0:=Dx
 v0:=Ds
 t3:=De
 a3:=Dk
 z3:=Dh
 v3:=Db
 t9:=Dc
 a9:=Di
 z9:=Df
 v9:=Cz
 t37:=Gg
 a37:=Gn
 z37:=Gk
 v37:=Gc
 t70:=Gj
 a70:=Gq
 z70:=Gm
 v70:=Gf
 t72:=Gi
 a72:=Gp
 z72:=Gl
 v72:=Ge
 t127:=Ij
 a127:=Jc
 z127:=It
 v127:=Hz}
theorem Tryz.Builder_Extra_169:Eu Bf Tryz.lays169_ren:={
 sizeBuilder:=by kernel_rfl
 liesBuilder:=by kernel_rfl
 t5:=Dd
 a5:=Dj
 z5:=Dg
 v5:=Da
 infoByte:=by kernel_rfl
 cellsByte:=by kernel_rfl
 sizeByte:=by kernel_rfl
 neB5:=by decide}
def Tryz.lays165_ren:Cs:=⟨fun|165=>107|240=>138|241=>168|276=>188|277=>203|n=>n,fun|70=>105|3=>3|0=>0|4=>4|9=>9|20=>20|72=>107|37=>22|164=>281|5=>5|n=>n,fun|n=>n⟩
theorem Tryz.lays165:Kl Bf Tryz.lays165_ren:={
 mixed:=by kernel_rfl
 f165:=Tryz.func107.trans (congrArg some (by kernel_rfl))
 f240:=Tryz.func138.trans (congrArg some (by kernel_rfl))
 f241:=Tryz.func168.trans (congrArg some (by kernel_rfl))
 f276:=Tryz.func188.trans (congrArg some (by kernel_rfl))
 f277:=Tryz.func203.trans (congrArg some (by kernel_rfl))
 t0:=Dv
 a0:=Dz
 z0:=Dx
 v0:=Ds
 t3:=De
 a3:=Dk
 z3:=Dh
 v3:=Db
 t4:=Du
 a4:=Dy
 z4:=Dw
 v4:=Dr
 t9:=Dc
 a9:=Di
 z9:=Df
 v9:=Cz
 t20:=Ii
 a20:=Jb
 z20:=Is
 v20:=Hy
 t37:=Gg
 a37:=Gn
 z37:=Gk
 v37:=Gc
 t70:=Gj
 a70:=Gq
 z70:=Gm
 v70:=Gf
 t72:=Gi
 a72:=Gp
 z72:=Gl
 v72:=Ge
 t164:=Ie
 a164:=Ix
 z164:=Io
 v164:=Hu}
theorem Tryz.Builder_Extra_165:Eu Bf Tryz.lays165_ren:={
 sizeBuilder:=by kernel_rfl
 liesBuilder:=by kernel_rfl
 t5:=Dd
 a5:=Dj
 z5:=Dg
 v5:=Da
 infoByte:=by kernel_rfl
 cellsByte:=by kernel_rfl
 sizeByte:=by kernel_rfl
 neB5:=by decide}
def Tryz.lays219_ren:Cs:=⟨fun|219=>169|217=>204|225=>205|224=>206|267=>207|266=>228|314=>229|n=>n,fun|9=>9|3=>3|4=>4|5=>5|46=>203|146=>265|51=>264|n=>n,fun|1=>0|n=>n⟩
def Tryz.lays138_ren:Cs:=⟨fun|138=>48|195=>109|218=>110|143=>111|219=>169|217=>204|225=>205|224=>206|267=>207|266=>228|314=>229|n=>n,fun|9=>9|3=>3|4=>4|5=>5|0=>0|46=>203|146=>265|51=>264|n=>n,fun|1=>0|n=>n⟩
theorem Tryz.lays138:Km Bf Tryz.lays138_ren:={
 mixed:=by kernel_rfl
 f138:=Tryz.func48.trans (congrArg some (by kernel_rfl))
 f143:=Tryz.func111.trans (congrArg some (by kernel_rfl))
 f195:=Tryz.func109.trans (congrArg some (by kernel_rfl))
 f217:=Tryz.func204.trans (congrArg some (by kernel_rfl))
 f218:=Tryz.func110.trans (congrArg some (by kernel_rfl))
 f219:=Tryz.func169.trans (congrArg some (by kernel_rfl))
 f224:=Tryz.func206.trans (congrArg some (by kernel_rfl))
 f225:=Tryz.func205.trans (congrArg some (by kernel_rfl))
 f266:=Tryz.func228.trans (congrArg some (by kernel_rfl))
 f267:=Tryz.func207.trans (congrArg some (by kernel_rfl))
 f314:=Tryz.func229.trans (congrArg some (by kernel_rfl))
 t0:=Dv
 a0:=Dz
 z0:=Dx
 v0:=Ds
 t3:=De
 a3:=Dk
 z3:=Dh
 v3:=Db
 t4:=Du
 a4:=Dy
 z4:=Dw
 v4:=Dr
 t5:=Dd
 a5:=Dj
 z5:=Dg
 v5:=Da
 t9:=Dc
 a9:=Di
 z9:=Df
 v9:=Cz
 t46:=Ew
 a46:=Ez
 z46:=Ey
 v46:=Ev
 t51:=Ig
 a51:=Iz
 z51:=Iq
 v51:=Hw
 t146:=If
 a146:=Iy
 z146:=Ip
 v146:=Hv
 g1:=by kernel_rfl}
open Go.RowKit Go.Lib in
theorem Tryz.strings_Count_one(s:ByteArray)(c:UInt8)(w:World):
 Calls Bf 48 #[.string s,.string ⟨#[c]⟩] w fun e w'=>e=.returned (.int .i64 (Lib.countByte s.data.toList c))∧w'=w:=Any.strings_Count_one Tryz.lays138 s c w
def Tryz.lays206_ren:Cs:=⟨fun|206=>167|n=>n,fun|9=>9|4=>4|3=>3|n=>n,fun|n=>n⟩
def Tryz.lays101_ren:Cs:=⟨fun|101=>65|208=>140|206=>167|n=>n,fun|9=>9|4=>4|3=>3|n=>n,fun|n=>n⟩
theorem Tryz.lays101:Ko Bf Tryz.lays101_ren:={
 mixed:=by kernel_rfl
 f101:=Tryz.func65.trans (congrArg some (by kernel_rfl))
 f206:=Tryz.func167.trans (congrArg some (by kernel_rfl))
 f208:=Tryz.func140.trans (congrArg some (by kernel_rfl))
 t3:=De
 a3:=Dk
 z3:=Dh
 v3:=Db
 t4:=Du
 a4:=Dy
 z4:=Dw
 v4:=Dr
 t9:=Dc
 a9:=Di
 z9:=Df
 v9:=Cz}
open Go.RowKit Go.Lib in
theorem Tryz.strings_TrimPrefix(s p:ByteArray)(w:World):
 Calls Bf 65 #[.string s,.string p] w fun e w'=>e=.returned (.string ⟨(Lib.trimPrefix s.data.toList p.data.toList).toArray⟩)∧w'=w:=Any.strings_TrimPrefix Tryz.lays101 s p w
def Tryz.lays197_ren:Cs:=⟨fun|197=>217|260=>236|n=>n,fun|9=>9|21=>21|3=>3|4=>4|5=>5|105=>217|119=>316|0=>0|46=>203|139=>319|138=>318|n=>n,fun|3=>1|4=>2|n=>n⟩
theorem Tryz.lays197:Kj Bf Tryz.lays197_ren:={
 mixed:=by kernel_rfl
 f197:=Tryz.func217.trans (congrArg some (by kernel_rfl))
 f260:=Tryz.func236.trans (congrArg some (by kernel_rfl))
 t0:=Dv
 a0:=Dz
 z0:=Dx
 v0:=Ds
 t3:=De
 a3:=Dk
 z3:=Dh
 v3:=Db
 t4:=Du
 a4:=Dy
 z4:=Dw
 v4:=Dr
 t5:=Dd
 a5:=Dj
 z5:=Dg
 v5:=Da
 t9:=Dc
 a9:=Di
 z9:=Df
 v9:=Cz
 t21:=Ih
 a21:=Ja
 z21:=Ir
 v21:=Hx
 t46:=Ew
 a46:=Ez
 z46:=Ey
 v46:=Ev
 t105:=Tryz.underlying217
 a105:=Tryz.isAgg217
 z105:=Tryz.sizeOf217
 v105:=Tryz.zeroValue217
 t119:=Ic
 a119:=Iw
 z119:=Im
 t138:=Ib
 a138:=Iv
 z138:=Il
 v138:=Ht
 t139:=Ia
 a139:=Iu
 z139:=Ik
 v139:=Hs
 g3:=by kernel_rfl
 g4:=by kernel_rfl}
def Tryz.lays105_ren:Cs:=⟨fun|105=>47|212=>105|99=>106|165=>107|166=>62|170=>108|169=>29|263=>165|264=>166|206=>167|240=>138|241=>168|276=>188|277=>203|n=>n,fun|9=>9|3=>3|4=>4|20=>20|0=>0|46=>203|109=>204|5=>5|72=>107|76=>163|51=>264|146=>265|53=>267|148=>268|70=>105|37=>22|75=>162|127=>172|164=>281|80=>112|n=>n,fun|n=>n⟩
theorem Tryz.lays105:Kn Bf Tryz.lays105_ren:={
 mixed:=by kernel_rfl
 f99:=Tryz.func106.trans (congrArg some (by kernel_rfl))
 f105:=Tryz.func47.trans (congrArg some (by kernel_rfl))
 f165:=Tryz.func107.trans (congrArg some (by kernel_rfl))
 f166:=Tryz.func62.trans (congrArg some (by kernel_rfl))
 f169:=Tryz.func29.trans (congrArg some (by kernel_rfl))
 f170:=Tryz.func108.trans (congrArg some (by kernel_rfl))
 f206:=Tryz.func167.trans (congrArg some (by kernel_rfl))
 f212:=Tryz.func105.trans (congrArg some (by kernel_rfl))
 f240:=Tryz.func138.trans (congrArg some (by kernel_rfl))
 f241:=Tryz.func168.trans (congrArg some (by kernel_rfl))
 f263:=Tryz.func165.trans (congrArg some (by kernel_rfl))
 f264:=Tryz.func166.trans (congrArg some (by kernel_rfl))
 f276:=Tryz.func188.trans (congrArg some (by kernel_rfl))
 f277:=Tryz.func203.trans (congrArg some (by kernel_rfl))
 t0:=Dv
 a0:=Dz
 z0:=Dx
 v0:=Ds
 t3:=De
 a3:=Dk
 z3:=Dh
 v3:=Db
 t4:=Du
 a4:=Dy
 z4:=Dw
 v4:=Dr
 t5:=Dd
 a5:=Dj
 z5:=Dg
 v5:=Da
 t9:=Dc
 a9:=Di
 z9:=Df
 v9:=Cz
 t20:=Ii
 a20:=Jb
 z20:=Is
 v20:=Hy
 t37:=Gg
 a37:=Gn
 z37:=Gk
 v37:=Gc
 t46:=Ew
 a46:=Ez
 z46:=Ey
 v46:=Ev
 t51:=Ig
 a51:=Iz
 z51:=Iq
 v51:=Hw
 t53:=Tryz.underlying267
 a53:=Tryz.isAgg267
 z53:=Tryz.sizeOf267
 v53:=Tryz.zeroValue267
 t70:=Gj
 a70:=Gq
 z70:=Gm
 v70:=Gf
 t72:=Gi
 a72:=Gp
 z72:=Gl
 v72:=Ge
 t75:=Tryz.underlying162
 a75:=Tryz.isAgg162
 z75:=Tryz.sizeOf162
 v75:=Tryz.zeroValue162
 t76:=Tryz.underlying163
 a76:=Tryz.isAgg163
 z76:=Tryz.sizeOf163
 v76:=Tryz.zeroValue163
 t109:=Tryz.underlying204
 a109:=Tryz.isAgg204
 z109:=Tryz.sizeOf204
 v109:=Tryz.zeroValue204
 t127:=Ij
 a127:=Jc
 z127:=It
 v127:=Hz
 t146:=If
 a146:=Iy
 z146:=Ip
 v146:=Hv
 t148:=Tryz.underlying268
 a148:=Tryz.isAgg268
 z148:=Tryz.sizeOf268
 v148:=Tryz.zeroValue268
 t164:=Ie
 a164:=Ix
 z164:=Io
 v164:=Hu}
theorem Tryz.Builder_Extra_105:Eu Bf Tryz.lays105_ren:={
 sizeBuilder:=by kernel_rfl
 liesBuilder:=by kernel_rfl
 t5:=Dd
 a5:=Dj
 z5:=Dg
 v5:=Da
 infoByte:=by kernel_rfl
 cellsByte:=by kernel_rfl
 sizeByte:=by kernel_rfl
 neB5:=by decide}
open Go.RowKit Go.Lib in
theorem Tryz.strings_Repeat(s:ByteArray)(c:Nat)(w:World)(hc:c≤9223372036854775807)(au:s.size*c≤140737488355328):
 Calls Bf 47 #[.string s,.int .i64 c] w fun e w'=>e=.returned (.string ⟨(Lib.repeatL s.data.toList c).toArray⟩)∧Below w.heap.size w w':=Any.strings_Repeat Tryz.lays105 Tryz.Builder_Extra_105 s c w hc au
def Tryz.lays260_ren:Cs:=⟨fun|260=>236|n=>n,fun|9=>9|21=>21|3=>3|4=>4|5=>5|119=>316|0=>0|46=>203|139=>319|138=>318|n=>n,fun|3=>1|4=>2|n=>n⟩
theorem Tryz.lays260:Ki Bf Tryz.lays260_ren:={
 mixed:=by kernel_rfl
 f260:=Tryz.func236.trans (congrArg some (by kernel_rfl))
 t0:=Dv
 a0:=Dz
 z0:=Dx
 v0:=Ds
 t3:=De
 a3:=Dk
 z3:=Dh
 v3:=Db
 t4:=Du
 a4:=Dy
 z4:=Dw
 v4:=Dr
 t5:=Dd
 a5:=Dj
 z5:=Dg
 v5:=Da
 t9:=Dc
 a9:=Di
 z9:=Df
 v9:=Cz
 t21:=Ih
 a21:=Ja
 z21:=Ir
 v21:=Hx
 t46:=Ew
 a46:=Ez
 z46:=Ey
 v46:=Ev
 t119:=Ic
 a119:=Iw
 z119:=Im
 t138:=Ib
 a138:=Iv
 z138:=Il
 v138:=Ht
 t139:=Ia
 a139:=Iu
 z139:=Ik
 v139:=Hs
 g3:=by kernel_rfl
 g4:=by kernel_rfl}
open Go.RowKit Go.Lib in
theorem Tryz.utf8_DecodeRuneInString(s:ByteArray)(w:World)(hT:Lib.Utf8Tabs 1 2 w):
 Calls Bf 217 #[.string s] w fun e w'=>e=.returned (.tuple #[.int .i32 (Jo s).1,.int .i64 (Jo s).2])∧Below w.heap.size w w':=Any.utf8_DecodeRuneInString Tryz.lays197 s w hT
end Go.Proofs
namespace Go.Proofs
open Go.Shelf Go.RowKit
variable {P:Bj}{ρ:Ren}
set_option maxHeartbeats 2000000 in
set_option maxRecDepth 100000 in
theorem B0p(L:Lays.n169 P ρ)(X:Eu P ρ)(w w2:World)(b cap:Nat)(q:Option Addr)(n:Nat)(s:ByteArray)(c1:w.drew.cell? ⟨b,1,none⟩=some (.slice q n cap))
  (rU:(Hg #[(ρ.t 37)] (ρ.t 127) #[.slice q n cap]).run P w.drew=.ok (.pointer q) w.drew)
  (xY:(Jw #[(ρ.t 127),(ρ.t 3)] (ρ.t 9) #[.pointer q,.int .i64 n]).run P w.drew=.ok (.string s) w2):
  Calls P (ρ.f 169) #[.pointer (some ⟨b,0,none⟩)] w fun e w'=>e=.returned (.string s)∧w'=w2:=by
 have mixed:=L.mixed;have t72:=L.t72;have a72:=L.a72;have z72:=L.z72;have v72:=L.v72;have wg:=Bm L.t72;have t70:=L.t70;have a70:=L.a70;have z70:=L.z70;have v70:=L.v70;have wh:=Bm L.t70;have t37:=L.t37;have a37:=L.a37;have z37:=L.z37;have v37:=L.v37;have xZ:=Bm L.t37;have t127:=L.t127;have a127:=L.a127;have z127:=L.z127;have v127:=L.v127;have tK:=Bm L.t127;have t3:=L.t3;have a3:=L.a3;have z3:=L.z3;have v3:=L.v3;have u3:=Bm L.t3;have t9:=L.t9;have a9:=L.a9;have z9:=L.z9;have v9:=L.v9;have u9:=Bm L.t9;have t5:=X.t5;have a5:=X.a5;have z5:=X.z5;have v5:=X.v5;have u5:=Bm X.t5
 go_enter L.f169,Ka ρ
 go_wp2
 go_region_o
 all_goals(go_wp2;go_ret;exact⟨rfl,rfl⟩)
set_option maxHeartbeats 2000000 in
set_option maxRecDepth 100000 in
theorem C5x(L:Lays.n169 P ρ)(X:Eu P ρ)(w:World)(b:Nat)(q:Addr)(sh:Ba×Nat)(aB:b<w.heap.size)(c0:w.cell? ⟨b,1,none⟩=some (.slice (some q) 0 0))(fF:w.shape? q.block=some sh):
  Calls P (ρ.f 169) #[.pointer (some ⟨b,0,none⟩)] w fun e w'=>e=.returned (.string .empty)∧w'=(w.drew.alloc (.view q (ρ.t 5))):=by
 have xY:=Any.unsafeString_none L X;have c1:w.drew.cell? ⟨b,1,none⟩=some (.slice (some q) 0 0):=c0;have rU:(Hg #[(ρ.t 37)] (ρ.t 127) #[.slice (some q) 0 0]).run P w.drew=.ok (.pointer (some ⟨w.drew.heap.size,0,none⟩)) (w.drew.alloc (.view q (ρ.t 5))):=
  Lib.run_unsafeSliceData_zero w.drew _ _ (ρ.t 5) L.t127 q 0 sh fF
 have c2:(w.drew.alloc (.view q (ρ.t 5))).cell? ⟨b,1,none⟩=some (.slice (some q) 0 0):=
  (Bw (a:=⟨b,1,none⟩) (Lib.alloc_old w.drew _ b aB)).trans c0
 have c3:(w.alloc (.view q (ρ.t 5))).drew.cell? ⟨b,1,none⟩=some (.slice (some q) 0 0):=c2;have mixed:=L.mixed;have t72:=L.t72;have a72:=L.a72;have z72:=L.z72;have v72:=L.v72;have wg:=Bm L.t72;have t70:=L.t70;have a70:=L.a70;have z70:=L.z70;have v70:=L.v70;have wh:=Bm L.t70;have t37:=L.t37;have a37:=L.a37;have z37:=L.z37;have v37:=L.v37;have xZ:=Bm L.t37;have t127:=L.t127;have a127:=L.a127;have z127:=L.z127;have v127:=L.v127;have tK:=Bm L.t127;have t3:=L.t3;have a3:=L.a3;have z3:=L.z3;have v3:=L.v3;have u3:=Bm L.t3;have t9:=L.t9;have a9:=L.a9;have z9:=L.z9;have v9:=L.v9;have u9:=Bm L.t9;have t5:=X.t5;have a5:=X.a5;have z5:=X.z5;have v5:=X.v5;have u5:=Bm X.t5
 go_enter L.f169,Ka ρ
 go_wp2
 go_region_o
 all_goals(go_wp2;go_ret;exact⟨rfl,rfl⟩)
set_option maxHeartbeats 2000000 in
set_option maxRecDepth 100000 in
theorem C7S(L:Lays.n240 P ρ)(X:Builder.X72 P ρ)(b:Nat)(w:World)(h0:w.cell? ⟨b,0,none⟩=some (.pointer none))(T:Ba)(n:Nat)(fF:w.shape? b=some (T,n))(hn:0<n)
  (kq:Ej P P.depth T (n / P.cellsOf T) 0 (ρ.t 72) 1=true)(ms:w.frozen? ⟨b,0,none⟩=false):
  Calls P (ρ.f 240) #[.pointer (some ⟨b,0,none⟩)] w fun e w'=>e=.returned (.tuple #[])∧w'=w.setCell ⟨b,0,none⟩ (.pointer (some ⟨b,0,none⟩)):=by
 obtain⟨j,hj,ll⟩:=Fb.1 X.sizeBuilder;have mixed:=L.mixed;have t72:=L.t72;have a72:=L.a72;have z72:=L.z72;have v72:=L.v72;have wg:=Bm L.t72;have t70:=L.t70;have a70:=L.a70;have z70:=L.z70;have v70:=L.v70;have wh:=Bm L.t70;have t9:=L.t9;have a9:=L.a9;have z9:=L.z9;have v9:=L.v9;have u9:=Bm L.t9;have t4:=L.t4;have a4:=L.a4;have z4:=L.z4;have v4:=L.v4;have u4:=Bm L.t4;have t164:=L.t164;have a164:=L.a164;have z164:=L.z164;have v164:=L.v164;have ya:=Bm L.t164
 go_enter L.f240,Body.n240_ntmps ρ
 go_wp2
 rw[Lib.run_to_unsafe w ⟨b,0,none⟩ L.t70 L.t164 hj (by rw[ll];decide) fF hn];simp only[Fa];rw[Gu]
 go_wp2
 rw[run_callFunc_extern L.f276 (by kernel_rfl) (by kernel_rfl) (by kernel_rfl) (e:=Kp) (by kernel_rfl)];rw[Lib.run_noEscape];simp only[Fa];rw[Gu]
 go_wp2
 rw[Lib.run_from_unsafe w ⟨b,0,none⟩ L.t164 L.t70 hj fF kq];simp only[Fa];rw[Gu]
 go_wp2
 go_end0
 exact⟨rfl,rfl⟩
end Go.Proofs
namespace Go.Aev
open Go.Proofs
structure BB(w:World)(g:Gh)(b:Nat)(u0 u1:Value)(l:List Int):Prop where
 G:g.G 900000=.slice (some ⟨b,0,none⟩) 0 2
 Gs:g.Gs 900000=1
 c0:w.cell? ⟨b,0,none⟩=some u0
 c1:w.cell? ⟨b,1,none⟩=some u1
 s0:A9Y U6 w b∧(u0=.pointer none∨u0=.pointer (some ⟨b,0,none⟩))
 r1:LRep U6 w g (.sl .u8 l (some 92000001)) u1
 t0:Tip w g.wm (g.G 900000) (g.Gs 900000)
 t1:Tip w g.wm (g.G 92000001) (g.Gs 92000001)
 dis:∀ k,spare (g.G 92000001)=some k→k≠b
theorem nm2{l:List Int}{d:Nat}:M7 (Ty:=Ty6) (den:=A4) (E0 0 [[.ptr 900000 C6,.sl .u8 l (some 92000001)]]) d↔d=900000∨d=92000001:=by
 constructor
 ·rintro⟨lf,h1,h2⟩;simp only[E0,Et,Bn,Ep,or_false]at h1;rcases h1 with rfl|rfl|rfl
  ·exact .inl ((F6 _ _).1 h2).symm
  ·exact .inl ((F6 _ _).1 h2).symm
  ·exact .inr ((F6 _ _).1 h2).symm
 ·rintro(rfl|rfl)
  ·exact⟨.ptr 900000 0,by simp[E0,B8],rfl⟩
  ·exact⟨.sl .u8 l (some 92000001),by simp[E0,B8],rfl⟩
theorem B8N{P:Bj}{I:Inv}{f:Cb}{l:List Int}{rs:List L6}(cm:rs.all clL=true)
  (h:∀(w:World)(g:Gh)(b:Nat)(u0 u1:Value),(∀ k,w.heap.size≤k→g.wm k=0)→BB w g b u0 u1 l→Calls P f #[.pointer (some ⟨b,0,none⟩)] w fun e w'=>
   ∃ rv lu,e=.returned (S9 rv)∧LsC U6 w' g.wm rs rv∧BB w' g b lu u1 l∧KM w g.wm w' g.wm (fun k=>k=b∨spare (g.G 92000001)=some k)):
  X9 P U6 I f [.ptr 900000 0] [[.ptr 900000 C6,.sl .u8 l (some 92000001)]] rs [[.ptr 900000 C6,.sl .u8 l (some 92000001)]]:=by
 intro w g vs bD hI hz bm hx je dA tL db
 match vs,bD,bm,je,hx with
 |[v0],[(b,us)],⟨vA,_⟩,je,hx=>?_
 obtain⟨⟨hG,lr,ck,dD,aw⟩,_⟩:=je
 match us,lr,hG,hx,aw with
 |[u0,u1],_,hG,hx,aw=>?_
 obtain⟨hp,q0,q1,_⟩:=hx;obtain⟨b1,n1,e1,e2⟩:=vA.2.2 900000 0 rfl;obtain⟨b2,n2,e3,e4⟩:=q0.2.2 900000 C6 rfl;have jA:g.G 900000=.slice (some ⟨b,0,none⟩) 0 2:=hG;rw[jA]at e1 e3;cases e1;cases e3;have hv:v0=.pointer (some ⟨b,0,none⟩):=e2.at (by decide);subst hv;have tM:A9Y U6 w b∧(u0=.pointer none∨u0=.pointer (some ⟨b,0,none⟩)):=by
  rcases e4 with⟨_,h⟩|⟨_,h1,h2⟩
  ·exact absurd rfl h
  ·exact⟨h1,h2⟩
 have iS:spare (g.G 900000)=some b:=by rw[jA];rfl
 have bb:BB w g b u0 u1 l:=⟨jA,dD,(aw 0 u0 rfl).1,(aw 1 u1 rfl).1,tM,q1,dA 900000 (nm2.2 (.inl rfl)),dA 92000001 (nm2.2 (.inr rfl)),fun k hk e=>by
  subst e;exact tL 900000 92000001 k (nm2.2 (.inl rfl)) (nm2.2 (.inr rfl)) (by decide) iS hk⟩
 refine(h w g b u0 u1 hz bb).mono ?_;rintro e w' ⟨rv,lu,he,lg,kr,km⟩;have aF:∀{u:Value},u=lu∨u=u1→u.oneCell'=true∧u.cells= #[u]:=fun{u} hu=>by
  rcases hu with rfl|rfl
  ·rcases kr.s0.2 with h|h<;>(rw[h];exact⟨rfl,rfl⟩)
  ·obtain⟨a,cap,h⟩:=kr.r1.1.sl_inv;rw[h];exact⟨rfl,rfl⟩
 have hM:∀ k,(∃ d,M7 (Ty:=Ty6) (den:=A4) (E0 0 [[.ptr 900000 C6,.sl .u8 l (some 92000001)]]) d∧spare (g.G d)=some k)↔(k=b∨spare (g.G 92000001)=some k):=fun k=>by
  constructor
  ·rintro⟨d,h1,h2⟩;rcases nm2.1 h1 with rfl|rfl
   ·rw[iS]at h2;cases h2;exact .inl rfl
   ·exact .inr h2
  ·rintro(rfl|h)
   ·exact⟨900000,nm2.2 (.inl rfl),iS⟩
   ·exact⟨92000001,nm2.2 (.inr rfl),h⟩
 have eA:∀ d,(Ent.tup (rs++E0 0 [[.ptr 900000 C6,.sl .u8 l (some 92000001)]]):E6).has d=true→d=900000∨d=92000001:=fun d hd=>by
  simp only[Ent.has,Hd,Hb]at hd;obtain⟨lf,h1|h1,h2⟩:=hd
  ·rw[A46 ((Ed.1 cm) lf h1)]at h2;cases h2
  ·exact nm2.1 ⟨lf,h1,h2⟩
 have nL:∀{l1:List L6}{us:List Value}{bs:List L6}{vs:List Value},LsRep U6 w' g l1 us→LsRep U6 w' g bs vs→LsRep U6 w' g (l1++bs) (us++vs):=fun{l1 us}=>by
  induction l1 generalizing us with
  |nil=>intro bs vs h1 h2;cases us with
   |nil=>exact h2
   |cons _ _=>cases h1
  |cons x l1 ih=>intro bs vs h1 h2;cases us with
   |nil=>cases h1
   |cons u us=>exact⟨h1.1,ih h1.2 h2⟩
 refine⟨g,rv,[(b,[lu,u1])],he,lg.len,{os:=km.os,tape:=km.tape,output:=km.output,size:=km.size,frame:=fun k hk hn=>km.heap k hk (fun h=>hn ((hM k).2 h)),ext:=km.ext,zero:=km.zero,rep:=?_,nit:=rfl,tip:=fun d hd=>?_,disj:=fun d e k hd he az h1 h2=>?_,mine:=fun d k hd hk=>.inr ?_},⟨⟨jA,rfl,Nat.zero_lt_succ _,dD,fun j u hj=>?_⟩,trivial⟩,rfl⟩
 ·refine⟨_,rfl,?_⟩;rw[R0];exact nL (lg.rep rfl cm) ⟨⟨.ptr _ _ _,fun _ _ _ e=>(by cases e),fun d o e=>by cases e;exact⟨b,2,jA,.inl ⟨rfl,by decide⟩⟩⟩,⟨(by rcases kr.s0.2 with h|h<;>(rw[h];exact .ptr _ _ _)),fun _ _ _ e=>(by cases e),fun d o e=>by cases e;exact⟨b,2,jA,.inr ⟨rfl,kr.s0⟩⟩⟩,kr.r1,trivial⟩
 ·rcases eA d hd with rfl|rfl
  ·exact kr.t0
  ·exact kr.t1
 ·rcases eA d hd with rfl|rfl<;>rcases eA e he with rfl|rfl
  ·exact az rfl
  ·rw[iS]at h1;cases h1;exact kr.dis _ h2 rfl
  ·rw[iS]at h2;cases h2;exact kr.dis _ h1 rfl
  ·exact az rfl
 ·rcases eA d hd with rfl|rfl
  ·exact⟨900000,nm2.2 (.inl rfl),hk⟩
  ·exact⟨92000001,nm2.2 (.inr rfl),hk⟩
 ·match j,hj with
  |0,hj=>cases hj;exact⟨kr.c0,aF (.inl rfl)⟩
  |1,hj=>cases hj;exact⟨kr.c1,aF (.inr rfl)⟩
theorem C6S:(fun(k:Nat)=>Ej Bf Tryz.prog.depth 109 (k+1) 0 107 1)=(fun _=>true):=by kernel_rfl
theorem C9r:Tryz.prog.cellsOf 109=2:=by kernel_rfl
theorem B85:Tryz.prog.cellsOf 5=1:=by kernel_rfl
theorem C7X{n:Nat}(h:2≤n):Ej Bf Tryz.prog.depth 109 (n / Tryz.prog.cellsOf 109) 0 107 1=true:=by
 rw[C9r];obtain⟨k,hk⟩:∃ k,n / 2=k+1:=⟨n / 2 - 1,by omega⟩;rw[hk];exact congrFun C6S k
theorem BB.blk{w:World}{g:Gh}{b:Nat}{u0 u1:Value}{l:List Int}(h:BB w g b u0 u1 l):∃ c fz,w.heap[b]?=some (.cells c 109 fz)∧2≤c.size∧fz.2=0∧g.wm b=0:=by
 obtain⟨c,fz,h1⟩:=h.s0.1;obtain⟨a0,len,cap,hv,aQ,hc⟩:=h.t0;rw[h.G]at hv;cases hv;obtain⟨b',off,c',e',jt,ha,hb,h2,h3,h4⟩:=hc.resolve_left (by decide);cases ha;rw[h1]at hb;cases hb;rw[h.Gs]at h2 h3;have hm:g.wm b=0:=by rw[h3]
 exact⟨c,fz,h1,by omega,by omega,hm⟩
theorem A37{w w':World}{m:Nat→Nat}{v:Value}{sz:Nat}(h:Tip w m v sz)(hb:∀ k c e fz,spare v=some k→w.heap[k]?=some (.cells c e fz)→∃ c',w'.heap[k]?=some (.cells c' e fz)∧c'.size=c.size):Tip w' m v sz:=by
 obtain⟨a0,len,cap,rfl,aQ,hc⟩:=h;by_cases h0:cap=0
 ·exact⟨_,_,_,rfl,aQ,.inl h0⟩
 obtain⟨b,off,c,e,fz,ha,h1,h2,h3,h4⟩:=hc.resolve_left h0;subst ha;obtain⟨c',h5,h6⟩:=hb b c e fz (by simp[spare,h0]) h1;exact⟨_,_,_,rfl,aQ,.inr ⟨b,off,c',e,fz,rfl,h5,by rw[h6];exact h2,h3,h4⟩⟩
theorem C31{w:World}{g:Gh}{b:Nat}{u0 u1:Value}{l:List Int}(hz:∀ k,w.heap.size≤k→g.wm k=0)(h:BB w g b u0 u1 l):Calls Bf 138 #[.pointer (some ⟨b,0,none⟩)] w fun e w'=>
   ∃ rv lu,e=.returned (S9 rv)∧LsC U6 w' g.wm [] rv∧BB w' g b lu u1 l∧KM w g.wm w' g.wm (fun k=>k=b∨spare (g.G 92000001)=some k):=by
 obtain⟨c,fz,hb,dx,ms,hm⟩:=h.blk;rcases h.s0.2 with rfl|rfl
 ·refine(C7S (ρ:=Tryz.lays165_ren) {Tryz.lays165 with} Tryz.Builder_Extra_165.toX72 b w h.c0 109 c.size (by simp[Fz,hb]) (by omega) (C7X dx) (by
   simp only[Hp,hb];simp;omega)).mono ?_
  rintro e w' ⟨rfl,rfl⟩;have a8:=A9F w b 0 (.pointer (some ⟨b,0,none⟩)) c 109 fz hb;have da:∀ k,k≠b→(w.setCell ⟨b,0,none⟩ (.pointer (some ⟨b,0,none⟩))).heap[k]?=w.heap[k]? :=fun k hk=>A61 w b 0 k _ hk;generalize hw:w.setCell ⟨b,0,none⟩ (.pointer (some ⟨b,0,none⟩))=w' at*;have aC:w'.heap.size=w.heap.size:=by rw[←hw];simp[Ga]
  have hx:Ext w g.wm w' g.wm:=⟨A5X hb a8 da,fun k o ho=>Bw (a:=⟨k,o,none⟩) (da k (fun e=>by rw[e,hm]at ho;omega)),fun _=>Bh _⟩;have fC:=h.c1;refine⟨[],_,rfl,trivial,{G:=h.G,Gs:=h.Gs,c0:=?_,c1:=?_,s0:=⟨⟨_,_,a8⟩,.inr rfl⟩,r1:=h.r1.same u6_ok hx rfl rfl,t0:=?_,t1:=?_,dis:=h.dis},
   ⟨by rw[←hw];rfl,by rw[←hw];rfl,by rw[←hw];rfl,by rw[aC];exact Bh _,fun k hk hn=>⟨da k (fun e=>hn (.inl e)),rfl⟩,hx,fun k hk=>hz k (by rw[aC]at hk;exact hk)⟩⟩
  ·simp[Cm,a8,show 0<c.size by omega]
  ·simp only[Cm,hb]at fC;simp[Cm,a8];simpa using fC
  ·refine A37 h.t0 fun k c1 e1 fZ hk h1=>?_;rw[h.G]at hk;cases hk;rw[hb]at h1;cases h1;exact⟨_,a8,by simp⟩
  ·refine A37 h.t1 fun k c1 e1 fZ hk h1=>?_;exact⟨c1,by rw[da k (h.dis k hk)];exact h1,rfl⟩
 ·refine(Any.Builder_copyCheck_used (ρ:=Tryz.lays165_ren) {Tryz.lays165 with} Tryz.Builder_Extra_165.toX72 b w h.c0).mono ?_;rintro e w' ⟨rfl,rfl⟩;exact⟨[],_,rfl,trivial,h,⟨rfl,rfl,rfl,Bh _,fun _ _ _=>⟨rfl,rfl⟩,Ext.refl _ _,hz⟩⟩
theorem C8V:∀ args w,(Cf 138 args).run Bf w=.ok (.enter 138 args) w:=enters_of Tryz.func138 (by kernel_rfl) rfl
theorem C2w:∀ args w,(Cf 29 args).run Bf w=.ok (.enter 29 args) w:=enters_of Tryz.func29 (by kernel_rfl) rfl
theorem B6w(l:List Int)(rs:List L6)(n:Nat):csR [[.ptr 900000 C6,.sl .u8 (some n)]] (some (rs,[[.ptr 900000 C6,.sl .u8 l (some n)]]))=[[.ptr 900000 C6,.sl .u8 l (some n)]]:=by
 simp only[csR,A63,A58,W9,gC,Ci];simp[A7L]
theorem C6z{I:Inv}:H9 Bf U6 I 138 (sGB A9h):=by
 refine⟨C8V,fun ls cs rs av h=>?_⟩;unfold sGB A9h at h;split at h
 ·rename_i d0 o0 p0 q0 l n;obtain⟨h1,h2⟩:=L8 h;obtain⟨h3,h4⟩:=A0A h2;simp only[Bb,L5]at h1;obtain⟨⟨⟨rfl,rfl⟩,rfl,rfl⟩,rfl⟩:=h1;rw[show A27 l=some ([],[[.ptr 900000 C6,.sl .u8 l (some 92000001)]])from rfl,B6w]at h4;cases h4;exact B8N (rs:=[]) rfl fun w g b u0 u1 hz bb=>C31 hz bb
 ·cases h
theorem B8j{P:Bj}{w:World}:∀(l:List Int)(a:Addr)(lc:ByteArray),(∀(j:Nat)(x:Int),l[j]?=some x→w.cell? (a.add j)=some (.int .u8 x))→
  (Fy a lc l.length).run P w=.ok ⟨lc.data++(toB l).toArray⟩ w
 |[],a,lc,_=>by simp[Fy,toB]
 |x::l,a,lc,h=>by
  have h0:w.cell? a=some (.int .u8 x):=by
   have:=h 0 x rfl;simpa [Addr.add]using this
  have ih:=B8j (P:=P) l (a.add 1) (lc.push (x.toNat).toUInt8) (fun j y hy=>by
   have:=h (j+1) y (by simpa using hy);have e:(a.add 1).add j=a.add (j+1):=by
    unfold Addr.add;by_cases hj:j=0
    ·subst hj;simp
    ·simp[hj];omega
   rw[e];exact this)
  simp only[Eb,Fy,Sem.run_bind,run_load,h0,Fa];rw[ih]
  congr 1
  apply ByteArray.ext;simp[ByteArray.push,toB]
theorem C4L{count off n:Nat}(h:off+n≤count):Ej Bf Tryz.prog.depth 5 count off 5 n=true:=by
 have hd:Tryz.prog.depth=(2*(Tryz.prog.types.size+Made.depth)+1)+1:=rfl;rw[hd];simp only[Ej,Hi]
 left
 rw[hd];simp[rowAt,B85,h,sameLayout,Nat.mod_one]
theorem C0S{w:World}{b off:Nat}{l:List Int}{c:Array Value}{fz:Nat×Nat}(hp:Tryz.prog.underlying 172=some (.pointer 5))(hb:w.heap[b]?=some (.cells c 5 fz))(hn:off+l.length≤c.size)(hl:l≠[])(sp:l.length≤140737488355328)
  (hc:∀(j:Nat)(x:Int),l[j]?=some x→w.cell? ⟨b,off+j,none⟩=some (.int .u8 x)):
  (Jw #[172,3] 9 #[.pointer (some ⟨b,off,none⟩),.int .i64 (l.length:Int)]).run Bf w=.ok (.string ⟨(toB l).toArray⟩) (w.freeze ⟨b,off,none⟩ l.length):=by
 have h0:l.length≠0:=by simpa using hl
 have qL:=B8j (P:=Bf) (w:=w) l ⟨b,off,none⟩ .empty (fun j x hj=>by rw[Cy];exact hc j x hj);have kq:=C4L (count:=c.size) (off:=off) (n:=l.length) hn;have nf:¬(9223372036854775807:Int)<(l.length:Int):=by omega
 have tP:IntKind.i64.max=9223372036854775807:=rfl;have qM:¬(l.length:Int)<0:=by omega
 have fF:w.shape? b=some (5,c.size):=by simp[Fz,hb]
 show (Bind.bind (asInt (.int .i64 (l.length:Int))) _).run Bf w=_
 simp[asInt,asIntOf,tP,nf,qM,h0,variablesAt,fF,elemOf,Bm hp,B85,kq,qL]
theorem C82{w:World}{b off n:Nat}{c:Array Value}{e:Ba}{fz:Nat×Nat}(hn:n≠0)(hb:w.heap[b]?=some (.cells c e fz)):
  (w.freeze ⟨b,off,none⟩ n).heap[b]?=some (.cells c e (if fz.1==fz.2 then(off,off+n)else(min fz.1 off,max fz.2 (off+n))))∧(∀ k,k≠b→(w.freeze ⟨b,off,none⟩ n).heap[k]?=w.heap[k]?)∧(w.freeze ⟨b,off,none⟩ n).heap.size=w.heap.size∧
  (w.freeze ⟨b,off,none⟩ n).os=w.os∧(w.freeze ⟨b,off,none⟩ n).tape=w.tape∧(w.freeze ⟨b,off,none⟩ n).output=w.output:=by
 unfold World.freeze;rw[if_neg hn];refine⟨?_,fun k hk=>?_,by simp,rfl,rfl,rfl⟩
 ·simp only[Kd,hb,if_true,Gr]
 ·simp only[Kd];rw[if_neg (fun e=>hk e.symm)]
theorem C6X{w:World}{g:Gh}{b:Nat}{u0 u1:Value}{l:List Int}(sp:l.length≤140737488355328)(hz:∀ k,w.heap.size≤k→g.wm k=0)(h:BB w g b u0 u1 l):Calls Bf 29 #[.pointer (some ⟨b,0,none⟩)] w fun e w'=>
   ∃ rv lu,e=.returned (S9 rv)∧LsC U6 w' g.wm [.str (toB l)] rv∧BB w' g b lu u1 l∧KM w g.wm w' g.wm (fun k=>k=b∨spare (g.G 92000001)=some k):=by
 obtain⟨c,fz,hb,dx,ms,hm⟩:=h.blk;obtain⟨tQ,yc,fE⟩:=h.r1.2.1 .u8 l 92000001 rfl;obtain⟨a0,len,cap,hv,aQ,hc⟩:=h.t1;rw[←tQ]at hv;obtain⟨a1,qN,ej⟩:=h.r1.1.sl_inv;rw[hv]at ej;cases ej;have fC:w.cell? ⟨b,1,none⟩=some (.slice a0 l.length cap):=by rw[←hv];exact h.c1
 have stay:∀{w':World},w'.heap=w.heap→w'.os=w.os→w'.tape=w.tape→w'.output=w.output→BB w' g b u0 u1 l∧KM w g.wm w' g.wm (fun k=>k=b∨spare (g.G 92000001)=some k):=fun{w'} hh h1 h2 h3=>by
  have hx:Ext w g.wm w' g.wm:=⟨A6H hh,fun k o _=>Bw (a:=⟨k,o,none⟩) (by rw[hh]),fun _=>Bh _⟩;refine⟨{G:=h.G,Gs:=h.Gs,c0:=?_,c1:=?_,s0:=⟨⟨c,fz,by rw[hh];exact hb⟩,h.s0.2⟩,r1:=h.r1.same u6_ok hx rfl rfl,t0:=A37 h.t0 fun k c1 e1 fZ hk h1=>⟨c1,by rw[hh];exact h1,rfl⟩,t1:=A37 h.t1 fun k c1 e1 fZ hk h1=>⟨c1,by rw[hh];exact h1,rfl⟩,dis:=h.dis},⟨h1,h2,h3,by rw[hh];exact Bh _,fun k _ _=>⟨by rw[hh],rfl⟩,hx,fun k hk=>hz k (by rw[hh]at hk;exact hk)⟩⟩
  ·rw[←h.c0];exact Bw (a:=⟨b,0,none⟩) (by rw[hh])
  ·rw[←h.c1];exact Bw (a:=⟨b,1,none⟩) (by rw[hh])
 have yd:∀{l:List Int},l=[]→LsC U6 w g.wm [.str (toB l)] [.string .empty]:=fun{l} hl=>by subst hl;exact⟨.str [],trivial⟩
 by_cases h0:cap=0
 ·
  have di:l=[]:=Fm (by omega);cases a0 with
  |none=>
   have hr:=B0p (ρ:=Tryz.lays169_ren) Tryz.lays169 Tryz.Builder_Extra_169 w w.drew b cap none l.length .empty fC (Lib.run_unsafeSliceData_nil _ _ _ _ _) (by subst di;exact Jm w.drew _ _ _ none);refine hr.mono ?_;rintro e w' ⟨rfl,rfl⟩;obtain⟨q1,q2⟩:=stay (w':=w.drew) rfl rfl rfl rfl;exact⟨[.string .empty],u0,rfl,by subst di;exact⟨.str [],trivial⟩,q1,q2⟩
  |some q=>
   obtain⟨c2,mQ,hq⟩:=fE 5 q l.length cap rfl hv;have tR:w.cell? ⟨b,1,none⟩=some (.slice (some q) 0 0):=by rw[fC,di,h0];rfl
   have aB:=(Cp.1 hb).1;refine(C5x (ρ:=Tryz.lays169_ren) Tryz.lays169 Tryz.Builder_Extra_169 w b q (5,c2.size) aB tR (by simp[Fz,hq])).mono ?_;rintro e w' ⟨rfl,rfl⟩;have hw:(w.drew.alloc (.view q 5)).heap=w.heap.push (.view q 5):=rfl;have dP:∀ k,k<w.heap.size→(w.drew.alloc (.view q 5)).heap[k]?=w.heap[k]? :=fun k hk=>by rw[hw,Eg,if_neg (by omega)]
   have hx:Ext w g.wm (w.drew.alloc (.view q 5)) g.wm:=⟨A0X hw,fun k o ho=>Bw (a:=⟨k,o,none⟩) (dP k (by
    rcases Cw k w.heap.size with h2|h2
    ·exact h2
    ·rw[hz k h2]at ho;omega)),fun _=>Bh _⟩
   have aC:(w.drew.alloc (.view q 5)).heap.size=w.heap.size+1:=by rw[hw];simp
   show ∃ rv lu,_∧LsC U6 (w.drew.alloc (.view q 5)) g.wm _ rv∧BB (w.drew.alloc (.view q 5)) g b lu u1 l∧KM w g.wm (w.drew.alloc (.view q 5)) g.wm _;have gr:∀(k:Nat)(c1:Array Value)(e1:Ba)(fZ:Nat×Nat),w.heap[k]?=some (.cells c1 e1 fZ)→(w.drew.alloc (.view q 5)).heap[k]?=some (.cells c1 e1 fZ):=fun k c1 e1 fZ h1=>by
    rw[dP k (Cp.1 h1).1];exact h1
   refine⟨[.string .empty],u0,rfl,by subst di;exact⟨.str [],trivial⟩,{G:=h.G,Gs:=h.Gs,c0:=?_,c1:=?_,s0:=⟨⟨c,fz,gr _ _ _ _ hb⟩,h.s0.2⟩,r1:=h.r1.same u6_ok hx rfl rfl,t0:=A37 h.t0 fun k c1 e1 fZ hk h1=>⟨c1,gr _ _ _ _ h1,rfl⟩,t1:=A37 h.t1 fun k c1 e1 fZ hk h1=>⟨c1,gr _ _ _ _ h1,rfl⟩,dis:=h.dis},
    ⟨rfl,rfl,rfl,by rw[aC];omega,fun k hk _=>⟨dP k hk,rfl⟩,hx,fun k hk=>hz k (by rw[aC]at hk;omega)⟩⟩
   ·rw[←h.c0];exact Bw (a:=⟨b,0,none⟩) (dP b aB)
   ·rw[←h.c1];exact Bw (a:=⟨b,1,none⟩) (dP b aB)
 ·obtain⟨b2,off,c2,e2,mQ,ha,cj,k2,k3,k4⟩:=hc.resolve_left h0;subst ha;obtain⟨c3,ye,hq⟩:=fE 5 _ l.length cap rfl hv;have wj:w.heap[b2]?=some (.cells c3 5 ye):=hq;rw[cj]at wj;cases wj;have dD:g.Gs 92000001=1:=yc.symm;rw[dD]at k2 k3;have iS:spare (g.G 92000001)=some b2:=by rw[←tQ,hv];simp[spare,h0]
  have az:b2≠b:=h.dis b2 iS;have rU:(Hg #[22] 172 #[.slice (some ⟨b2,off,none⟩) l.length cap]).run Bf w.drew=.ok (.pointer (some ⟨b2,off,none⟩)) w.drew:=Lib.run_unsafeSliceData_row _ _ _ _ _ _ h0;by_cases di:l=[]
  ·refine(B0p (ρ:=Tryz.lays169_ren) Tryz.lays169 Tryz.Builder_Extra_169 w w.drew b cap (some ⟨b2,off,none⟩) l.length .empty fC rU (by rw[di];exact Jm w.drew _ _ _ _)).mono ?_;rintro e w' ⟨rfl,rfl⟩;obtain⟨q1,q2⟩:=stay (w':=w.drew) rfl rfl rfl rfl;exact⟨[.string .empty],u0,rfl,by rw[di];exact⟨.str [],trivial⟩,q1,q2⟩
  have yf:l.length≠0:=by simpa using di
  have bY:∀(j:Nat)(x:Int),l[j]?=some x→w.drew.cell? ⟨b2,off+j,none⟩=some (.int .u8 x):=fun j x hj=>by
   rcases h.r1.1.sl_cells u6_ok with⟨b8,_⟩|⟨b3,yg,yh,cs,o4,_,aS,cH,lg⟩
   ·exact absurd b8 di
   ·rw[hv]at o4;cases o4;have bV:(flat U6 .u8 l)[j]?=some (.int .u8 x):=by
     have:flat U6 .u8 l=l.map fun n=>.int .u8 n:=A8q l;rw[this,Fk,hj];rfl
    have h5:=cH j _ bV;have h6:=lg j _ bV;have h7:cs j=.int .u8 x:=by
     generalize cs j=z at h6;cases h6;rfl
    rw[show w.drew.cell? ⟨b2,off+j,none⟩=w.cell? ⟨b2,off+j,none⟩from rfl,h5,h7]
  refine(B0p (ρ:=Tryz.lays169_ren) Tryz.lays169 Tryz.Builder_Extra_169 w (w.drew.freeze ⟨b2,off,none⟩ l.length) b cap (some ⟨b2,off,none⟩) l.length ⟨(toB l).toArray⟩ fC rU (C0S (by kernel_rfl) cj (by omega) di sp bY)).mono ?_;rintro e w' ⟨rfl,rfl⟩;obtain⟨f1,f2,f3,f4,f5,f6⟩:=C82 (w:=w.drew) (off:=off) yf cj;generalize hw:w.drew.freeze ⟨b2,off,none⟩ l.length=w' at*;have cE:∀(k:Nat)(c1:Array Value)(e1:Ba)(fZ:Nat×Nat),w.heap[k]?=some (.cells c1 e1 fZ)→∃ jt,w'.heap[k]?=some (.cells c1 e1 jt):=fun k c1 e1 fZ h1=>by
   by_cases hk:k=b2
   ·subst hk;rw[cj]at h1;cases h1;exact⟨_,f1⟩
   ·exact⟨fZ,by rw[f2 k hk];exact h1⟩
  have aw:∀ k o,w'.cell? ⟨k,o,none⟩=w.cell? ⟨k,o,none⟩:=fun k o=>by
   by_cases hk:k=b2
   ·subst hk;simp[Cm,f1,cj]
   ·exact Bw (a:=⟨k,o,none⟩) (f2 k hk)
  have hx:Ext w g.wm w' g.wm:=⟨fun k c1 e1 fZ h1=>by obtain⟨jt,h2⟩:=cE k c1 e1 fZ h1;exact⟨c1,jt,h2⟩,fun k o _=>aw k o,fun _=>Bh _⟩;have wk:w'.heap[b]?=w.heap[b]? :=f2 b (Ne.symm az);refine⟨[.string ⟨(toB l).toArray⟩],u0,rfl,⟨.str _,trivial⟩,{G:=h.G,Gs:=h.Gs,c0:=by rw[aw];exact h.c0,c1:=by rw[aw];exact h.c1,s0:=⟨⟨c,fz,by rw[wk];exact hb⟩,h.s0.2⟩,r1:=h.r1.same u6_ok hx rfl rfl,t0:=A37 h.t0 fun k c1 e1 fZ hk h1=>?_,t1:=?_,dis:=h.dis},
   ⟨f4,f5,f6,by rw[f3];exact Bh _,fun k _ hn=>⟨f2 k (fun e=>hn (.inr (by rw[e];exact iS))),rfl⟩,hx,fun k hk=>hz k (by rw[f3]at hk;exact hk)⟩⟩
  ·rw[h.G]at hk;cases hk;exact⟨c1,by rw[wk];exact h1,rfl⟩
  ·rw[←tQ,hv,dD];refine⟨_,_,_,rfl,aQ,.inr ⟨b2,off,c2,5,_,rfl,f1,k2,k3,?_⟩⟩;rw[Nat.mul_one]at k3;split
   ·rename_i gg;simp only;omega
   ·rename_i gg;have yi:mQ.1≠mQ.2:=by simpa using gg
    simp only;omega
theorem B15{I:Inv}:H9 Bf U6 I 29 (sGB S29):=by
 refine⟨C2w,fun ls cs rs av h=>?_⟩;unfold sGB S29 at h;split at h
 ·rename_i d0 o0 p0 q0 l n;obtain⟨h1,h2⟩:=L8 h;obtain⟨h3,h4⟩:=A0A h2;simp only[Bb,L5]at h1;obtain⟨⟨⟨rfl,rfl⟩,rfl,rfl⟩,rfl⟩:=h1;unfold F29 at h3 h4;cases hd:decide (l.length≤140737488355328)with
  |false=>rw[hd]at h3;cases h3
  |true=>
   rw[hd]at h4;simp only[cond_true]at h4;rw[B6w]at h4;cases h4;exact B8N (rs:=[.str (toB l)]) rfl fun w g b u0 u1 hz bb=>C6X (of_decide_eq_true hd) hz bb
 ·cases h
end Go.Aev
namespace Go.Aev.Bv
open Go.Proofs
def noC:Cb→Option Nat:=fun _=>none
def noT:T6:=fun _ _=>none
def lkE:List (Nat×List Nat)→Nat→List Nat
 |[],_=>[]
 |(g,l)::r,n=>bif Bg n g then l else lkE r n
def mk6(T:T6)(cons:Cb→Option Nat)(drop:Nat→List Nat)(nt:Nat):Env Ty6 A4:={U:=U6,tb:=tb6,T:=T,cons:=cons,drop:=drop,nt:=nt,zr:=zr6}
def S41:List L6→Option (Bool×E6)
 |[.int .i32 a0]=>some (true,.one (.bool (J6 a0)))
 |_=>none
def S28:List L6→Option (Bool×E6)
 |[.sl .i32 a0 none]=>some (D0 a0,.one (.int .i64 (G2 a0)))
 |_=>none
def S27:List L6→Option (Bool×E6)
 |[.sl .i32 a0 none]=>some (D0 a0,.one (.bool (B5 a0)))
 |_=>none
def S56:List L6→Option (Bool×E6)
 |[.int .i32 a0]=>some (true,.one (.bool (J6 a0)))
 |_=>none
def S42:List L6→Option (Bool×E6)
 |[.sl .i32 a0 none]=>some (D0 a0,.one (.int .i64 (G2 a0)))
 |_=>none
def S30:List L6→Option (Bool×E6)
 |[.sl .i32 a0 none]=>some (D0 a0,.one (.bool (B5 a0)))
 |_=>none
def S29:List L6→Option (Bool×E6)
 |[.sl .rs a0 none]=>some (M4 a0,.one (.int .i64 (U4 a0)))
 |_=>none
def S16:List L6→Option (Bool×E6)
 |[.sl .rs a0 none]=>some (M4 a0,.one (.sl .rs (I5 a0) none))
 |_=>none
def S60:List L6→Option (Bool×E6)
 |[.int .i32 a0]=>some (true,.one (.int .i64 (O3 a0)))
 |_=>none
def S49:List L6→Option (Bool×E6)
 |[.int .i32 a0,.int .i32 a1]=>some (true,.tup [.int .i32 ((N5 a0 a1).1),.bool ((N5 a0 a1).2)])
 |_=>none
def S32:List L6→Option (Bool×E6)
 |[.int .i32 a0]=>some (true,.one (.bool (M8 a0)))
 |_=>none
def S53:List L6→Option (Bool×E6)
 |[.int .i32 a0]=>some (true,.one (.bool (M8 a0)))
 |_=>none
def S44:List L6→Option (Bool×E6)
 |[.int .i32 a0]=>some (true,.one (.bool (D2 a0)))
 |_=>none
def S61:List L6→Option (Bool×E6)
 |[.int .i32 a0]=>some (true,.one (.bool (D2 a0)))
 |_=>none
def S62:List L6→Option (Bool×E6)
 |[.int .i32 a0,.str a1]=>some (A3 (Bi a1) 1,.one (.bool (inF a0 a1)))
 |_=>none
def S45:List L6→Option (Bool×E6)
 |[.sl .u8 a0 (some 0),.int .i32 a1]=>some (A3 (Bi a0+4) 1&&D2 a1,.one (.sl .u8 (K7 a0 (u8F a1)) (some 0)))
 |_=>none
def S59:List L6→Option (Bool×E6)
 |[.sl .u8 a0 (some 0),.int .i32 a1]=>some (A3 (Bi a0+4) 1&&D2 a1&&decide (128≤a1),.one (.sl .u8 (K7 a0 (u8F a1)) (some 0)))
 |_=>none
def S33:List L6→Option (Bool×E6)
 |[.sl .i32 a0 none]=>some (D0 a0,.tup [.str ((I4 a0).1),.bool ((I4 a0).2)])
 |_=>none
def S35:List L6→Option (Bool×E6)
 |[.sl .i32 a0 none]=>some (D0 a0,.tup [.str ((I4 a0).1),.bool ((I4 a0).2)])
 |_=>none
def S50:List L6→Option (Bool×E6)
 |[.int .i32 a0]=>some (true,.one (.sl .u8 (P3 a0) (some 1)))
 |_=>none
def S46:List L6→Option (Bool×E6)
 |[.int .i32 a0]=>some (true,.one (.bool (Z6 a0)))
 |_=>none
def S47:List L6→Option (Bool×E6)
 |[.int .i32 a0]=>some (true,.one (.int .i32 (O7 a0)))
 |_=>none
def S48:List L6→Option (Bool×E6)
 |[.sl .i32 a0 none,.int .i64 a1]=>some (D0 a0&&decide (0≤a1)&&decide (a1≤(Bi a0:Int)+12),.one (.int .i32 (I8 (Es (Bq a1) a0))))
 |_=>none
def S34:List L6→Option (Bool×E6)
 |[.sl .i32 a0 none,.int .i64 a1]=>some (D0 a0&&decide (0≤a1)&&decide (a1<(Bi a0:Int)),.tup [.int .i32 ((I3 (Es (Bq a1) a0)).1),.int .i64 ((I3 (Es (Bq a1) a0)).2)])
 |_=>none
def S21:List L6→Option (Bool×E6)
 |[.sl .i32 a0 none]=>some (D0 a0,.tup [.str ((X1 a0).1),.int .i64 ((X1 a0).2)])
 |_=>none
def S23:List L6→Option (Bool×E6)
 |[.sl .i32 a0 none]=>some (smL a0,.tup [.str ((W1 a0).1),.int .i64 ((W1 a0).2)])
 |_=>none
def S37:List L6→Option (Bool×E6)
 |[.sl .i32 a0 none]=>some (smL a0,.one (.sl .rs (B4 a0) (some 1)))
 |_=>none
def S38:List L6→Option (Bool×E6)
 |[.sl .i32 a0 none]=>some (smL a0,.one (.bool (A6l 0 a0)))
 |_=>none
def S39:List L6→Option (Bool×E6)
 |[.sl .i32 a0 none]=>some (smL a0,.one (.sl .rs (B4 a0) (some 1)))
 |_=>none
def S40:List L6→Option (Bool×E6)
 |[.sl .i32 a0 none]=>some (smL a0,.one (.sl .i32 (E3 a0) (some 1)))
 |_=>none
def S51:List L6→Option (Bool×E6)
 |[.sl .i32 a0 none]=>some (D0 a0,.one (.bool (I6 a0)))
 |_=>none
def S52:List L6→Option (Bool×E6)
 |[.sl .i32 a0 none,.int .i64 a1]=>some (D0 a0&&decide (0≤a1)&&decide (a1<(Bi a0:Int)),.one (.bool (N7 (Es (Bq a1) a0))))
 |_=>none
def S54:List L6→Option (Bool×E6)
 |[.sl .i32 a0 none,.int .i64 a1]=>some (D0 a0&&decide (0≤a1)&&decide (a1<(Bi a0:Int)),.one (.bool (M3 (Es (Bq a1) a0))))
 |_=>none
def S55:List L6→Option (Bool×E6)
 |[.sl .i32 a0 none]=>some (smL a0,.one (.sl .i64 (R4 a0) (some 1)))
 |_=>none
def B11:List L6→Option (Bool×E6)
 |[.str a0]=>some (true,.tup [.int .i32 ((dgF a0).1),.int .i64 ((dgF a0).2)])
 |_=>none
def A9g:List L6→Option (Bool×E6)
 |[.str a0]=>some (smS a0,.tup [.sl .i32 ((C4 a0).1) (some 1),.int .i64 (((C4 a0).2:Nat):Int)])
 |_=>none
def B16:List L6→Option (Bool×E6)
 |[.sl .u8 a0 none,.sl .u8 a1 none]=>some (A3 (Bi a0) 1&&A3 (Bi a1) 1,.one (.bool (eqI a0 a1)))
 |_=>none
def B3c:List L6→Option (Bool×E6)
 |[.sl .u8 a0 none]=>some (isB a0&&decide (1≤Bi a0)&&decide (Bi a0≤4),.one (.int .i32 (H5 a0)))
 |_=>none
def A96:List L6→Option (Bool×E6)
 |[.sl .u8 a0 none]=>some (isB a0&&decide (1≤Bi a0)&&A3 (Bi a0) 1,.tup [.int .i32 ((P8 a0).1),.int .i64 ((P8 a0).2)])
 |_=>none
def S223:List L6→Option (Bool×E6)
 |[.sl .u8 a0 none]=>some (isB a0&&smL a0,.tup [.sl .i32 ((C4 (toB a0)).1) (some 1),.int .i64 (((C4 (toB a0)).2:Nat):Int)])
 |_=>none
def B3i:List L6→Option (Bool×E6)
 |[.int .i32 a0]=>some (true,.tup [.int .i32 ((D7 a0).1),.int .i32 ((D7 a0).2.1),.bool ((D7 a0).2.2)])
 |_=>none
def B1j:List L6→Option (Bool×E6)
 |[.int .i32 a0]=>some (true,.tup [.int .i32 ((D7 a0).1),.int .i32 ((D7 a0).2.1),.bool ((D7 a0).2.2)])
 |_=>none
def B3t:List L6→Option (Bool×E6)
 |[.sl .i32 a0 (some 0),.int .i32 a1]=>some (A3 (Bi a0+6) 4&&decide (0≤a1)&&decide (a1≤65535),.one (.sl .i32 (K7 a0 (H0 a1)) (some 0)))
 |_=>none
def B3m:List L6→Option (Bool×E6)
 |[.sl .i32 a0 (some 0),.int .i32 a1]=>some (A3 (Bi a0+12) 4&&D2 a1,.one (.sl .i32 (K7 a0 (wrF a1)) (some 0)))
 |_=>none
def B4b:List L6→Option (Bool×E6)
 |[.int .i32 a0]=>some (decide (0≤a0)&&decide (a0≤65535),.one (.str (B3 (H0 a0))))
 |_=>none
def B2k:List L6→Option (Bool×E6)
 |[.int .i32 a0]=>some (D2 a0,.one (.str (B3 (wrF a0))))
 |_=>none
def S207:List L6→Option (Bool×E6)
 |[.str a0]=>some (smS a0,.tup [.str ((qtF a0).1),.int .i64 ((qtF a0).2)])
 |_=>none
def S208:List L6→Option (Bool×E6)
 |[.str a0]=>some (smS a0,.tup [.str ((qtF a0).1),.int .i64 ((qtF a0).2)])
 |_=>none
def A92:List L6→Option (Bool×E6)
 |[.sl .rs a0 none]=>some (M4 a0&&decide (1≤Bi a0),.one (.bool (S8 a0)))
 |_=>none
def B0X:List L6→Option (Bool×E6)
 |[.sl .rs a0 none]=>some (M4 a0&&decide (1≤Bi a0),.one (.bool (S8 a0)))
 |_=>none
def B01:List L6→Option (Bool×E6)
 |[.sl .i32 a0 none]=>some (smL a0,.one (.sl .i32 (maskF a0) (some 1)))
 |_=>none
def S209:List L6→Option (Bool×E6)
 |[.str a0]=>some (smS a0,.tup [.str ((btF a0).1),.bool ((btF a0).2)])
 |_=>none
def S210:List L6→Option (Bool×E6)
 |[.str a0]=>some (smS a0,.tup [.str ((btF a0).1),.bool ((btF a0).2)])
 |_=>none
def E60:Env Ty6 A4:=mk6 noT noC (lkE [(0,[2]),(4,[6]),(5,[8,9,23]),(6,[7,10,11,12,13,14,15,16,17,18,19,20,21,22]),(7,[0,3,4,5,23,24]),(8,[0,3,4,5,7])]) 25
def A7U(x0:Int)(x3:List UInt8)(x4:List UInt8)(x5:Int):S6:=⟨[(0,.one (.int .i32 x0)),(3,.one (.str x3)),(4,.one (.str x4)),(5,.one (.int .i64 x5))],[]⟩
theorem C7D(n:Nat)(a0:Int):A2 E60 n Ek [.int .i32 a0]=
  C9 (lbC E60 (A0 Ek [1,1,1,0,1,0,0]) 10004 n) n (A7U a0 [48,49,50,51,52,53,54,55,56,57,97,98,99,100,101,102] [48,49,50,51,52,53,54,55,56,57,65,66,67,68,69,70] 0) (A8 0 (B9 (B1 E60 n (A0 Ek [1,1,1,1])) (B2 E60 Tryz.f245.results.toList))):=by
 kernel_rfl
theorem C7t(n:Nat)(x0:Int)(x3:List UInt8)(x4:List UInt8)(x5:Int)(K:Ex→S6→Option E6):lbC E60 (A0 Ek [1,1,1,0,1,0,0]) 10004 n (A7U x0 x3 x4 x5) K=
  bif decide (x5<16)then(match idx x3 x5 with|none=>none|some y1=>(bif((Be .i32 (Gb y1:Int))==x0)==false then(match idx x4 x5 with|none=>none|some y2=>(bif(Be .i32 (Gb y2:Int))==x0 then(K .ret ⟨[(2,.one (.int .i64 x5))],[]⟩)else(K .normal (A7U x0 x3 x4 (Be .i64 (x5+1))))))else(K .ret ⟨[(2,.one (.int .i64 x5))],[]⟩)))else(K (.exit 0) ⟨[(0,.one (.int .i32 x0)),(3,.one (.str x3)),(4,.one (.str x4)),(5,.one (.int .i64 x5)),(7,.one (.bool (decide (x5<16))))],[]⟩):=by
 kernel_rfl
theorem C8t(n:Nat)(x0:Int)(x3:List UInt8)(x4:List UInt8)(x5:Int)(x7:Bool):(A8 0 (B9 (B1 E60 n (A0 Ek [1,1,1,1])) (B2 E60 Tryz.f245.results.toList))) (.exit 0) ⟨[(0,.one (.int .i32 x0)),(3,.one (.str x3)),(4,.one (.str x4)),(5,.one (.int .i64 x5)),(7,.one (.bool x7))],[]⟩=
  some (.one (.int .i64 (-1))):=by
 kernel_rfl
def E49:Env Ty6 A4:=mk6 noT noC (lkE [(0,[4,5]),(1,[6,7,8,9,10,11,12,13,14,15,16,17,18]),(2,[0,1,19]),(3,[0,1,19,20,21,22,23,24,25,26])]) 27
theorem B1P(n:Nat)(a0:Int)(a1:Int):A2 E49 n Tryz.f244 [.int .i32 a0,.int .i32 a1]=
  bif(decide (a0<55296))==false then(bif(decide (a0>56319))==false then(bif(decide (a1<56320))==false then(bif decide (a1>57343)then(some (.tup [.int .i32 0,.bool false]))else(some (.tup [.int .i32 (Be .i32 ((Be .i32 (65536+(Be .i32 ((Be .i32 (a0 - 55296))*1024))))+(Be .i32 (a1 - 56320)))),.bool true])))else(some (.tup [.int .i32 0,.bool false])))else(some (.tup [.int .i32 0,.bool false])))else(some (.tup [.int .i32 0,.bool false])):=by
 kernel_rfl
def E32:Env Ty6 A4:=mk6 noT noC (lkE [(0,[2]),(1,[3]),(2,[0,4,5,6,7,8,9,10,11,12,13,14]),(3,[0,4,15,16,17,18,19,20,21,22,23,24])]) 25
theorem A93(n:Nat)(a0:Int):A2 E32 n Tryz.f191 [.int .i32 a0]=
  bif decide (a0<32)then(bif(a0==9)==false then(bif(a0==10)==false then(some (.one (.bool (a0==13))))else(some (.one (.bool true))))else(some (.one (.bool true))))else(bif(decide (a0≤65535))==true then(bif(decide (a0<55296))==false then(some (.one (.bool (decide (a0≥57344)))))else(some (.one (.bool true))))else(some (.one (.bool false)))):=by
 kernel_rfl
def T53:T6:=fun f ls=>match f with
 |174=>S62 ls
 |175=>S61 ls
 |_=>none
def E53:Env Ty6 A4:=mk6 T53 noC (lkE [(0,[2]),(1,[3]),(2,[0,4,5,6]),(3,[0,4,7,8,9,10,11,12])]) 13
theorem B0V(n:Nat)(a0:Int):A2 E53 n Tryz.f121 [.int .i32 a0]=
  bif decide (a0<32)then(bif A3 (Bi [9,10,13]) 1 then(some (.one (.bool (inF a0 [9,10,13]))))else none)else(bif(decide (a0<65536))==true then(some (.one (.bool (D2 a0))))else(some (.one (.bool false)))):=by
 kernel_rfl
def E61:Env Ty6 A4:=mk6 noT noC (lkE [(0,[2]),(1,[3,4,5,6,7]),(2,[0,8]),(3,[0,8,9,10,11,12,13,14])]) 15
theorem C5S(n:Nat)(a0:Int):A2 E61 n Tryz.f175 [.int .i32 a0]=
  bif(decide (a0≥55296))==true then(bif decide (a0≤57343)then(some (.one (.bool false)))else(bif(decide (a0≥0))==true then(some (.one (.bool (decide (a0≤1114111)))))else(some (.one (.bool false)))))else(bif(decide (a0≥0))==true then(some (.one (.bool (decide (a0≤1114111)))))else(some (.one (.bool false)))):=by
 kernel_rfl
def E62:Env Ty6 A4:=mk6 noT noC (lkE [(0,[4]),(2,[6,7,8]),(3,[10,11,17]),(4,[9,12,13,14,15,16]),(5,[0,1,5,17]),(6,[0,1,5,9])]) 18
def A7G(x0:Int)(x1:List UInt8)(x5:Int):S6:=⟨[(0,.one (.int .i32 x0)),(1,.one (.str x1)),(5,.one (.int .i64 x5))],[]⟩
theorem B3R(n:Nat)(a0:Int)(a1:List UInt8):A2 E62 n El [.int .i32 a0,.str a1]=
  C9 (lbC E62 (A0 El [1,0,1,0,0]) 10002 n) n (A7G a0 a1 0) (A8 0 (B9 (B1 E62 n (A0 El [1,1])) (B2 E62 Tryz.f174.results.toList))):=by
 kernel_rfl
theorem C4x(n:Nat)(x0:Int)(x1:List UInt8)(x5:Int)(K:Ex→S6→Option E6):lbC E62 (A0 El [1,0,1,0,0]) 10002 n (A7G x0 x1 x5) K=
  bif decide (x5<(Bi x1:Int))then(match idx x1 x5 with|none=>none|some y1=>(bif(Be .i32 (Gb y1:Int))==x0 then(K .ret ⟨[(4,.one (.bool true))],[]⟩)else(K .normal (A7G x0 x1 (Be .i64 (x5+1))))))else(K (.exit 0) ⟨[(0,.one (.int .i32 x0)),(1,.one (.str x1)),(5,.one (.int .i64 x5)),(9,.one (.bool (decide (x5<(Bi x1:Int)))))],[]⟩):=by
 kernel_rfl
theorem C6U(n:Nat)(x0:Int)(x1:List UInt8)(x5:Int)(x9:Bool):(A8 0 (B9 (B1 E62 n (A0 El [1,1])) (B2 E62 Tryz.f174.results.toList))) (.exit 0) ⟨[(0,.one (.int .i32 x0)),(1,.one (.str x1)),(5,.one (.int .i64 x5)),(9,.one (.bool x9))],[]⟩=
  some (.one (.bool false)):=by
 kernel_rfl
def E44:Env Ty6 A4:=mk6 noT noC (lkE [(0,[2]),(1,[4,5,6,7,8,9]),(2,[0,3]),(3,[0,3,11,12,13,14,15,16]),(4,[10]),(5,[10])]) 17
theorem B1i(n:Nat)(a0:Int):A2 E44 n Tryz.f220 [.int .i32 a0]=
  bif(decide (0≤a0))==true then(bif decide (a0<55296)then(some (.one (.bool true)))else(bif(decide (57343<a0))==true then(bif decide (a0≤1114111)then(some (.one (.bool true)))else(some (.one (.bool false))))else(some (.one (.bool false)))))else(bif(decide (57343<a0))==true then(bif decide (a0≤1114111)then(some (.one (.bool true)))else(some (.one (.bool false))))else(some (.one (.bool false)))):=by
 kernel_rfl
def T45:T6:=fun f ls=>match f with
 |238=>S59 ls
 |_=>none
def C5W:Cb→Option Nat:=fun f=>match f with
 |238=>some 0
 |_=>none
def E45:Env Ty6 A4:=mk6 T45 C5W (lkE [(0,[4]),(1,[5,6]),(2,[0,1,7,8,9,10,11,12]),(3,[0,1,7,13,14,15])]) 16
theorem B2g(n:Nat)(a0:List Int)(a1:Int):A2 E45 n Tryz.f221 [.sl .u8 a0 (some 0),.int .i32 a1]=
  bif decide ((Be .u32 a1)≤127)then(bif A3 (Bi a0+1) 1 then(some (.one (.sl .u8 (a0++[Be .u8 a1]) (some 0))))else none)else(bif A3 (Bi a0+4) 1&&D2 a1&&decide (128≤a1)then(some (.one (.sl .u8 (K7 a0 (u8F a1)) (some 0))))else none):=by
 kernel_rfl
def E59:Env Ty6 A4:=mk6 noT noC (lkE [(0,[4]),(1,[6,7]),(2,[0,1,8,9,10,50]),(3,[12,13]),(4,[0,1,5,11,14,15,16,17,18,19,20,21,22,23,24]),(5,[11,26,27]),(6,[28,29,30,31,32,33]),(7,[0,1,5,25,34,35,36,37,38,39,40,41,42,43,44,45,46,47,48,49]),(8,[5,25,51,52,53,54,55,56]),(9,[0,1,50,57,58,59,60,61,62,63,64,65,66,67,68,69,70,71,72,73,74,75,76,77])]) 78
theorem C1i(n:Nat)(a0:List Int)(a1:Int):A2 E59 n Tryz.f238 [.sl .u8 a0 (some 0),.int .i32 a1]=
  bif decide ((Be .u32 a1)≤2047)then(bif A3 (Bi a0+2) 1 then(some (.one (.sl .u8 (a0++[bits .or .u8 192 (Be .u8 (a1 / 2^(Bq 6))),bits .or .u8 128 (bits .and .u8 (Be .u8 a1) 63)]) (some 0))))else none)else(bif decide ((Be .u32 a1)<55296)then(bif decide ((Be .u32 a1)<55296)then(bif A3 (Bi a0+3) 1 then(some (.one (.sl .u8 (a0++[bits .or .u8 224 (Be .u8 (a1 / 2^(Bq 12))),bits .or .u8 128 (bits .and .u8 (Be .u8 (a1 / 2^(Bq 6))) 63),bits .or .u8 128 (bits .and .u8 (Be .u8 a1) 63)]) (some 0))))else none)else(bif(decide ((Be .u32 a1)>65535))==true then(bif decide ((Be .u32 a1)≤1114111)then(bif A3 (Bi a0+4) 1 then(some (.one (.sl .u8 (a0++[bits .or .u8 240 (Be .u8 (a1 / 2^(Bq 18))),bits .or .u8 128 (bits .and .u8 (Be .u8 (a1 / 2^(Bq 12))) 63),bits .or .u8 128 (bits .and .u8 (Be .u8 (a1 / 2^(Bq 6))) 63),bits .or .u8 128 (bits .and .u8 (Be .u8 a1) 63)]) (some 0))))else none)else(bif A3 (Bi a0+3) 1 then(some (.one (.sl .u8 (a0++[239,191,189]) (some 0))))else none))else(bif A3 (Bi a0+3) 1 then(some (.one (.sl .u8 (a0++[239,191,189]) (some 0))))else none)))else(bif(decide (57343<(Be .u32 a1)))==true then(bif decide ((Be .u32 a1)≤65535)then(bif A3 (Bi a0+3) 1 then(some (.one (.sl .u8 (a0++[bits .or .u8 224 (Be .u8 (a1 / 2^(Bq 12))),bits .or .u8 128 (bits .and .u8 (Be .u8 (a1 / 2^(Bq 6))) 63),bits .or .u8 128 (bits .and .u8 (Be .u8 a1) 63)]) (some 0))))else none)else(bif(decide ((Be .u32 a1)>65535))==true then(bif decide ((Be .u32 a1)≤1114111)then(bif A3 (Bi a0+4) 1 then(some (.one (.sl .u8 (a0++[bits .or .u8 240 (Be .u8 (a1 / 2^(Bq 18))),bits .or .u8 128 (bits .and .u8 (Be .u8 (a1 / 2^(Bq 12))) 63),bits .or .u8 128 (bits .and .u8 (Be .u8 (a1 / 2^(Bq 6))) 63),bits .or .u8 128 (bits .and .u8 (Be .u8 a1) 63)]) (some 0))))else none)else(bif A3 (Bi a0+3) 1 then(some (.one (.sl .u8 (a0++[239,191,189]) (some 0))))else none))else(bif A3 (Bi a0+3) 1 then(some (.one (.sl .u8 (a0++[239,191,189]) (some 0))))else none)))else(bif(decide ((Be .u32 a1)>65535))==true then(bif decide ((Be .u32 a1)≤1114111)then(bif A3 (Bi a0+4) 1 then(some (.one (.sl .u8 (a0++[bits .or .u8 240 (Be .u8 (a1 / 2^(Bq 18))),bits .or .u8 128 (bits .and .u8 (Be .u8 (a1 / 2^(Bq 12))) 63),bits .or .u8 128 (bits .and .u8 (Be .u8 (a1 / 2^(Bq 6))) 63),bits .or .u8 128 (bits .and .u8 (Be .u8 a1) 63)]) (some 0))))else none)else(bif A3 (Bi a0+3) 1 then(some (.one (.sl .u8 (a0++[239,191,189]) (some 0))))else none))else(bif A3 (Bi a0+3) 1 then(some (.one (.sl .u8 (a0++[239,191,189]) (some 0))))else none)))):=by
 kernel_rfl
end Go.Aev.Bv
