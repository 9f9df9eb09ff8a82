/- Proved here: lemmas that the claim's text uses. Conditions: those that each lemma states. -/
import Derived.Test.YtolabkginnkhgaaGreatDoorRows
import Derived.WalkKit
import Derived.ProofKit
import Derived.OpenShut
import Derived.ChangeMaps5
import Derived.Deep.Matrix
import Derived.Deep.DeepHandedRow
import Derived.SizedLaws
import Derived.Carry
import Derived.PinnedBridge
import Derived.Lib.LaidU8T
import Derived.Lib.LaidTab
import Derived.Test.YtolabkginnkhgaaGreatDoorX3
set_option maxRecDepth 100000
set_option linter.unusedVariables false
set_option linter.unusedSimpArgs false
open List renaming length_append→Aw,length_cons→Ax,length_nil→Ay,append_nil→Az,flatten_nil→Ba,flatten_cons→Bb,append_assoc→Be,length→Bg,getElem?_eq_getElem→Bl,all_eq_true→Bm,nil_append→Bo,mem_cons_self→Br,any_eq_true→By,mem_append→Ca,length_singleton→Cf,length_map→Cg,getElem?_eq_some_iff→Cj,flatMap_cons→Ck,mem_cons_of_mem→Cl,getElem?_set_ne→Cm,cons_append→Cn,mem_of_getElem?→Cs,mem_map→Ct,getElem_mem→Cu,getElem?_map→Cv,range→Db,mem_singleton→Dc,mem_cons→Dd,length_set→De,drop_length→Df,drop_eq_getElem_cons→Dg,all_cons→Dh,mem_reverse→Ds,mem_of_mem_drop→Du,map_cons→Dv,length_take→Dw,getElem?_append_left→Dx,getD_eq_getElem?_getD→Dy,flatMap_map→Dz,eq_nil_of_length_eq_zero→Ea,dropWhile_cons_of_neg→Eb,takeWhile_append_dropWhile→En,reverse_reverse→Eo,mem_of_mem_take→Ep,map_map→Er,length_drop→Es,getElem?_take→Et,getElem?_set→Eu,getElem?_range→Ev,getElem?_append_right→Ew,flatMap_append→Ey,dropWhile_cons_of_pos→Ez,dropWhile_append_of_pos→Fa,cons_ne_nil→Fb,any_cons→Fe,all_append→Ff
open Go.Proofs.Tryz renaming prog→Bf,f93→Bp,f13→Cq,f92→Cw,f143→Cx
open Go.IntKind renaming wrap→Bh
open Nat renaming le_refl→Bi,lt_succ_self→Bn,blt→Bq,beq→Bu,zero_le→Bw,le_succ→Ce,blt_eq→Ci,ble_eq→Da,mul_le_mul_left→Do,le_trans→Dp,le_succ_of_le→Dq,mul_le_mul→Ei,lt_or_ge→Ej,le_add_right→Ek,eq_of_beq_eq_true→El,div_add_mod'→Em
open Bool renaming and_eq_true→Bj,not_false→Bz,not_true→Cd,or_eq_true→Co,not_eq_true'→Ec
open Go renaming wpList→Bx,FuncId→Cc,callFunc→Ch,execOp→Cp,Operand→Cr,Program→Cz,ready_mono→Di
open Go.Region renaming ready→Cb,noSelect→Dk,free→Dl,binds→Dm,wanted→Ef
open Go.Program renaming underlying→Cy
open Go.Value renaming int→Dj,cells→Ed
open Ne renaming symm→Dn
open Go.Made renaming depth→Dr
open Go.Value.agg renaming injEq→Ee
open Option.some renaming injEq→Eg
open Option renaming getD_some→Eh
open List.cons renaming injEq→Fc
open Go.Lib.laidMet renaming reads→Fg
open Int renaming le_refl→Fh,add_zero→Fi
open Array renaming toList→Fj,getElem?_eq_none→Fk
namespace Go.Aev
theorem V3{i k:Nat}(h:i+k<=4611686018427387904):Bh .i64 ((i:Int)+(k:Int))=((i+k:Nat):Int):=by
 rw[A2U (by omega) (by omega)];omega
section
variable {R:Type}{P:Option R->Prop}{s:Aa}{M:Nat}
theorem B0J(hs:Stp s M){i:Nat}(hi:i<=M){c:Int}(hc:0<=c):∃b,A1Z s (i:Int) c=some (.one (.bool b))/\(b=true->i+3<=M):=by
 let P:Ad->Prop:=λo=>∃b,o=some (.one (.bool b))/\(b=true->i+3<=M)
 show P (A1Z s (i:Int) c);have ao:=hs.sz;obtain⟨y,hy,hp,hn⟩:=hs.at hi;have w1:Bh .i64 ((i:Int)+1)=((i+1:Nat):Int):=V3 (k:=1) (by omega);have w2:Bh .i64 ((i:Int)+2)=((i+2:Nat):Int):=V3 (k:=2) (by omega);have no:P (some (.one (.bool false))):=⟨false,rfl,λh=>by cases h⟩;simp only[A1Z,gd,kC,kP,kO,w1,w2,E1,hy];refine E5 (P:=P) (λh1=>?_) (λ_=>no);have aj:i+2<s.length:=by
  have:=Av (beqT.mp h1);omega
 have g1:s[i+1]?=some s[i+1]:=Bl (by omega);have g2:s[i+2]?=some s[i+2]:=Bl aj;generalize s[i+1]=y1 at*;generalize s[i+2]=y2 at*;simp only[g1,g2];refine E5 (P:=P) (λh2=>?_) (λ_=>no);refine E5 (P:=P) (λh3=>?_) (λ_=>no);refine⟨_,rfl,λh4=>?_⟩;have e0:y=c:=by simpa using h2
 have e1:y1=c:=by simpa using h3
 have e2:y2=c:=by simpa using h4
 have k0:=hp (by omega);obtain⟨z1,q1,q2,_⟩:=hs.at (i:=i+1) (by omega);rw[g1]at q1;cases q1;have k1:=q2 (by omega);obtain⟨z2,q3,q4,_⟩:=hs.at (i:=i+2) (by omega);rw[g2]at q3;cases q3;have k2:=q4 (by omega);omega
theorem B4S{nn:Nat}{a1:Int}{k2:Int->Option R}{k3:Int->Bool->Option R}(hs:Stp s M)(i0:Nat)(h2:∀j:Nat,i0+3<=j->j<=M->P (k2 (j:Int)))(h3:∀j b,P (k3 j b)):
  ∀(n i:Nat),i<=M->M<n+i->i0<=i->P (A5p nn s a1 n (i:Int) k2 k3)
 |0,i,a2,a3,_=>by omega
 |n+1,i,a2,a3,a4=>by
  obtain⟨y,hy,hp,hn⟩:=hs.at a2;have ao:=hs.sz;have w1:Bh .i64 ((i:Int)+1)=((i+1:Nat):Int):=V3 (k:=1) (by omega);have w3:Bh .i64 ((i:Int)+3)=((i+3:Nat):Int):=V3 (k:=3) (by omega);have w4:Bh .i64 ((i:Int)+4)=((i+4:Nat):Int):=V3 (k:=4) (by omega);obtain⟨b,e,hb⟩:=B0J hs a2 (c:=34) (by decide);unfold A5p;simp only[A4L,B1C,B6v,gd,kC,kP,kO,E1,hy,w1,w3,w4,e,oB1,gB1,Ap];refine E5 (P:=P) (λhc=>?_) (λ_=>h3 _ _);have ap:=hp (Av hc);obtain⟨b',e',aY⟩:=B0J hs (i:=i+1) (by omega) (c:=34) (by decide);simp only[e',oB1,gB1,Ap];have next:P (A5p nn s a1 n ((i+1:Nat):Int) k2 k3):=B4S hs i0 h2 h3 n (i+1) (by omega) (by omega) (by omega);refine E5 (P:=P) (λhc=>?_) (λhc=>?_)
  ·refine E5 (P:=P) (λhc=>?_) (λhc=>?_)
   ·have:=aY hc;exact B4S hs i0 h2 h3 n (i+4) (by omega) (by omega) (by omega)
   ·refine E5 (P:=P) (λhc=>?_) (λhc=>next);exact h2 (i+3) (by omega) (hb hc)
  ·simp only[Aq];refine E5 (P:=P) (λhc=>?_) (λhc=>next);exact h2 (i+3) (by omega) (hb hc)
theorem D7o(hs:Stp s M){i:Nat}(hi:i+3<=M):∃j:Nat,A4L s (i:Int)=some (.one (.int .i64 (j:Int)))/\(j=i\/(i+6<=j/\j<=M)):=by
 let P:Ad->Prop:=λo=>∃j:Nat,o=some (.one (.int .i64 (j:Int)))/\(j=i\/(i+6<=j/\j<=M))
 show P (A4L s (i:Int));have ao:=hs.sz;have w3:Bh .i64 ((i:Int)+3)=((i+3:Nat):Int):=V3 (k:=3) (by omega);simp only[A4L,B1C,B6v,gd,kC,kP,kO,w3];exact B4S (P:=P) hs (i+3) (λj h1 h2=>⟨j,rfl,.inr ⟨by omega,h2⟩⟩) (λj b=>⟨i,rfl,.inl rfl⟩) NN (i+3) hi (by rw[NNv];omega) (Bi _)
theorem B5P{nn:Nat}{a1:Int}{k1:Int->Option R}{k3:Int->Bool->Option R}(hs:Stp s M)(i0:Nat)(h0:P (k1 a1))(h1:∀j:Nat,i0+1<=j->j<=M->P (k1 (j:Int)))(h3:∀j b,P (k3 j b)):
  ∀(n i:Nat),i<=M->M<n+i->i0<=i->P (A3O nn s a1 n (i:Int) k1 k3)
 |0,i,a2,a3,_=>by omega
 |n+1,i,a2,a3,a4=>by
  obtain⟨y,hy,hp,hn⟩:=hs.at a2;have ao:=hs.sz;have w1:Bh .i64 ((i:Int)+1)=((i+1:Nat):Int):=V3 (k:=1) (by omega);unfold A3O;simp only[A40,B1z,B6F,gd,kC,kP,kO,E1,hy,w1];refine E5 (P:=P) (λhc=>?_) (λ_=>h3 _ _);have ap:=hp (Av (beqT.mp hc));obtain⟨y',gY,se,zC⟩:=hs.at (i:=i+1) (by omega);have w2:Bh .i64 (((i+1:Nat):Int)+1)=((i+1+1:Nat):Int):=V3 (k:=1) (by omega);simp only[gY,w2];have next:P (A3O nn s a1 n ((i+1:Nat):Int) k1 k3):=B5P hs i0 h0 h1 h3 n (i+1) (by omega) (by omega) (by omega);refine E5 (P:=P) (λhc=>?_) (λ_=>h3 _ _);refine E5 (P:=P) (λhc=>?_) (λ_=>h3 _ _);refine E5 (P:=P) (λhc=>?_) (λhc=>?_)
  ·exact h1 (i+1) (by omega) (by omega)
  refine E5 (P:=P) (λhc=>?_) (λhc=>next);refine E5 (P:=P) (λhc=>?_) (λhc=>?_)
  ·have yB:¬y'<0:=λh=>by rw[Ar h]at hc;cases hc
   have nD:=se (by omega);have qC:P (A3O nn s a1 n ((i+1+1:Nat):Int) k1 k3):=B5P hs i0 h0 h1 h3 n (i+2) (by omega) (by omega) (by omega);refine E5 (P:=P) (λhc=>?_) (λhc=>?_)
   ·exact E5 (P:=P) (λ_=>h0) (λ_=>qC)
   ·simp only[Ap];exact h0
  ·simp only[Ap];exact h0
theorem D67(hs:Stp s M){i:Nat}(hi:i<M):∃j:Nat,A40 s (i:Int)=some (.one (.int .i64 (j:Int)))/\(j=i\/(i+2<=j/\j<=M)):=by
 let P:Ad->Prop:=λo=>∃j:Nat,o=some (.one (.int .i64 (j:Int)))/\(j=i\/(i+2<=j/\j<=M))
 show P (A40 s (i:Int));have ao:=hs.sz;have w1:Bh .i64 ((i:Int)+1)=((i+1:Nat):Int):=V3 (k:=1) (by omega);simp only[A40,B1z,B6F,gd,kC,kP,kO,w1];exact B5P (P:=P) hs (i+1) ⟨i,rfl,.inl rfl⟩ (λj h1 h2=>⟨j,rfl,.inr ⟨by omega,h2⟩⟩) (λj b=>⟨i,rfl,.inl rfl⟩) NN (i+1) (by omega) (by rw[NNv];omega) (Bi _)
theorem B8i{nn:Nat}{i:Nat}{t:Ab}{k1:Int->Option R}{k3:(Ab)->Int->Bool->Option R}{y:Int}(hs:t.length<=1000)(hy:s[i]?=some y)(hi:i<=1048576)(h1:0<=y->P (k1 ((i+1:Nat):Int)))(h3:∀j b,P (k3 t j b)):
  ∀(n x:Nat),x<=t.length->t.length<n+x->P (A6t nn s (i:Int) n t (x:Int) k1 k3)
 |0,x,a2,a3=>by omega
 |n+1,x,a2,a3=>by
  unfold A6t;have w1:Bh .i64 ((i:Int)+1)=((i+1:Nat):Int):=V3 (k:=1) (by omega);by_cases hx:x<t.length
  ·have db:t[x]?=some t[x]:=Bl hx;generalize t[x]=z at*;have ap:decide ((x:Int)<(t.length:Int))=true:=Ar (by omega);have hz:=z.toNat_lt;have hw:Bh .i32 ((z.toNat:Nat):Int)=((z.toNat:Nat):Int):=C2q (by omega) (by omega);simp only[A4j,A79,A95,gd,kC,kP,kO,ap,Ap,E1,db,hy,hw,w1,N7 (i:=x) (by omega)];refine E5 (P:=P) (λhc=>?_) (λhc=>?_)
   ·have:y=((z.toNat:Nat):Int):=by simpa using hc
    exact h1 (by omega)
   ·exact B8i hs hy hi h1 h3 n (x+1) (by omega) (by omega)
  ·have ap:decide ((x:Int)<(t.length:Int))=false:=As (by omega);simp only[A4j,A79,A95,gd,kC,kP,kO,ap,Aq];exact h3 _ _
theorem C8E(hs:Stp s M){i:Nat}(hi:i<=M):∃j:Nat,A4j s (i:Int)=some (.one (.int .i64 (j:Int)))/\i<=j/\j<=M:=by
 let P:Ad->Prop:=λo=>∃j:Nat,o=some (.one (.int .i64 (j:Int)))/\i<=j/\j<=M
 show P (A4j s (i:Int));have ao:=hs.sz;obtain⟨y,hy,hp,hn⟩:=hs.at hi;obtain⟨b,e,hb⟩:=B0J hs hi (c:=46) (by decide);have w3:Bh .i64 ((i:Int)+3)=((i+3:Nat):Int):=V3 (k:=3) (by omega);simp only[A4j,A79,A95,gd,kC,kP,kO,e,oB1,gB1,Ap,w3];refine B8i (P:=P) (by decide) hy (by omega) (λh=>⟨i+1,rfl,by omega,by have:=hp h;omega⟩) (λj b'=>?_) NN 0 (by omega) (by rw[NNv];decide);refine E5 (P:=P) (λhc=>?_) (λhc=>?_)
 ·exact⟨i+3,rfl,by omega,hb hc⟩
 ·exact⟨i,rfl,by omega,by omega⟩
end
end Go.Aev
namespace Go.Aev.Bv
open Go.Proofs Go.Lib
theorem C6R(cur x:Aa):I3 cur (10::x)=cur::I3 [] x:=by rw[V8,A4Z];simp
theorem C5w:btF []=([34,34,34,34,34,34],true):=by rw[B0z,Au rfl]
theorem D14(l:Aa)(h:Q9 l=true):(E7 l).all L8=true:=by
 fun_induction E7 l with
 |case1 r ih=>exact ih h
 |case2 c r av ih=>
  have he:L4 (c::r)=false:=by
   cases he:L4 (c::r)with
   |false=>rfl
   |true=>
    obtain⟨z,hz⟩:=A4C.1 he;simp only[Fc]at hz;exact absurd hz.2 (λe=>av z hz.1 e)
  rw[B2j he]at h;split at h
  ·cases h
  ·rename_i hc;simp only[Co,Ec,not_or,Bool.not_eq_false]at hc;rw[Dh,hc.1,ih h];rfl
 |case3=>rfl
def clean(c:Int):Bool:=L8 c&&(!(c==10)&& !(c==13))
theorem A8m:∀(m cur:Aa),cur.all clean=true->m.all L8=true->∀l∈I3 cur m,l.all clean=true
 |[],cur,hc,_,l,hl=>by simp[I3]at hl;rw[hl];exact hc
 |c::r,cur,hc,hm,l,hl=>by
  simp only[Dh,Bj]at hm;rw[V8,A4Z]at hl;by_cases fg:c=10
  ·rw[Au fg]at hl;simp only[if_true]at hl;rcases Dd.1 hl with rfl|hl
   ·exact hc
   ·exact A8m r [] rfl hm.2 l hl
  ·rw[At fg]at hl;by_cases itq:c=13
   ·rw[Au itq,Au itq]at hl;split at hl
    ·rcases Dd.1 hl with rfl|hl
     ·exact hc
     ·exact A8m r [] rfl hm.2 l hl
    ·exact A8m r cur hc hm.2 l hl
   ·rw[At itq,At itq]at hl;simp only[Bool.false_eq_true,if_false]at hl;refine A8m r _ ?_ hm.2 l hl;rw[Ff,hc];simp[clean,hm.1,fg,itq]
theorem B4I:∀(l cur x:Aa),l.all clean=true->I3 cur (l++x)=I3 (cur++l) x
 |[],cur,x,_=>by simp
 |c::r,cur,x,h=>by
  simp only[Dh,Bj]at h;have hc:=h.1;simp only[clean,Bj,Ec,beq_eq_false_iff_ne]at hc;rw[Cn,A4n _ _ _ hc.2.1 hc.2.2,B4I r _ x h.2];simp
theorem B7t:∀(D:Am),D≠[]->(∀x∈D,x.all clean=true)->B3 (I8 D)=D
 |[l],_,h=>by
  have e:I8 [l]=l++[]:=by simp[I8]
  have:=B4I l [] [] (h l Br);rw[e];unfold B3;rw[this];simp[I3]
 |l::x::r,_,h=>by
  rw[B0D (by simp)];have ih:=B7t (x::r) (by simp) λy hy=>h y (Cl _ hy);unfold B3 at ih ⊢;rw[B4I l [] _ (h l Br),C6R,ih];simp
theorem B7s{p:Int->Bool}(fg:p 10=true):∀(D:Am),(∀x∈D,x.all p=true)->(I8 D).all p=true
 |[],_=>rfl
 |[l],h=>by
  have e:I8 [l]=l:=by simp[I8]
  rw[e];exact h l Br
 |l::x::r,h=>by
  rw[B0D (by simp),Ff,Dh,h l Br,fg,B7s fg (x::r) λy hy=>h y (Cl _ hy)];rfl
theorem C7X{c:Int}{ls:Am}{x:Aa}(h:x∈A02 c ls):∃y∈ls,∃n,x=y.drop n:=by
 unfold A02 at h;rcases Ca.1 h with h|h
 ·exact⟨x,Ep h,0,by simp⟩
 ·obtain⟨y,hy,rfl⟩:=Ct.1 h;exact⟨y,Du hy,_,rfl⟩
theorem C7V{p:Int->Bool}{ls:Am}(h:∀x∈ls,x.all p=true):∀x∈J7 ls,x.all p=true:=by
 intro x hx;have h1:=(B3l (M6 ls)).subset hx;rw[B1f]at h1;obtain⟨y,hy,n,rfl⟩:=C7X h1;exact Bm.2 λz hz=>Bm.1 (h y hy) z (Du hz)
theorem C9U{X:Am}{x:Aa}(h:x∈X)(hb:B4 x=false):x∈R0 X:=by
 have keep:∀(l:Am),x∈l->x∈l.dropWhile B4:=λl hl=>by
  rw[<-En (p:=B4) (l:=l)]at hl;rcases Ca.1 hl with hl|hl
  ·have:=Bm.1 (List.all_takeWhile (p:=B4) (l:=l)) x hl;rw[hb]at this;cases this
  ·exact hl
 unfold R0;exact Ds.2 (keep _ (Ds.2 (keep _ h)))
theorem C2z{l:Am}{x:Aa}{r:Am}(h:l.dropWhile B4=x::r):B4 x=false:=by
 induction l with
 |nil=>cases h
 |cons a t ih=>
  cases hb:B4 a with
  |true=>rw[Ez hb]at h;exact ih h
  |false=>
   rw[Eb (by rw[hb];simp)]at h;simp only[Fc]at h;rw[<-h.1];exact hb
theorem B7r{X:Am}(h:R0 X≠[]):B4 ((R0 X).headD [])=false/\B4 ((R0 X).getLastD [])=false:=by
 have de:X.dropWhile B4=R0 X++((X.dropWhile B4).reverse.takeWhile B4).reverse:=by
  unfold R0;rw[<-List.reverse_append,En,Eo]
 constructor
 ·match hD:R0 X,h with
  |a::t,_=>
   rw[hD,Cn]at de;exact C2z de
 ·have hr:(R0 X).reverse=(X.dropWhile B4).reverse.dropWhile B4:=by unfold R0;rw[Eo]
  have av:(R0 X).reverse≠[]:=by simpa using h
  rw[List.getLastD_eq_getLast?,List.getLast?_eq_head?_reverse]
  match hZ:(R0 X).reverse,av with
  |a::t,_=>
   rw[hZ]at hr;exact C2z hr.symm
theorem D1F{x:Aa}{r:Am}(h:∀y∈r,B4 y=true):(R0 (x::r)).length<=1:=by
 unfold R0;rw[List.length_reverse];cases hb:B4 x with
 |true=>
  have:(x::r).dropWhile B4=[]:=by
   rw[Ez hb];have:=Fa (p:=B4) (l₁:=r) (l₂:=[]) h;simpa using this
  rw[this];simp
 |false=>
  rw[Eb (by rw[hb];simp),List.reverse_cons,Fa (λy hy=>h y (Ds.1 hy)),Eb (by rw[hb];simp)];simp
theorem C10:∀(ls:Am)(m:Int),T3 m ls=m\/∃l∈ls,B4 l=false/\G6 l=T3 m ls
 |[],m=>.inl rfl
 |x::ls,m=>by
  rw[B23];rcases C10 ls (if !B4 x&&(decide (m<0)||decide (G6 x<m))then G6 x else m)with h|⟨l,hl,h1,h2⟩
  ·rw[h];split
   ·rename_i hc;simp only[Bj,Ec]at hc;exact .inr ⟨x,Br,hc.1,rfl⟩
   ·exact .inl rfl
  ·exact .inr ⟨l,Cl _ hl,h1,h2⟩
theorem D5B(l:Aa):L9 (l.drop (L9 l))=0:=by
 induction l with
 |nil=>rfl
 |cons x r ih=>
  cases hw:K4 x with
  |true=>
   have e:L9 (x::r)=L9 r+1:=by rw[A5G,Au hw]
   rw[e,List.drop_succ_cons];exact ih
  |false=>
   have e:L9 (x::r)=0:=by rw[A5G,At (by rw[hw];simp)]
   rw[e];exact e
theorem C8z{ls:Am}(av:J7 ls≠[]):S5 (J7 ls)=true:=by
 obtain⟨h1,h2⟩:=B7r (X:=M6 ls) av;have h3:(decide ((J7 ls).length=1)||(J7 ls).any A0t)=true:=by
  have hs:=(B6M (ls.drop 1) (-1)).2;rcases C10 (ls.drop 1) (-1)with h|⟨l,hl,hb,hi⟩
  ·have bQ:∀y∈ls.drop 1,B4 y=true:=λy hy=>by
    cases hb:B4 y with
    |true=>rfl
    |false=>have:=hs y hy hb;omega
   have aj:(J7 ls).length<=1:=by
    match ls,bQ with
    |[],_=>exact Nat.le_of_lt_succ (by decide)
    |x::r,bQ=>
     have qD:∀y∈r,B4 y=true:=bQ;have hc:M6 (x::r)=x::r.map λl=>l.drop (U3 (x::r)).toNat:=rfl;show(R0 (M6 (x::r))).length<=1;rw[hc];refine D1F λy hy=>?_;obtain⟨z,hz,rfl⟩:=Ct.1 hy;exact Bm.2 λa ha=>Bm.1 (qD z hz) a (Du ha)
   have:(J7 ls).length≠0:=λe=>av (Ea e);rw[Ar (by omega)];rfl
  ·have ce:l.drop (L9 l)∈M6 ls:=by
    rw[B1f];unfold A02;refine List.mem_append_right _ (Ct.2 ⟨l,hl,?_⟩);rw[<-hi];rfl
   have dt:B4 (l.drop (L9 l))=false:=by rw[D2j λ_=>Bi _];exact hb
   have cE:l.drop (L9 l)∈J7 ls:=C9U ce dt;have lm:A0t (l.drop (L9 l))=true:=by
    unfold A0t G6;rw[dt,D5B];rfl
   rw[By.2 ⟨_,cE,lm⟩,Bool.or_true]
 unfold S5;have e1:B4 ((J7 ls).headD [])=false:=h1;have e2:B4 ((J7 ls).getLastD [])=false:=h2;rw[e1,e2];exact h3
theorem C8P{l:Aa}(h:l.all clean=true):l.all okC=true:=Bm.2 λx hx=>by
 have:=Bm.1 h x hx;simp only[clean,Bj]at this;simp only[okC,Bj];exact⟨this.1,this.2.2⟩
theorem block_again{l:Aa}(h:(W7 l).2=0):(btF (W7 l).1).2=true/\(C5 (W7 l).1).1.length<=2*l.length+1/\(W7 l).1.length<=8*l.length+4:=by
 rw[C0J]at h ⊢;cases hm:Q9 l with
 |false=>rw[hm]at h;cases h
 |true=>
  rw[hm]at h;cases ho:A3t (Y5 0 l)with
  |false=>rw[ho]at h;cases h
  |true=>
   have ck:∀x∈J7 (B3 (E7 l)),x.all clean=true:=C7V (A8m _ [] rfl (D14 l hm));have gf:(I8 (J7 (B3 (E7 l)))).all okC=true:=B7s (by decide) _ λx hx=>C8P (ck x hx);have hv:=B2B gf;have hd:=B8p _ hv;have t1:=C3H (B3 (E7 l));have t2:=A8D (E7 l);have t3:=B86 (J7 (B3 (E7 l)));have t4:(E7 l).length<=l.length:=B24 l;have t5:=A3n (I8 (J7 (B3 (E7 l))));simp only[Bool.and_self,if_true];rw[A8e hv];dsimp only;refine⟨?_,?_,by omega⟩
   ·by_cases hD:J7 (B3 (E7 l))=[]
    ·rw[hD];exact congrArg Prod.snd C5w
    ·have tZ:=B7t _ hD ck;have lm:=C8z hD;rw[B0z,hd];dsimp only;rw[gf,tZ,lm];have av:B2 (I8 (J7 (B3 (E7 l))))≠[]:=λe=>by
      have hj:I8 (J7 (B3 (E7 l)))=[]:=by
       have:=C6w (I8 (J7 (B3 (E7 l))));rw[e]at this;exact Ea (by simpa using this)
      rw[hj]at tZ;have hb:=(B7r (X:=M6 (B3 (E7 l))) hD).1;have aY:B4 ((J7 (B3 (E7 l))).headD [])=false:=hb;rw[<-tZ]at aY;cases aY
     rw[At av,At (Nat.lt_irrefl _)];rfl
   ·rw[hd];dsimp only;omega
end Go.Aev.Bv
namespace Go.Aev
theorem C11{s:Aa}{a b:Nat}(h1:a<=b)(h2:b<=s.length):∃l,sub s (a:Int) (b:Int)=some l/\l.length=b - a:=by
 unfold sub;rw[Ar (by omega),Ar (by omega),Ar (by omega)];refine⟨_,rfl,?_⟩;simp only[Int.toNat_natCast,Dw,Es];omega
theorem C8W(o:Option Aa):(A5X o).1.length<=4*(o.getD []).length:=by
 cases o with
 |none=>simp[A5X]
 |some cs=>
  unfold A5X J4;simp only[Eh];split
  ·exact B0r cs
  ·simp
theorem C5z(l:Aa):(Y0 l).1.length<=4*l.length:=by
 unfold Y0;have h:=C8W (A1v l);cases hq:A1v l with
 |none=>rw[hq]at h;simpa using Dp h (by simp)
 |some cs=>
  rw[hq]at h;have:=(Bv.quotedL_valid l.length l cs (Bi _) hq).2;simp only[Eh]at h;omega
def One(s:Aa)(i M:Nat)(o:Ad):Prop:=∃(j:Nat)(k:Int)(v:Ab),o=some (.tup [.int .i64 (j:Int),.int .i64 k,.str v])/\i<=j/\j<=M/\v.length<=8400000/\(k=7->(btF v).2=true)/\(((k=0\/k=1)/\j=i)\/(2<=k/\k<=7/\i<j/\(k<6->∀y,s[i]?=some y->clI y=bif k==5 then 4 else k)))
section
variable {s:Aa}{M:Nat}
theorem oSI(t:Ab)(b:Int):okR [.str,.int .i64] (some (.tup [.str t,.int .i64 b]):Ad)=true:=rfl
theorem B3p(t:Ab)(r:Ae):lS (gL (some (.tup (.str t::r)):Ad) 0)=t:=rfl
theorem D5N(hs:Stp s M){i:Nat}(hi:i<M):One s i M (A0u s (i:Int)):=by
 have ao:=hs.sz;obtain⟨x,hx,_⟩:=hs.x;have hM:=A2i hx;have li:One s i M (some (.tup [.int .i64 (i:Int),.int .i64 1,.str []])):=⟨i,1,[],rfl,Bi _,by omega,by simp,λh=>by omega,.inl ⟨by omega,rfl⟩⟩;obtain⟨b,e,hb⟩:=B0J hs (Nat.le_of_lt hi) (c:=34) (by decide);simp only[A0u,gd,kC,kP,kO,e,oB1,gB1,Ap];refine E5 (P:=One s i M) (λhc=>?_) (λhc=>?_)
 ·have h3:=hb hc;obtain⟨j,e2,hj⟩:=D7o hs h3;simp only[e2,oI,gI,Ap];refine E5 (P:=One s i M) (λ_=>li) (λav=>?_);have dP:j≠i:=λh=>by rw[h]at av;simp at av
  obtain⟨h6,qE⟩:=hj.resolve_left dP;have w1:Bh .i64 ((i:Int)+3)=((i+3:Nat):Int):=V3 (k:=3) (by omega);have w2:Bh .i64 ((j:Int) - 3)=((j - 3:Nat):Int):=by rw[A2U (by omega) (by omega)];omega
  obtain⟨l,e3,hl⟩:=C11 (s:=s) (a:=i+3) (b:=j - 3) (by omega) (by omega);have eX:smL l=true:=by unfold smL;exact Ar (by omega)
  have e4:A2V l=some (.tup [.str (W7 l).1,.int .i64 (W7 l).2]):=by unfold A2V;rw[eX];rfl
  simp only[w1,w2,e3,e4,oSI,B3p,A52,Ap];refine E5 (P:=One s i M) (λ_=>li) (λhz=>?_);have mA:(W7 l).2=0:=by simpa using hz
  obtain⟨q1,_,q3⟩:=Bv.block_again mA;exact⟨j,7,(W7 l).1,rfl,by omega,qE,by omega,λ_=>q1,.inr ⟨by omega,by omega,by omega,λh=>by omega⟩⟩
 ·obtain⟨j,e2,hj⟩:=D67 hs hi;simp only[e2,oI,gI,Ap];refine E5 (P:=One s i M) (λ_=>li) (λav=>?_);have dP:j≠i:=λh=>by rw[h]at av;simp at av
  obtain⟨h6,qE⟩:=hj.resolve_left dP;have w1:Bh .i64 ((i:Int)+1)=((i+1:Nat):Int):=V3 (k:=1) (by omega);have w2:Bh .i64 ((j:Int) - 1)=((j - 1:Nat):Int):=by rw[A2U (by omega) (by omega)];omega
  obtain⟨l,e3,hl⟩:=C11 (s:=s) (a:=i+1) (b:=j - 1) (by omega) (by omega);have eX:D3 l=true:=by unfold D3 A2;exact Ar (by omega)
  have e4:A2g l=some (.tup [.str (Y0 l).1,.int .i64 (Y0 l).2]):=by unfold A2g;rw[eX];rfl
  simp only[w1,w2,e3,e4,oSI,B3p,A52,Ap];refine E5 (P:=One s i M) (λ_=>li) (λhz=>?_);have:=C5z l;exact⟨j,6,(Y0 l).1,rfl,by omega,qE,by omega,λh=>by omega,.inr ⟨by omega,by omega,by omega,λh=>by omega⟩⟩
theorem D5o(a b:Int)(t:Ab):okR [.int .i64,.int .i64,.str] (some (.tup [.int .i64 a,.int .i64 b,.str t]):Ad)=true:=rfl
theorem D33(l l':L6)(t:Ab)(r:Ae):lS (gL (some (.tup (l::l'::.str t::r)):Ad) 2)=t:=rfl
theorem o2i(a b:Int):okR [.int .i64,.int .i64] (some (.tup [.int .i64 a,.int .i64 b]):Ad)=true:=rfl
theorem D2x(hs:Stp s M){i:Nat}(hi:i<=M):One s i M (A3C s (i:Int)):=by
 obtain⟨y,hy,hp,hn⟩:=hs.at hi;have li:∀k:Int,(k=0\/k=1)->One s i M (some (.tup [.int .i64 (i:Int),.int .i64 k,.str []])):=λk hk=>⟨i,k,[],rfl,Bi _,hi,by simp,λh=>by omega,.inl ⟨hk,rfl⟩⟩;obtain⟨j,e1,h1,h2,h3⟩:=D4u hs hi;obtain⟨j2,k2,e2,h4,h5,h6⟩:=C7b hs hi;obtain⟨j4,e4,h8,h9⟩:=C8E hs hi;simp only[A3C,gd,kC,kP,kO,E1,hy,D8q,C6g,oB1,gB1,Ap,e1,oI,gI,e2,o2i,B6f,A52,e4];refine E5 (P:=One s i M) (λ_=>li 0 (by decide)) (λ_=>?_);refine E5 (P:=One s i M) (λhc=>?_) (λhl=>?_)
 ·refine⟨j,3,[],rfl,h1,h2,by simp,λh=>by omega,.inr ⟨by omega,by omega,h3 y hy hc,λ_ y' gY=>?_⟩⟩;rw[hy]at gY;cases gY;unfold clI;rw[hc];rfl
 have yC:(inF y A0m||y==45)=true->One s i M (some (.tup [.int .i64 (j2:Int),.int .i64 k2,.str []])):=λhd=>by
  rcases h6 with⟨h6,h7⟩|⟨h6,h7⟩
  ·exact⟨j2,k2,[],rfl,h4,h5,by simp,λh=>by omega,.inl ⟨by omega,h7⟩⟩
  ·refine⟨j2,k2,[],rfl,h4,h5,by simp,λh=>by omega,.inr ⟨by omega,by omega,h7,λ_ y' gY=>?_⟩⟩;rw[hy]at gY;cases gY;unfold clI;rw[hl,hd];rcases h6 with h6|h6<;>rw[h6]<;>rfl
 have anq:(inF y A0m||y==45)=false->One s i M (bif y==34 then(bif okR [.int .i64,.int .i64,.str] (A0u s (i:Int))then some (.tup [.int .i64 (lI (gL (A0u s (i:Int)) 0)),.int .i64 (lI (gL (A0u s (i:Int)) 1)),.str (lS (gL (A0u s (i:Int)) 2))])else none)
   else bif decide ((j4:Int)>(i:Int))then some (.tup [.int .i64 (j4:Int),.int .i64 2,.str []])else some (.tup [.int .i64 (i:Int),.int .i64 1,.str []])):=λhd=>by
  refine E5 (P:=One s i M) (λhc=>?_) (λhc=>?_)
  ·have wj:y=34:=by simpa using hc
   obtain⟨j3,k3,v3,e3,anq⟩:=D5N hs (hp (by omega));rw[e3];exact⟨j3,k3,v3,rfl,anq⟩
  ·refine E5 (P:=One s i M) (λhc=>?_) (λhc=>li 1 (by decide));have:=Av hc;refine⟨j4,2,[],rfl,h8,h9,by simp,λh=>by omega,.inr ⟨by omega,by omega,by omega,λ_ y' gY=>?_⟩⟩;rw[hy]at gY;cases gY;unfold clI;rw[hl,hd];rfl
 generalize inF y A0m=p at*;generalize (y==45)=r at*;cases p<;>cases r<;>first|exact yC rfl|exact anq rfl
end
section
variable {s:Aa}{M:Nat}
theorem oT1(t:A0):okR [.agg .tok] (some (.one (.agg .tok t)):Ad)=true:=rfl
theorem gT1(t:A0):A1T (gL (some (.one (.agg .tok t)):Ad) 0)=t:=rfl
theorem oSb(t:Ab)(b:Bool):okR [.str,.bool] (some (.tup [.str t,.bool b]):Ad)=true:=rfl
theorem C3A{c:Int}(h:128<=c){t:Ab}(ht:(t.all λb=>decide (b.toNat<128))=true):inF c t=false:=by
 unfold inF;rw[List.any_eq_false];intro b hb;have:=Av (Bm.1 ht b hb);simp;omega
theorem B77{c:Int}(h:128<=c):clI c=2:=by
 unfold clI;rw[C3A h (by decide),C3A h (by decide),show(c==45)=false by simp;omega];rfl
theorem D3W{s:Aa}{a b:Nat}(h1:a<=b)(h2:b<=s.length):∃l,sub s (a:Int) (b:Int)=some l/\l.length=b - a/\∀y q,l=y::q->s[a]?=some y:=by
 refine⟨(s.drop a).take (b - a),?_,?_,λy q h=>?_⟩
 ·unfold sub;rw[Ar (by omega:(0:Int)<=(a:Int)),Ar (by omega:(a:Int)<=(b:Int)),Ar (by omega:(b:Int)<=(s.length:Int))];rfl
 ·rw[Dw,Es];omega
 ·have h3:((s.drop a).take (b - a))[0]?=some y:=by rw[h];rfl
  rw[Et]at h3;split at h3
  ·rw[List.getElem?_drop]at h3;exact h3
  ·cases h3
theorem C9s(hs:Stp s M){ps:List A7}(fa:M<ps.length){i:Nat}(hi:i<=M):∃t:A0,F55 s ps (i:Int)=some (.one (.agg .tok t))/\A2H t/\∃j:Nat,t.to_=(j:Int)/\j<=M/\((t.kind=0\/t.kind=1)\/(2<=t.kind/\t.kind<=7/\i<j)):=by
 have ao:=hs.sz;obtain⟨x,hx,_⟩:=hs.x;have hM:=A2i hx;obtain⟨a,e1,a1,a2⟩:=D1Q hs hi;obtain⟨j,k,v,e2,b1,b2,b3,b4,b5⟩:=D2x hs a2;obtain⟨l,e3,hl,qw⟩:=D3W (s:=s) (a:=a) (b:=j) b1 (by omega);obtain⟨t,b,e4,ht,ua⟩:=D6Y (l:=l) (by omega);have hp:ps[a]?=some ps[a]:=Bl (by omega);simp only[F55,gd,kC,kP,kO,e1,oI,gI,e2,D5o,B6f,A52,D33,e3,e4,oSb,B3p,Ap,E1,hp];refine⟨_,rfl,⟨by show t.length<=_;omega,b3,b4,λhk=>?_,?_⟩,j,rfl,b2,?_⟩
 ·show cls t=0\/_
  match t,ua with
  |[],_=>exact .inl rfl
  |x::r,ua=>
   obtain⟨y,q,e,yD⟩:=ua x r rfl;rcases b5 with⟨_,h⟩|⟨h1,h2,h3,h4⟩
   ·subst h;have:l.length=0:=by omega
    rw[e]at this;cases this
   ·refine .inr ⟨h1,?_⟩;have hy:=h4 hk y (qw y q e);show clI x.toNat=_;rw[<-hy];rcases yD with h|⟨h5,h6⟩
    ·rw[h]
    ·rw[B77 h5,B77 h6]
 ·rcases b5 with⟨h,_⟩|⟨h1,h2,_⟩
  ·exact⟨by show 0<=k;omega,by show k<=7;omega⟩
  ·exact⟨by show 0<=k;omega,by show k<=7;omega⟩
 ·rcases b5 with⟨h,_⟩|⟨h1,h2,h3,_⟩
  ·exact .inl h
  ·exact .inr ⟨h1,h2,by omega⟩
theorem l24{R:Type}{P:Option R->Prop}{nn:Nat}{a0:Aa}{k1:Ah->Option R}(hs:Stp s M){ps:List A7}(fa:M<ps.length)(h1:∀ts,TW ts->P (k1 ts)):
  ∀(n i:Nat)(x7:Ah),i<=M->M<n+i->x7.length<=i->(∀t∈x7,A2H t/\2<=t.kind)->P (A5f nn a0 n s ps x7 (i:Int) k1)
 |0,i,x7,a1,a2,_,_=>by omega
 |n+1,i,x7,a1,a2,a3,a4=>by
  have ao:=hs.sz;obtain⟨t,e,ht,j,hj,qE,hk⟩:=C9s hs fa a1;have hr:A2 (x7.length+1) 72=true:=by unfold A2;exact Ar (by omega)
  unfold A5f;simp only[F24,A9L,B5k,gd,kC,kP,kO,e,oT1,gT1,hr,Ap,hj];have cj:P (k1 (x7++[t]))\/¬(t.kind=0\/t.kind=1):=by
   by_cases h:t.kind=0\/t.kind=1
   ·left
    refine h1 _ ⟨by simp,by simp;omega,λt' dF=>?_,λi' t' qF gM=>?_⟩
    ·rcases Ca.1 dF with h'|h'
     ·exact(a4 t' h').1
     ·have:t'=t:=by simpa using h'
      rw[this];exact ht
    ·have ap:=A2i qF;rcases Ej (i'+1) (x7++[t]).length with h'|h'
     ·exact h'
     ·exfalso;have:i'=x7.length:=by simp at h' ap;omega
      subst this;have:t'=t:=by simpa using qF.symm
      subst this;omega
   ·exact .inr h
  have next:¬(t.kind=0\/t.kind=1)->P (A5f nn a0 n s ps (x7++[t]) (j:Int) k1):=λh=>by
   obtain⟨q1,q2,q3⟩:=hk.resolve_left h;refine l24 hs fa h1 n j (x7++[t]) qE (by omega) (by simp;omega) λt' dF=>?_;rcases Ca.1 dF with h'|h'
   ·exact a4 t' h'
   ·have:t'=t:=by simpa using h'
    rw[this];exact⟨ht,q1⟩
  refine E5 (P:=P) (λhc=>?_) (λhc=>?_)
  ·have h0:(t.kind==0)=false:=beqF.mp hc;have yB:t.kind≠0:=by simpa using h0
   refine E5 (P:=P) (λhc=>?_) (λhc=>?_)
   ·have:t.kind=1:=by simpa using hc
    exact cj.resolve_right (λh=>h (.inr this))
   ·have:t.kind≠1:=by simpa using hc
    exact next (λh=>by omega)
  ·have h0:t.kind=0:=by
    cases h:(t.kind==0)with
    |true=>simpa using h
    |false=>rw[h]at hc;cases hc
   exact cj.resolve_right (λh=>h (.inl h0))
end
structure Sts(st:Aa)(i:Nat):Prop where
 ex:∃ns:Aj,st=ns.map (λ(n:Nat)=>(n:Int))/\ns[0]?=some 0/\ns.Pairwise (· <= ·)/\∀e∈ns,e<=i
 len:st.length<=i+1
theorem Sts.step{st:Aa}{i:Nat}(h:Sts st i):Sts st (i+1):=by
 obtain⟨ns,h1,h2,h3,h4⟩:=h.ex;exact⟨⟨ns,h1,h2,h3,λe he=>Dq (h4 e he)⟩,Dq h.len⟩
theorem Sts.push{st:Aa}{i:Nat}(h:Sts st i):Sts (st++[((i+1:Nat):Int)]) (i+1):=by
 obtain⟨ns,h1,h2,h3,h4⟩:=h.ex;refine⟨⟨ns++[i+1],by rw[h1];simp,?_,?_,λe he=>?_⟩,by simp;exact h.len⟩
 ·have:=A2i h2;rw[Dx this];exact h2
 ·rw[List.pairwise_append];exact⟨h3,by simp,λa ha b hb=>by
   have:b=i+1:=by simpa using hb
   have:=h4 a ha;omega⟩
 ·rcases Ca.1 he with h'|h'
  ·exact Dq (h4 e h')
  ·have:e=i+1:=by simpa using h'
   omega
section
variable {R:Type}{P:Option R->Prop}
theorem B4B{nn:Nat}{l:Aa}{k2:(Aa)->Int->Bool->Option R}(hs:l.length<=1048576)(h2:∀st,Sts st l.length->P (k2 st (l.length:Int) false)):∀(n i:Nat)(st:Aa),i<=l.length->l.length<n+i->Sts st i->P (A3k nn l n st (i:Int) k2)
 |0,i,st,a1,a2,_=>by omega
 |n+1,i,st,a1,a2,a3=>by
  have aj:=a3.len;have w1:Bh .i64 ((i:Int)+1)=((i+1:Nat):Int):=V3 (k:=1) (by omega);unfold A3k;by_cases hi:i<l.length
  ·have db:l[i]?=some l[i]:=Bl hi;generalize l[i]=y at*;have ap:decide ((i:Int)<(l.length:Int))=true:=Ar (by omega);have hr:A2 (st.length+1) 8=true:=by unfold A2;exact Ar (by omega)
   have keep:P (A3k nn l n st ((i+1:Nat):Int) k2):=B4B hs h2 n (i+1) st (by omega) (by omega) a3.step;have push:P (A3k nn l n (st++[((i+1:Nat):Int)]) ((i+1:Nat):Int) k2):=B4B hs h2 n (i+1) _ (by omega) (by omega) a3.push;by_cases co:i+1<l.length
   ·have je:l[i+1]?=some l[i+1]:=Bl co;generalize l[i+1]=z at*;simp only[A0W,A7s,A8s,gd,kC,kP,kO,ap,Ap,E1,db,w1,hr,je]
    repeat' (first|exact keep|exact push|refine E5 (P:=P) (λ_=>?_) (λ_=>?_))
   ·have iq:decide (((i+1:Nat):Int)<(l.length:Int))=false:=As (by omega);simp only[A0W,A7s,A8s,gd,kC,kP,kO,ap,Ap,E1,db,w1,hr,iq]
    repeat' (first|exact keep|exact push|refine E5 (P:=P) (λh=>?_) (λ_=>?_))
    all_goals exact absurd (by assumption:(false==true)=true) (by decide)
  ·have bJ:i=l.length:=by omega
   have ap:decide ((i:Int)<(l.length:Int))=false:=As (by omega);simp only[A0W,A7s,A8s,gd,kC,kP,kO,ap,Aq];subst bJ;exact h2 st a3
end
theorem D4U{l:Aa}(hs:l.length<=1048576):∃st,A0W l=some (.one (.sl .i64 st (some 1)))/\Sts st l.length:=by
 let P:Ad->Prop:=λo=>∃st,o=some (.one (.sl .i64 st (some 1)))/\Sts st l.length
 show P (A0W l);simp only[A0W,A7s,A8s,gd,kC,kP,kO];refine B4B (P:=P) hs (λst h=>⟨st,rfl,h⟩) NN 0 [0] (by omega) (by rw[NNv];omega) ⟨⟨[0],rfl,rfl,by simp,by simp⟩,by simp⟩
section
variable {R:Type}{P:Option R->Prop}
theorem B45{nn:Nat}{l st:Aa}{i e:Nat}{z:Int}{k2:(List A7)->(Aa)->Int->Int->Int->Bool->Option R}(he:e<=2000000)(hz:st[i]?=some z)(h2:∀ps:List A7,ps.length=e->P (k2 ps st (i:Int) (e:Int) (e:Int) false)):
  ∀(n j:Nat)(ps:List A7),j<=e->e<n+j->ps.length=j->P (A4H nn l n ps st (i:Int) (e:Int) (j:Int) k2)
 |0,j,ps,a1,a2,_=>by omega
 |n+1,j,ps,a1,a2,a3=>by
  unfold A4H;by_cases hj:j<e
  ·have ap:decide ((j:Int)<(e:Int))=true:=Ar (by omega);have hr:A2 (ps.length+1) 16=true:=by unfold A2;exact Ar (by omega)
   simp only[F54,A3i,A47,A5I,gd,kC,kP,kO,ap,Ap,E1,hz,hr,N7 (i:=j) (by omega)];exact B45 he hz h2 n (j+1) _ (by omega) (by omega) (by simp;omega)
  ·have nU:j=e:=by omega
   subst nU;have ap:decide ((j:Int)<(j:Int))=false:=As (by omega);simp only[F54,A3i,A47,A5I,gd,kC,kP,kO,ap,Aq];exact h2 ps a3
theorem B2o{nn:Nat}(mZ:2000000<nn){l:Aa}{ns:Aj}{k2:(List A7)->(Aa)->Int->Bool->Option R}(hs:l.length<=1048576)(hp:ns.Pairwise (· <= ·))(hm:∀e∈ns,e<=l.length)(hl:ns.length<=1048577)
  (h2:∀ps:List A7,ps.length=l.length+1->P (k2 ps (ns.map (λ(n:Nat)=>(n:Int))) (ns.length:Int) false)):
  ∀(n i:Nat)(ps:List A7),i<=ns.length->ns.length<n+i->(∀a,ns[i]?=some a->ps.length=a)->(i=ns.length->ps.length=l.length+1)->P (A6r nn l n ps (ns.map (λ(n:Nat)=>(n:Int))) (i:Int) k2)
 |0,i,ps,a1,a2,_,_=>by omega
 |n+1,i,ps,a1,a2,a3,a4=>by
  unfold A6r;have w1:Bh .i64 ((i:Int)+1)=((i+1:Nat):Int):=V3 (k:=1) (by omega);have w2:Bh .i64 ((l.length:Int)+1)=((l.length+1:Nat):Int):=V3 (k:=1) (by omega);by_cases hi:i<ns.length
  ·have ry:ns[i]?=some ns[i]:=Bl hi;have aZ:=hm ns[i] (Cu hi);have aj:=a3 _ ry;have cO:(ns.map (λ(n:Nat)=>(n:Int)))[i]?=some ((ns[i]:Nat):Int):=by rw[Cv,ry];rfl
   have ap:decide ((i:Int)<((ns.map (λ(n:Nat)=>(n:Int))).length:Int))=true:=Ar (by rw[Cg];omega);by_cases co:i+1<ns.length
   ·have qG:ns[i+1]?=some ns[i+1]:=Bl co;have dY:=hm ns[i+1] (Cu co);have ub:ns[i]<=ns[i+1]:=List.pairwise_iff_getElem.1 hp i (i+1) hi co (by omega);have uc:(ns.map (λ(n:Nat)=>(n:Int)))[i+1]?=some ((ns[i+1]:Nat):Int):=by rw[Cv,qG];rfl
    have iq:decide (((i+1:Nat):Int)<((ns.map (λ(n:Nat)=>(n:Int))).length:Int))=true:=Ar (by rw[Cg];omega);generalize ns[i]=a at*;generalize ns[i+1]=b at*;simp only[F54,A3i,A47,A5I,gd,kC,kP,kO,ap,Ap,E1,cO,uc,w1,w2,iq];refine B45 (e:=b) (by omega) cO (λqH nV=>?_) nn a ps ub (by omega) aj;simp only[w1];refine B2o mZ hs hp hm hl h2 n (i+1) qH (by omega) (by omega) (λa' nK=>?_) (λh=>by omega);rw[qG]at nK;cases nK;exact nV
   ·have iq:decide (((i+1:Nat):Int)<((ns.map (λ(n:Nat)=>(n:Int))).length:Int))=false:=As (by rw[Cg];omega);generalize ns[i]=a at*;simp only[F54,A3i,A47,A5I,gd,kC,kP,kO,ap,Ap,Aq,E1,cO,w1,w2,iq];refine B45 (e:=l.length+1) (by omega) cO (λqH nV=>?_) nn a ps (by omega) (by omega) aj;simp only[w1];refine B2o mZ hs hp hm hl h2 n (i+1) qH (by omega) (by omega) (λa' nK=>?_) (λ_=>nV);have:=A2i nK;omega
  ·have bJ:i=ns.length:=by omega
   have ap:decide ((i:Int)<((ns.map (λ(n:Nat)=>(n:Int))).length:Int))=false:=As (by rw[Cg];omega);simp only[F54,A3i,A47,A5I,gd,kC,kP,kO,ap,Aq];subst bJ;exact h2 ps (a4 rfl)
end
theorem D59(l:Aa):okR [.sl .i64 (some 1)] (some (.one (.sl .i64 l (some 1))):Ad)=true:=rfl
theorem C6C(l:Aa):B3Q (gL (some (.one (.sl .i64 l (some 1))):Ad) 0)=l:=rfl
theorem D62{l:Aa}(hs:l.length<=1048576):∃ps:List A7,F54 l=some (.one (.sl .pos ps (some 1)))/\ps.length=l.length+1:=by
 let P:Ad->Prop:=λo=>∃ps:List A7,o=some (.one (.sl .pos ps (some 1)))/\ps.length=l.length+1
 show P (F54 l);obtain⟨st,e,⟨ns,h1,h2,h3,h4⟩,aj⟩:=D4U hs;have hl:ns.length<=l.length+1:=by rw[h1,Cg]at aj;exact aj
 have h0:=A2i h2;simp only[F54,A3i,A47,A5I,gd,kC,kP,kO,e,D59,C6C,Ap];rw[h1];refine B2o (P:=P) (by rw[NNv];decide) hs h3 h4 (by omega) (λps fa=>⟨ps,rfl,fa⟩) NN 0 [] (by omega) (by rw[NNv];omega) (λa ha=>?_) (λh=>by omega);rw[h2]at ha;cases ha;rfl
theorem C2V{s:Aa}:∀(n k:Nat)(x:Int),k<=n->s[k]?=some x->x<0->∃M:Nat,M<=k/\(∃y:Int,s[M]?=some y/\y<0)/\∀j,j<M->∃y:Int,s[j]?=some y/\0<=y
 |n,k,x,hn,hk,hx=>by
  by_cases h:∃j,j<k/\∃y:Int,s[j]?=some y/\y<0
  ·obtain⟨j,h1,y,h2,h3⟩:=h
   match n,hn with
   |0,hn=>omega
   |n+1,hn=>
    obtain⟨M,a1,a2,a3⟩:=C2V n j y (by omega) h2 h3;exact⟨M,by omega,a2,a3⟩
  ·refine⟨k,Bi _,⟨x,hk,hx⟩,λj hj=>?_⟩;have hl:=A2i hk;refine⟨s[j],Bl (by omega),?_⟩;rcases Int.lt_or_le s[j] 0 with h'|h'
   ·exact absurd ⟨j,hj,_,Bl (by omega),h'⟩ h
   ·exact h'
theorem D1m(l:Aa)(n:Int):okR [.sl .i32 (some 1),.int .i64] (some (.tup [.sl .i32 l (some 1),.int .i64 n]):Ad)=true:=rfl
theorem D6k(l:Aa)(r:Ae):A6W (gL (some (.tup (.sl .i32 l (some 1)::r)):Ad) 0)=l:=rfl
theorem D1p(l:Aa):okR [.sl .i32 (some 1)] (some (.one (.sl .i32 l (some 1))):Ad)=true:=rfl
theorem D0d(l:Aa):A6W (gL (some (.one (.sl .i32 l (some 1))):Ad) 0)=l:=rfl
theorem D07(l:List A7):okR [.sl .pos (some 1)] (some (.one (.sl .pos l (some 1))):Ad)=true:=rfl
theorem D8h(l:List A7):B3w (gL (some (.one (.sl .pos l (some 1))):Ad) 0)=l:=rfl
theorem D47{a0:Aa}(hB:isB a0=true)(hl:a0.length<=1048576):∃ts,F24 a0=some (.one (.sl .tok ts (some 1)))/\TW ts:=by
 let P:Ad->Prop:=λo=>∃ts,o=some (.one (.sl .tok ts (some 1)))/\TW ts
 show P (F24 a0);have eX:smL a0=true:=by unfold smL;exact Ar (by omega)
 have yE:F52 a0=some (.tup [.sl .i32 (C5 (toB a0)).1 (some 1),.int .i64 (((C5 (toB a0)).2:Nat):Int)]):=by unfold F52;rw[hB,eX];rfl
 have aj:(C5 (toB a0)).1.length<=1048576:=by
  have:=C3s (toB a0);rw[A0j]at this;omega
 generalize (C5 (toB a0)).1=cs at*;generalize (((C5 (toB a0)).2:Nat):Int)=m at*;obtain⟨s,yF,dX,x,er,yG⟩:=D8H (l:=cs) (m==(a0.length:Int)) (by omega);obtain⟨ps,yH,fa⟩:=D62 aj;obtain⟨M,m1,m2,m3⟩:=C2V cs.length cs.length x (Bi _) er yG;have yI:Stp s M:=⟨m2,m3,by omega⟩;simp only[F24,A9L,B5k,gd,kC,kP,kO,yE,D1m,D6k,A52,yF,D1p,D0d,yH,D07,D8h,Ap];exact l24 (P:=P) yI (by omega) (λts h=>⟨ts,rfl,h⟩) NN 0 [] (by omega) (by rw[NNv];omega) (by simp) (λt ht=>by cases ht)
end Go.Aev
namespace Go.Aev
open Go.Proofs Go.ChangeShapes Go.WideShapes Go.ChangeAt Go.RowKit Go.Deep Go.Proofs.YtolabkginnkhgaaGreatDoor
def wm0(W:World)(b:Nat):Nat:=match W.heap[b]? with|some (.cells c _ _)=>c.size|_=>0
theorem D1l(W:World)(b:Nat)(h:W.heap.size<=b):wm0 W b=0:=by
 unfold wm0;rw[Fk h]
theorem B6B{W:World}{b off:Nat}{v:Value}(h:W.cell? ⟨b,off,none⟩=some v):off+1<=wm0 W b:=by
 unfold World.cell? at h;unfold wm0;dsimp only at h;split at h
 ·rename_i c t fr he;rw[he];simp at h;have:=(Array.getElem?_eq_some_iff.1 h).1;exact this
 ·cases h
theorem D3y:laidOutB Bf=true:=by kernel_rfl
theorem C7R:Tryz.prog.cellsOf 5=1:=by kernel_rfl
theorem B9i(l:Aa)(j:Nat)(lf:L6)(h:(flat U6 .u8 l)[j]?=some lf):∃n,l[j]?=some n/\lf=.int .u8 n:=by
 have h1:flat U6 .u8 l=l.map λn=>.int .u8 n:=B0s l;rw[h1,Cv]at h;obtain⟨n,hn,rfl⟩:=Option.map_eq_some_iff.1 h;exact⟨n,hn,rfl⟩
theorem C6H{W:World}{l:Aa}{b off C:Nat}{V:Nat->Int}(hl:l.length<=C)(aJ:∀c,c<C->W.cell? ⟨b,off+c,none⟩=some (.int .u8 (V c)))(hV:∀(j:Nat)(n:Int),l[j]?=some n->V j=n):
  CRep U6 W (wm0 W) (.sl .u8 l none) (.slice (some ⟨b,off,none⟩) l.length C):=by
 by_cases h0:l.length=0
 ·have:l=[]:=Ea h0;subst this;exact .nil _ _ _ _
 ·refine CRep.sl (U:=U6) (w:=W) (wm:=wm0 W) .u8 l none b off C (λj=>.int .u8 (V j)) hl ?_ (λj lf hj=>?_) (λj lf hj=>?_)
  ·have:=B6B (aJ (l.length - 1) (by omega));show off+l.length*1<=_;omega
  ·obtain⟨n,hn,rfl⟩:=B9i _ _ _ hj;have bA:=(Cj.1 hn).1;exact aJ j (by omega)
  ·obtain⟨n,hn,rfl⟩:=B9i _ _ _ hj;rw[hV j n hn];exact .int _ _
theorem D6K{W:World}{A:Option Addr}{L C:Nat}{zs:Aa}(zD:L<=C)(hz:zs.length=C)(hA:A=none->C=0)(hc:∀a',A=some a'->∀c,c<C->W.cell? (a'.add c)=some (.int .u8 (zs.getD c 0))):
  CRep U6 W (wm0 W) (.sl .u8 (zs.take L) none) (.slice A L C):=by
 by_cases hL:L=0
 ·subst hL;exact .nil _ _ _ _
 cases A with
 |none=>have:=hA rfl;omega
 |some a=>
  obtain⟨b,off,ud⟩:=a;have h0:=hc _ rfl 0 (by omega);have hs:ud=none:=by
   have:=World.cell?_spot h0;unfold Addr.add at this;simpa using this
  subst hs;have aj:(zs.take L).length=L:=by rw[Dw];omega
  have:=C6H (W:=W) (l:=zs.take L) (b:=b) (off:=off) (C:=C) (V:=λc=>zs.getD c 0) (by omega) (λc cq=>by rw[<-add_plain];exact hc _ rfl c cq) (λj n hn=>by
   rw[Et]at hn;split at hn
   ·rw[Dy,hn];rfl
   ·cases hn)
  rw[aj]at this;exact this
theorem D22{H:Type}(d:DataW H):1<=Rows.uptoBulk d:=by
 cases d with
 |lit l=>cases l<;>simp[Rows.uptoBulk]
 |nil=>simp[Rows.uptoBulk]
 |ptr d=>simp[Rows.uptoBulk]
 |slice wk spare=>simp[Rows.uptoBulk]
 |agg parts=>simp[Rows.uptoBulk]
 |iface t d=>simp[Rows.uptoBulk]
 |map rM=>simp[Rows.uptoBulk]
 |held h=>simp[Rows.uptoBulk]
theorem D2U{H:Type}{d:DataW H}{l:List (DataW H)}(h:d∈l):Rows.uptoBulk d<=Rows.uptoBulkAll l:=by
 induction l with
 |nil=>cases h
 |cons x r ih=>
  simp only[Rows.uptoBulkAll];cases Dd.1 h with
  |inl e=>subst e;omega
  |inr e=>have:=ih e;omega
theorem D5b{H:Type}(l:List (DataW H)):l.length<=Rows.uptoBulkAll l:=by
 induction l with
 |nil=>simp[Rows.uptoBulkAll]
 |cons x r ih=>have:=D22 x;simp only[Rows.uptoBulkAll,Ax];omega
theorem D8a{H:Type}{l:List (DataW H)}(hk:Rows.uptoSmall H l=true):Rows.uptoBulkAll l<=1048576:=Av hk
section
variable {H:Type}{enc:TypeId×Value->H}{W:World}
theorem D6L{a0:Option Addr}{l0 c0:Nat}{d:DataW H}{ps:List MemPlace}(h:DataW.Trod enc Bf W 0 (λ_=>true) true 22 (.slice a0 l0 c0) d ps):
  ∃l:Aa,CRep U6 W (wm0 W) (.sl .u8 l none) (.slice a0 l0 c0)/\isB l=true/\l.length<=Rows.uptoBulk d:=by
 obtain⟨fuel,hf⟩:=h;rcases open_ints Tryz.underlying22 Tryz.underlying5 C7R hf with⟨ct,hx⟩|⟨a,len,cap,zs,ct,_,hl,hm,hz,hx,aJ,yJ⟩
 ·simp[Ed]at ct;obtain⟨rfl,rfl,rfl⟩:=ct;exact⟨[],.nil _ _ _ _,rfl,Bw _⟩
 ·simp[Ed]at ct;obtain⟨rfl,rfl,rfl⟩:=ct;simp only[if_true]at hz;simp only[Prod.mk.injEq]at hx;obtain⟨rfl,rfl⟩:=hx;refine⟨zs.take l0,D6K hl hz (λe=>by cases e) (λa' ha c hc=>by cases ha;exact aJ c (by omega)),Bm.2 λn hn=>?_,?_⟩
  ·have h1:=yJ n (Ep hn);simp only[Lit.wf,Bj,decide_eq_true_eq]at h1;simp only[Bj,decide_eq_true_eq];exact h1
  have:=D5b (lits (H:=H) .u8 (zs.take l0));simp only[lits,Cg]at this;simp only[Rows.uptoBulk,lits];omega
end
theorem C5T:U8Extra Bf Tryz.lays260_ren:={n3:=by kernel_rfl,n4:=by kernel_rfl,y3:=by kernel_rfl,y4:=by kernel_rfl,c5:=by kernel_rfl,c119:=by kernel_rfl,c138:=by kernel_rfl}
theorem D5x:Rows.laid_unicode_utf8_acceptRanges=Lib.acceptData:=by kernel_rfl
theorem D4o:Rows.laid_unicode_utf8_first=Lib.firstData:=Pinned.utf8First_eq
def laidL:List (String×DataW Unit):=[("unicode/utf8.acceptRanges",Rows.laid_unicode_utf8_acceptRanges),("unicode/utf8.first",Rows.laid_unicode_utf8_first)]
theorem D7l:(laidL.filter λx=>x.2.handleName?.isSome)=[]:=by kernel_rfl
theorem D7m{W:World}(h:laidMetH Bf laidL W):laidMet Bf laidL W:=by
 unfold laidMetH at h;rw[D7l]at h;exact h
theorem D8O{W:World}(h:laidMetH Bf laidL W):Bv.IB W (wm0 W):=by
 have h1:=D7m h;have h2:=Fg h1 (n:= "unicode/utf8.acceptRanges") (d:=Rows.laid_unicode_utf8_acceptRanges) (by unfold laidL;exact Br);have h3:=Fg h1 (n:= "unicode/utf8.first") (d:=Rows.laid_unicode_utf8_first) (by unfold laidL;exact Cl _ Br);rw[D5x]at h2;rw[D4o]at h3;have h4:Lib.Utf8Tabs 1 2 W:=utf8Tabs_of_readsT (U8Types.of260 Tryz.lays260) C5T h3 h2;exact⟨h4,B6B (h4.1 255 (by decide)),B6B (h4.2 15 (by decide)).2⟩
def C2J(c:Array Value):Obj->Obj
 | .cells _ t frozen=>.cells c t frozen
 |o=>o
def B4M(W:World):World:=
 {W with heap:=(W.heap.modify 1 (C2J (Lib.firstTab.map λz=>Dj .u8 z).toArray)).modify 2 (C2J ((Db 16).flatMap λi=>[Dj .u8 (Lib.accLo i:Int),Dj .u8 (Lib.accHi i:Int)]).toArray)}
theorem D6s(os:Os)(args:Array Value):laidMet Bf laidL ((B4M (World.holding Bf os ⟨#[], #[],[]⟩)).forCall (λ_ _=>0) ⟨#[],args,[]⟩).memory:=
 laidMet_of_run' 8 (by kernel_rfl) (by kernel_rfl)
end Go.Aev
namespace Go.Aev
def A0d:Ab:=[68,79,67]
def K9:Ab:=[68,69,70]
def R7:Ab:=[68,69,70,83]
def M8:Ab:=[46,101,110,100]
def L5:Ab:=[46,115,116,114]
def A0Q:Ab:=[66,79,68,89]
def A8Q:Ab:=[39,101,120,116,101,110,100]
def A6o:Ab:=[88,66,79,68,89]
def A13:Ab:=[39,115,99,104,101,109,97]
def D7:Ab:=[68,73,82,83]
def A1a:Ab:=[82,79,79,84,83]
def A1k:Ab:=[39,115,99,97,108,97,114]
def C2:Ab:=[46,110,97,109,101]
def A1G:Ab:=[39,116,121,112,101]
def A1C:Ab:=[73,70,65,67,69,83]
def T8:Ab:=[70,73,69,76,68,83]
def A1o:Ab:=[39,105,110,116,101,114,102,97,99,101]
def A1p:Ab:=[39,117,110,105,111,110]
def A26:Ab:=[77,69,77,66,69,82,83]
def A1j:Ab:=[39,101,110,117,109]
def A2l:Ab:=[67,65,83,69,83]
def A1M:Ab:=[39,105,110,112,117,116]
def A2R:Ab:=[66,76,65,78,75,83]
def A86:Ab:=[39,100,105,114,101,99,116,105,118,101]
def R8:Ab:=[64]
def A2x:Ab:=[73,78,80,85,84,83]
def A6j:Ab:=[82,69,80,69,65,84]
def A7P:Ab:=[39,111,110]
def A39:Ab:=[66,65,82]
def A4K:Ab:=[46,112,108,97,99,101]
def A3u:Ab:=[80,76,65,67,69,83]
def A57:Ab:=[88,83,67,72,69,77,65]
def M5:Ab:=[68,73,82]
def A1h:Ab:=[88,79,66,74,69,67,84]
def A7d:Ab:=[88,85,78,73,79,78]
def A7j:Ab:=[88,69,78,85,77]
def A6w:Ab:=[88,73,78,80,85,84]
def A9c:Ab:=[82,79,79,84,83,48]
def H1:Ab:=[123]
def A3h:Ab:=[82,79,79,84]
def A4y:Ab:=[82,79,79,84,76]
def T0:Ab:=[125]
def B2g:Ab:=[46,114,111,111,116]
def Z2:Ab:=[58]
def A4o:Ab:=[73,70,65,67,69,83,49]
def A34:Ab:=[70,73,69,76,68,83,49]
def A2N:Ab:=[39,105,109,112,108,101,109,101,110,116,115]
def B0V:Ab:=[65,77,80]
def A6M:Ab:=[73,70,65,67,69,76]
def A4I:Ab:=[38]
def A3s:Ab:=[70,73,69,76,68]
def A5U:Ab:=[70,73,69,76,68,76]
def A7r:Ab:=[70,73,69,76,68,48]
def A1Q:Ab:=[84,89,80,69]
def A1t:Ab:=[40]
def A0G:Ab:=[86,65,76,85,69]
def A1y:Ab:=[86,65,76,85,69,76]
def A6Y:Ab:=[41]
def A7l:Ab:=[86,65,76,85,69,48]
def B08:Ab:=[68,69,70,65,85,76,84]
def A0l:Ab:=[61]
def Z8:Ab:=[76,73,84]
def A4e:Ab:=[77,69,77,66,69,82,83,49]
def A6s:Ab:=[77,69,77,66,69,82,76]
def A1D:Ab:=[124]
def A5j:Ab:=[67,65,83,69,83,49]
def A3Q:Ab:=[67,65,83,69]
def A5K:Ab:=[67,65,83,69,76]
def A63:Ab:=[67,65,83,69,48]
def A8y:Ab:=[46,99,97,115,101]
def A4Q:Ab:=[66,76,65,78,75,83,49]
def B2c:Ab:=[39,114,101,112,101,97,116,97,98,108,101]
def B04:Ab:=[65,82,71,83]
def A4a:Ab:=[65,82,71]
def A5e:Ab:=[65,82,71,76]
def A71:Ab:=[46,110,117,109]
def A0o:Ab:=[91]
def A31:Ab:=[76,73,84,76]
def A2q:Ab:=[93]
def A4d:Ab:=[79,66,74,76]
def A59:Ab:=[84,89,80,69,48]
def A3P:Ab:=[66,65,78,71]
def B1L:Ab:=[33]
def RU:An:=[⟨A0d,[[K9,R7,M8]]⟩,⟨R7,[[K9,R7],[]]⟩,⟨K9,[[L5,A0Q],[A0Q],[A8Q,A6o]]⟩,⟨A0Q,[[A13,D7,A1a],[A1k,C2,D7],[A1G,C2,A1C,D7,T8],[A1o,C2,A1C,D7,T8],[A1p,C2,D7,A26],[A1j,C2,D7,A2l],[A1M,C2,D7,A2R],[A86,R8,C2,A2x,A6j,A7P,A39,A4K,A3u]]⟩,⟨A6o,[[A13,A57],[A1k,C2,M5,D7],[A1G,C2,A1h],[A1o,C2,A1h],[A1p,C2,A7d],[A1j,C2,A7j],[A1M,C2,A6w]]⟩,⟨A57,[[M5,D7,A9c],[A1a]]⟩,⟨A9c,[[A1a],[]]⟩,⟨A1a,[[H1,A3h,A4y,T0]]⟩,⟨A4y,[[A3h,A4y],[]]⟩,⟨A3h,[[B2g,Z2,C2]]⟩,⟨A1h,[[A4o,D7,T8],[M5,D7,T8],[A34]]⟩,⟨A1C,[[A4o],[]]⟩,⟨A4o,[[A2N,B0V,C2,A6M]]⟩,⟨B0V,[[A4I],[]]⟩,⟨A6M,[[A4I,C2,A6M],[]]⟩,⟨T8,[[A34],[]]⟩,⟨A34,[[H1,A3s,A5U,T0]]⟩,⟨A5U,[[A3s,A5U],[]]⟩,⟨A3s,[[L5,A7r],[A7r]]⟩,⟨A7r,[[C2,A2x,Z2,A1Q,D7]]⟩,⟨A2x,[[A1t,A0G,A1y,A6Y],[]]⟩,⟨A1y,[[A0G,A1y],[]]⟩,⟨A0G,[[L5,A7l],[A7l]]⟩,⟨A7l,[[C2,Z2,A1Q,B08,D7]]⟩,⟨B08,[[A0l,Z8],[]]⟩,⟨A26,[[A4e],[]]⟩,⟨A4e,[[A0l,A39,C2,A6s]]⟩,⟨A6s,[[A1D,C2,A6s],[]]⟩,⟨A39,[[A1D],[]]⟩,⟨A7d,[[M5,D7,A26],[A4e]]⟩,⟨A2l,[[A5j],[]]⟩,⟨A5j,[[H1,A3Q,A5K,T0]]⟩,⟨A5K,[[A3Q,A5K],[]]⟩,⟨A3Q,[[L5,A63],[A63]]⟩,⟨A63,[[A8y,D7]]⟩,⟨A7j,[[M5,D7,A2l],[A5j]]⟩,⟨A2R,[[A4Q],[]]⟩,⟨A4Q,[[H1,A0G,A1y,T0]]⟩,⟨A6w,[[M5,D7,A2R],[A4Q]]⟩,⟨A6j,[[B2c],[]]⟩,⟨A3u,[[A1D,A4K,A3u],[]]⟩,⟨D7,[[M5,D7],[]]⟩,⟨M5,[[R8,C2,B04]]⟩,⟨B04,[[A1t,A4a,A5e,A6Y],[]]⟩,⟨A5e,[[A4a,A5e],[]]⟩,⟨A4a,[[C2,Z2,Z8]]⟩,⟨Z8,[[C2],[L5],[A71],[A0o,A31,A2q],[H1,A4d,T0]]⟩,⟨A31,[[Z8,A31],[]]⟩,⟨A4d,[[C2,Z2,Z8,A4d],[]]⟩,⟨A1Q,[[A59,A3P]]⟩,⟨A59,[[C2],[A0o,A1Q,A2q]]⟩,⟨A3P,[[B1L],[]]⟩]
theorem B3F:F34 (H8 (gL F35 0))=some (.one (.sl .rule RU (some 1))):=by kernel_rfl
def U1(s:Ab):Bool:=lB (gL (F73 s) 0)
def chs(s:Ab):List Ag:=A5Z (gL (V5 RU s) 0)
def A0V(s:Ab):Bool:=lB (gL (A1x RU s) 0)
def Bt(t:A0)(s:Ab):Bool:=lB (gL (F75 s t) 0)
def bg(B:Ab->Bool):Nat->Ag->Bool
 |0,_=>false
 |_+1,[]=>false
 |d+1,s::_=>bif U1 s then(chs s).any (bg B d)else B s
def A16(B:Ab->Bool)(n:Bool):List Ag->List (Ab)×Bool
 |[]=>([],n)
 |c::r=>bif bg B 9 c then(c,true)else A16 B n r
def ch(B:Ab->Bool)(X:Ab):List (Ab)×Bool:=A16 B (A0V X) (chs X)
def wfc:Nat->Ag->Bool
 |0,_=>false
 |_+1,[]=>true
 |d+1,s::_=>okR [.bool] (F73 s)&&bif U1 s then !A0V s&&(okR [.bool] (A1x RU s)&&(okR [.slc .strs] (V5 RU s)&&(Bq (chs s).length 1000&&(chs s).all (wfc d))))else(match s with|[]=>false|_=>true)
section
variable {R:Type}{t:A0}{g:An->Ag->A0->Ad}
theorem oB'(b:Bool):okR [.bool] (some (.one (.bool b)):Ad)=true:=rfl
theorem C00{nn:Nat}{a1:Ag}{x7:Int}{f:Ag->Bool}{k1:Option R}{k3:Int->List Ag->Int->Bool->Option R}{xs:List Ag}(hs:xs.length<1000)(hg:∀c∈xs,g RU c t=some (.one (.bool (f c)))):
  ∀(n j:Nat),j<=xs.length->xs.length<n+j->A7w nn g RU a1 t n x7 xs (j:Int) k1 k3=bif(xs.drop j).any f then k1 else k3 x7 xs (xs.length:Int) false
 |0,j,h1,h2=>by omega
 |n+1,j,h1,h2=>by
  unfold A7w;by_cases hj:j<xs.length
  ·have db:xs[j]?=some xs[j]:=Bl hj;have ap:decide ((j:Int)<(xs.length:Int))=true:=Ar (by omega);have e:=hg _ (Cu hj);simp only[B5d,gd,ap,Ap,E1,db,e,oB',N7 (i:=j) (by omega),C00 hs hg n (j+1) hj (by omega)];rw[Dg hj,Fe];show(bif f xs[j]then _ else _)=_;cases f xs[j]<;>rfl
  ·have nU:j=xs.length:=by omega
   subst nU;have ap:decide ((xs.length:Int)<(xs.length:Int))=false:=As (by omega);simp only[B5d,gd,ap,Aq,Df,List.any_nil]
theorem gB'(b:Bool):lB (gL (some (.one (.bool b)):Ad) 0)=b:=rfl
theorem C38(hB:∀s,s≠[]->∃b,F75 s t=some (.one (.bool b)))(k:Nat):∀(d:Nat)(c:Ag),wfc d c=true->A25 (d+k) RU c t=some (.one (.bool (bg (Bt t) d c)))
 |0,c,h=>by cases h
 |d+1,c,h=>by
  rw[show d+1+k=(d+k)+1 by omega,A25];unfold B8N B4L;have hn:NN=18446744073709551614+1+1:=rfl;rw[hn]
  match c,h with
  |[],_=>rfl
  |s::r,h=>
   simp only[wfc,Bj]at h;obtain⟨h0,h1⟩:=h;have wo:idx (s::r) 0=some s:=rfl;have hl:decide ((0:Int)<(Bg (s::r):Int))=true:=Ar (by simp only[Ax];omega);unfold A6z;simp only[C5f,gd,hl,Ap,wo,h0];cases hr:U1 s with
   |false=>
    rw[hr]at h1;obtain⟨b,e⟩:=hB s (λh=>by subst h;cases h1);have bD:lB (gL (F73 s) 0)=false:=hr;have hb:Bt t s=b:=by unfold Bt;rw[e];rfl
    simp only[bD,Bz,Ap,e,oB',gB',bg,hr,Aq,hb]
   |true=>
    rw[hr,Ap]at h1;simp only[Bj]at h1;obtain⟨h2,h3,h4,h5,h6⟩:=h1;rw[Ci]at h5;have bD:lB (gL (F73 s) 0)=true:=hr;have dw:lB (gL (A1x RU s) 0)=false:=show A0V s=false by simpa using h2
    simp only[bD,Cd,Aq,h4,Ap];have h7:∀c∈chs s,A25 (d+k) RU c t=some (.one (.bool (bg (Bt t) d c))):=λc hc=>C38 hB k d c (Bm.1 h6 c hc);have e:=C00 (R:=E6) (nn:=18446744073709551614+1+1) (a1:=s::r) (x7:=0) (k1:=some (.one (.bool true))) (k3:=λz6 z7 z8 z9=>match idx (s::r) z6 with|none=>none|some gp=>gd (okR [.bool] (A1x RU gp)) (bif !(lB (gL (A1x RU gp) 0))then some (.one (.bool false))else A6z (18446744073709551614+1+1) (A25 (d+k)) RU (s::r) t (18446744073709551614+1) (Bh .i64 (z6+1)) (λz1=>some (.one (.bool z1))) (λz2 z3=>some (.one (.bool false))))) h5 h7 (18446744073709551614+1+1) 0 (by omega) (by omega);rw[List.drop_zero]at e;refine Eq.trans e ?_;simp only[wo,gd,h3,dw,Bz,Ap,bg,hr];cases (chs s).any (bg (Bt t) d)<;>rfl
end
theorem D5u:(RU.all λr=>okR [.bool] (F73 r.name)&&(U1 r.name&&(okR [.slc .strs] (V5 RU r.name)&&(okR [.bool] (A1x RU r.name)&&(Bq (chs r.name).length 1000&&(chs r.name).all (wfc 9))))))=true:=by kernel_rfl
section
variable {R:Type}{t:A0}
theorem B9D{nn:Nat}{a w:Ab}{xs:Ag}(hs:xs.length<1000):∀(n j:Nat),j<=xs.length->xs.length<n+j->∃b,A7i nn a w n xs (j:Int) (some (.one (.bool true))) (λz1 z2 z3=>some (.one (.bool false)))=(some (.one (.bool b)):Ad)
 |0,j,h1,h2=>by omega
 |n+1,j,h1,h2=>by
  unfold A7i;by_cases hj:j<xs.length
  ·have db:xs[j]?=some xs[j]:=Bl hj;have ap:decide ((j:Int)<(xs.length:Int))=true:=Ar (by omega);simp only[B69,gd,ap,Ap,E1,db,N7 (i:=j) (by omega)];cases xs[j]==a
   ·exact B9D hs n (j+1) hj (by omega)
   ·exact⟨true,rfl⟩
  ·have nU:j=xs.length:=by omega
   subst nU;have ap:decide ((xs.length:Int)<(xs.length:Int))=false:=As (by omega);simp only[B69,gd,ap,Aq];exact⟨false,rfl⟩
theorem D8m{a w:Ab}(h:okR [.sl .str (some 1)] (F77 w)=true)(h2:(H8 (gL (F77 w) 0)).length<1000):∃b,A2G a w=some (.one (.bool b)):=by
 obtain⟨b,e⟩:=B9D (nn:=NN) (a:=a) (w:=w) h2 NN 0 (by omega) (by rw[NNv];omega);refine⟨b,?_⟩;unfold A2G B5h;rw[h];exact e
theorem D3P(a:UInt8)(r:Ab):sub (a::r) 1 (Bg (a::r):Int)=some r:=by
 unfold sub;have:decide ((0:Int)<=1)=true:=rfl;have h1:((Bg (a::r):Nat):Int)=(r.length:Int)+1:=by simp
 rw[h1];have h2:decide ((1:Int)<=(r.length:Int)+1)=true:=Ar (by omega);have h3:decide ((r.length:Int)+1<=(Bg (a::r):Int))=true:=Ar (by rw[h1];omega);simp[h2,h3]
theorem B1e(t:A0){s:Ab}(hs:s≠[]):∃b,F75 s t=some (.one (.bool b)):=by
 let P:Ad->Prop:=λo=>∃b,o=some (.one (.bool b))
 have am:∀w,okR [.sl .str (some 1)] (F77 w)=true->(H8 (gL (F77 w) 0)).length<1000->∀f:Bool->Bool,P (let r1:=A2G t.text w;gd (okR [.bool] r1) (some (.one (.bool (f (lB (gL r1 0))))))):=λw h1 h2 f=>by
  obtain⟨b,e⟩:=D8m (a:=t.text) h1 h2;show P (gd (okR [.bool] (A2G t.text w)) (some (.one (.bool (f (lB (gL (A2G t.text w) 0)))))));rw[e];exact⟨_,rfl⟩
 show P (F75 s t)
 match s,hs with
 |a::r,_=>
  have h0:idx (a::r) 0=some a:=rfl;unfold F75;simp only[h0,D3P]
  repeat' (first|exact⟨_,rfl⟩|exact am _ (by kernel_rfl) (by decide+kernel) (λb=> !b)|exact am _ (by kernel_rfl) (by decide+kernel) (λb=>b)|refine E5 (P:=P) (λ_=>?_) (λ_=>?_))
theorem l74{nn:Nat}{a1:Ab}{Q:Option R->List (Ab)×Bool->Prop}{m:Bool}{k1:Ag->Option R}{k3:List Ag->Int->Bool->Option R}{xs:List Ag}(hs:xs.length<1000)(hw:∀c∈xs,wfc 9 c=true)
  (h1:∀c,Q (k1 c) (c,true))(h3:Q (k3 xs (xs.length:Int) false) ([],m)):∀(n j:Nat),j<=xs.length->xs.length<n+j->Q (A66 nn RU a1 t n xs (j:Int) k1 k3) (A16 (Bt t) m (xs.drop j))
 |0,j,a,b=>by omega
 |n+1,j,a,b=>by
  unfold A66;by_cases hj:j<xs.length
  ·have db:xs[j]?=some xs[j]:=Bl hj;have ap:decide ((j:Int)<(xs.length:Int))=true:=Ar (by omega);have e:B37 RU xs[j] t=some (.one (.bool (bg (Bt t) 9 xs[j]))):=C38 (λs hs=>B1e t hs) 999991 9 xs[j] (hw _ (Cu hj));rw[Dg hj];simp only[B3P,gd,ap,Ap,E1,db,e,oB',gB',N7 (i:=j) (by omega),A16];cases bg (Bt t) 9 xs[j]
   ·exact l74 hs hw h1 h3 n (j+1) hj (by omega)
   ·exact h1 _
  ·have nU:j=xs.length:=by omega
   subst nU;have ap:decide ((xs.length:Int)<(xs.length:Int))=false:=As (by omega);simp only[B3P,gd,ap,Aq,Df];exact h3
theorem B55{X:Ab}(hx:(RU.any λr=>r.name==X)=true):okR [.bool] (F73 X)=true/\U1 X=true/\okR [.slc .str,.bool] (F74 RU X t)=true/\H8 (gL (F74 RU X t) 0)=(ch (Bt t) X).1/\lB (gL (F74 RU X t) 1)=(ch (Bt t) X).2:=by
 obtain⟨r,hr,e⟩:=By.1 hx;obtain rfl:r.name=X:=by simpa using e
 have h:=Bm.1 D5u r hr;simp only[Bj]at h;obtain⟨h0,h1,h2,h3,h4,h5⟩:=h;rw[Ci]at h4;refine⟨h0,h1,?_⟩;unfold F74 B5z;rw[h2];refine l74 (t:=t) (Q:=λ(o:Ad) c=>okR [.slc .str,.bool] o=true/\H8 (gL o 0)=c.1/\lB (gL o 1)=c.2) (m:=A0V r.name) h4 (Bm.1 h5) (λc=>⟨rfl,rfl,rfl⟩) ?_ NN 0 (by omega) (by rw[NNv];omega);rw[h3];exact⟨rfl,rfl,rfl⟩
end
def kt(s:Ab):Aa×Option Ab:=
 bif s==C2 then([3],none)else bif s==A8y then([3],none)else bif s==B2g then([3],none)else bif s==A4K then([3],none)else bif s==L5 then([6,7],none)else bif s==A71 then([4,5],none)else bif s==M8 then([0],none)
 else match idx s 0 with|none=>([],none)|some a=>bif(UInt8.toNat a:Int)==39 then([3],sub s 1 (Bg s:Int))else([2],some s)
theorem A3z{α β:Type}{P:α->β->Prop}{c:Bool}{a b:α}{x y:β}(h1:c=true->P a x)(h2:c=false->P b y):P (bif c then a else b) (bif c then x else y):=by
 cases c
 ·exact h2 rfl
 ·exact h1 rfl
theorem A3V{t:A0}{s:Ab}(h:Bt t s=true):t.kind∈(kt s).1/\∀x,(kt s).2=some x->t.text=x:=by
 let P:Ad->Aa×Option Ab->Prop:=λo r=>lB (gL o 0)=true->t.kind∈r.1/\∀x,r.2=some x->t.text=x
 suffices hP:P (F75 s t) (kt s)from hP h
 have k1:∀k:Int,(t.kind==k)=true->t.kind=k:=λk h=>by simpa using h
 have am:∀o:Ad,P (bif(t.kind==3)==true then o else some (.one (.bool false))) ([3],none):=λo=>by
  refine E5 (P:=λo=>P o ([3],none)) (λd=>λ_=>⟨?_,λx hx=>by cases hx⟩) (λ_ h=>by cases h);rw[k1 3 (by simpa using d)];exact Br
 have tw:∀a b:Int,P (bif(t.kind==a)==false then some (.one (.bool (t.kind==b)))else some (.one (.bool true))) ([a,b],none):=λa b=>by
  refine E5 (P:=λo=>P o ([a,b],none)) (λd=>λh=>⟨?_,λx hx=>by cases hx⟩) (λd=>λh=>⟨?_,λx hx=>by cases hx⟩)
  ·rw[k1 b h];simp
  ·rw[k1 a (by cases h:t.kind==a<;>simp_all)];simp
 unfold F75 kt;refine A3z (P:=P) (λ_ h=>⟨by rw[k1 3 h];exact Br,λx hx=>by cases hx⟩) λ_=>A3z (P:=P) (λ_=>am _) λ_=>A3z (P:=P) (λ_=>am _) λ_=>A3z (P:=P) (λ_=>am _) λ_=>
  A3z (P:=P) (λ_=>tw 6 7) λ_=>A3z (P:=P) (λ_=>tw 4 5) λ_=>A3z (P:=P) (λ_ h=>⟨by rw[k1 0 h];exact Br,λx hx=>by cases hx⟩) λ_=>?_
 match idx s 0 with
 |none=>exact λh=>by cases h
 |some a=>
  refine A3z (P:=P) (λ_=>?_) (λ_=>?_)
  ·refine E5 (P:=λo=>P o ([3],sub s 1 (Bg s:Int))) (λd=>?_) (λ_ h=>by cases h);cases hs:sub s 1 (Bg s:Int)with
   |none=>exact λh=>by cases h
   |some y=>exact λh=>⟨by rw[k1 3 (by simpa using d)];exact Br,λx hx=>by cases hx;have:(t.text==y)=true:=h;simpa using this⟩
  ·refine E5 (P:=λo=>P o ([2],some s)) (λd=>λh=>⟨by rw[k1 2 (by simpa using d)];exact Br,λx hx=>by cases hx;have:(t.text==s)=true:=h;simpa using this⟩) (λ_ h=>by cases h)
theorem A7W{t:A0}{s:Ab}{l:Aa}(h:Bt t s=true)(hl:(kt s).1=l):t.kind∈l:=hl ▸ (A3V h).1
def exS(p s:Ab):Bool:=(kt s).1.all (λk=> !(kt p).1.contains k)||(match(kt s).2,(kt p).2 with|some x,some y=> !(x==y)|_,_=>false)
theorem B0w{t:A0}{p s:Ab}(h:exS p s=true)(hs:Bt t s=true):Bt t p=false:=by
 cases hp:Bt t p with
 |false=>rfl
 |true=>
  obtain⟨a1,a2⟩:=A3V hs;obtain⟨b1,b2⟩:=A3V hp;unfold exS at h;rw[Co]at h;rcases h with h|h
  ·have:=Bm.1 h _ a1;simp[b1]at this
  ·cases h1:(kt s).2<;>cases h2:(kt p).2<;>rw[h1,h2]at h<;>try (cases h;done)
   rename_i x y;have e1:=a2 x h1;have e2:=b2 y h2;rw[<-e1, <-e2]at h;simp at h
def fs:Nat->Ag->Ag
 |0,_=>[]
 |_+1,[]=>[]
 |d+1,s::_=>bif U1 s then(chs s).flatMap (fs d)else [s]
theorem B76{B:Ab->Bool}:∀(d:Nat)(c:Ag),bg B d c=true->∃s∈fs d c,B s=true
 |0,_,h=>by cases h
 |_+1,[],h=>by cases h
 |d+1,s::r,h=>by
  simp only[bg,fs]at h ⊢;cases hr:U1 s with
  |false=>rw[hr]at h;exact⟨s,by simp,h⟩
  |true=>
   rw[hr,Ap]at h;obtain⟨c,hc,h⟩:=By.1 h;obtain⟨s',h1,h2⟩:=B76 d c h;exact⟨s',by simp only[Ap,List.mem_flatMap];exact⟨c,hc,h1⟩,h2⟩
theorem D3k{t:A0}{c:Ag}{p:Ab}(hx:(fs 9 c).all (exS p)=true)(h:bg (Bt t) 9 c=true):Bt t p=false:=by
 obtain⟨s,h1,h2⟩:=B76 9 c h;exact B0w (Bm.1 hx s h1) h2
theorem C06{B:Ab->Bool}:∀(d:Nat)(c:Ag),bg B d c=true->bg B (d+1) c=true
 |0,_,h=>by cases h
 |_+1,[],h=>by cases h
 |d+1,s::r,h=>by
  rw[bg]at h ⊢;cases hr:U1 s with
  |false=>rw[hr]at h;exact h
  |true=>
   rw[hr,Ap]at h;obtain⟨c,hc,h⟩:=By.1 h;exact By.2 ⟨c,hc,C06 d c h⟩
def br(s:Ab):Int:=lI (gL (F76 s) 0)
def okN(s:Ab):Bool:=RU.any λr=>r.name==s
def okT(s:Ab):Bool:=okR [.bool] (F73 s)&&(!U1 s&&okR [.int .i64] (F76 s))
def Ac(T:Ah)(D:Int)(st:Ag)(i:Nat)(o:Int):Prop:=∃n p,Q2 RU T D n st i o=some (0,p)
section
variable {T:Ah}{D:Int}{st:Ag}{i:Nat}{o:Int}
theorem Ac.rule{X:Ab}(h:Ac T D (X::st) i o)(hx:okN X=true):∃t,T[i]?=some t/\(ch (Bt t) X).2=true/\Ac T D ((ch (Bt t) X).1++st) i o:=by
 obtain⟨n,p,h⟩:=h
 match n with
 |0=>cases h
 |n+1=>
  unfold Q2 at h
  match ht:T[i]? with
  |none=>rw[ht]at h;cases h
  |some t=>
   obtain⟨h1,h2,h3,h4,h5⟩:=B55 (t:=t) hx;have dw:lB (gL (F73 X) 0)=true:=h2;simp only[ht,h1,dw,h3,h4,h5,Ap]at h;refine⟨t,rfl,?_⟩;cases hc:(ch (Bt t) X).2 with
   |false=>rw[hc]at h;cases h
   |true=>
    rw[hc,Ap]at h;cases hm:smN ((ch (Bt t) X).1.length+st.length)with
    |false=>rw[hm]at h;cases h
    |true=>rw[hm]at h;exact⟨rfl,n,p,h⟩
theorem Ac.term{s:Ab}(h:Ac T D (s::st) i o)(hs:okT s=true)(hn:s≠[]):∃t,T[i]?=some t/\Bt t s=true/\(br s=1->o<D)/\Ac T D st (bif Bq (i+1) T.length then i+1 else i) (Bh .i64 (o+br s)):=by
 obtain⟨n,p,h⟩:=h;simp only[okT,Bj]at hs;obtain⟨h1,h2,h3⟩:=hs;have dw:lB (gL (F73 s) 0)=false:=show U1 s=false by simpa using h2
 match n with
 |0=>cases h
 |n+1=>
  unfold Q2 at h
  match ht:T[i]? with
  |none=>rw[ht]at h;cases h
  |some t=>
   obtain⟨b,e⟩:=B1e t hn;have hb:Bt t s=b:=by unfold Bt;rw[e];rfl
   simp only[ht,h1,dw,e,oB',gB',h3,Ap,Aq]at h;refine⟨t,rfl,?_⟩;cases b with
   |false=>cases h
   |true=>
    simp only[Ap]at h;cases hc:((lI (gL (F76 s) 0)==1)&&decide (D<=o))with
    |true=>rw[hc]at h;cases h
    |false=>
     rw[hc]at h;refine⟨hb,λh1=>?_,n,p,h⟩;have lC:lI (gL (F76 s) 0)=1:=h1;rw[lC]at hc;simpa using hc
end
def rkd:Nat->Ab->Nat
 |0,_=>0
 |d+1,s=>bif U1 s then(chs s).foldl (λm c=>match c with|[]=>m|x::_=>Nat.max m (rkd d x+1)) 1 else 0
def rk(s:Ab):Nat:=rkd 12 s
def inn(s:Ab):Bool:=(okN s&& !(s==A0d))||(okT s&&((kt s).1.all (λk=>decide (2<=k))&& !s.isEmpty))
theorem C0c:(RU.all λr=>r.name==A0d||(Bq (rk r.name) 10&&(chs r.name).all λc=>c.all inn&&(Nat.ble c.length 9&&(match c with|[]=>true|s::_=>Bq (rk s) (rk r.name)))))=true:=by kernel_rfl
def V7(t:A0)(X:Ab):Bool:=bif U1 X then(chs X).any (bg (Bt t) 9)else Bt t X
def hh(t:A0):Ag->Nat
 |[]=>0
 |X::_=>bif V7 t X then 1000*rk X else 10000
theorem B0P{B:Ab->Bool}{n:Bool}:∀(l:List Ag),(∃c∈l,A16 B n l=(c,true)/\bg B 9 c=true)\/(A16 B n l=([],n)/\l.any (bg B 9)=false)
 |[]=>.inr ⟨rfl,rfl⟩
 |c::r=>by
  cases h:bg B 9 c with
  |true=>exact .inl ⟨c,Br,by simp[A16,h],h⟩
  |false=>
   rcases B0P (B:=B) (n:=n) r with⟨c',h1,h2,h3⟩|⟨h1,h2⟩
   ·exact .inl ⟨c',Cl _ h1,by simp[A16,h,h2],h3⟩
   ·exact .inr ⟨by simp[A16,h,h1],by simp only[Fe,h,h2,Bool.or_false]⟩
theorem B6p{s:Ab}(h:inn s=true):rk s<10:=by
 unfold inn at h;rw[Co]at h;rcases h with h|h
 ·rw[Bj]at h;obtain⟨r,hr,e⟩:=By.1 h.1;obtain rfl:r.name=s:=by simpa using e
  have hi:=Bm.1 C0c r hr;rw[Co]at hi;rcases hi with hi|hi
  ·rw[hi]at h;cases h.2
  ·rw[Bj,Ci]at hi;exact hi.1
 ·simp only[okT,Bj]at h;have:U1 s=false:=by simpa using h.1.2.1
  unfold rk rkd;rw[this];exact Nat.succ_pos 9
section
variable {T:Ah}{D:Int}
theorem B2a(tw:TW T):∀(n:Nat)(pre:Ag)(i:Nat)(o:Int)(t:A0),(∀s∈pre,inn s=true)->T[i]?=some t->20000*(T.length - i)+101*pre.length+hh t pre<n->20000*(T.length - i)+101*pre.length+hh t pre<=30000000000->
  ∃r,Q2 RU T D (n+3) (pre++[M8]) i o=some r
 |0,pre,i,o,t,_,_,h,_=>by omega
 |n+1,[],i,o,t,hp,ht,hn,hb=>by
  have h1:okR [.bool] (F73 M8)=true:=by kernel_rfl
  have h2:lB (gL (F73 M8) 0)=false:=by kernel_rfl
  have h3:okR [.int .i64] (F76 M8)=true:=by kernel_rfl
  have h4:(lI (gL (F76 M8) 0)==1)=false:=by kernel_rfl
  obtain⟨b,e⟩:=B1e t (s:=M8) (λh=>by cases h);show ∃r,Q2 RU T D (n+3+1) (M8::[]) i o=some r;unfold Q2;simp only[ht,h1,h2,e,oB',gB',h3,h4,Ap,Aq,Bool.false_and];cases b
  ·exact⟨_,rfl⟩
  ·exact⟨_,rfl⟩
 |n+1,X::pre,i,o,t,hp,ht,hn,hb=>by
  have hX:=hp X Br;have fe:∀s∈pre,inn s=true:=λs hs=>hp s (Cl _ hs);have jr:i<T.length:=(Cj.1 ht).1;have qI:∀t st,(∀s∈st,inn s=true)->hh t st<=10000:=λt st hs=>by
   match st,hs with
   |[],_=>exact Bw _
   |s::q,hs=>
    have hr:rk s<10:=B6p (hs s Br);show(bif V7 t s then 1000*rk s else 10000)<=10000;cases V7 t s
    ·exact Bi _
    ·show 1000*rk s<=10000;omega
  rw[Cn];show ∃r,Q2 RU T D (n+3+1) (X::(pre++[M8])) i o=some r;rw[Ax]at hn hb;unfold Q2;unfold inn at hX;rw[Co]at hX;simp only[ht];rcases hX with hX|hX
  ·rw[Bj]at hX;obtain⟨hN,hD⟩:=hX;obtain⟨h1,h2,h3,h4,h5⟩:=B55 (t:=t) hN;have dw:lB (gL (F73 X) 0)=true:=h2;simp only[h1,dw,h3,h4,h5,Ap];obtain⟨r,hr,e⟩:=By.1 hN;obtain rfl:r.name=X:=by simpa using e
   have hi:=Bm.1 C0c r hr;rw[Co]at hi;rcases hi with hi|hi
   ·rw[hi]at hD;cases hD
   rw[Bj,Ci]at hi;obtain⟨bX,co⟩:=hi;unfold ch;rcases B0P (B:=Bt t) (n:=A0V r.name) (chs r.name)with⟨c,c1,c2,c3⟩|⟨c2,c3⟩
   ·rw[c2];have hc:=Bm.1 co c c1;rw[Bj,Bj,Da]at hc;obtain⟨d1,d2,d3⟩:=hc;have ue:V7 t r.name=true:=by unfold V7;rw[show U1 r.name=true from h2];exact By.2 ⟨c,c1,c3⟩
    have yK:hh t (r.name::pre)=1000*rk r.name:=by
     show(bif V7 t r.name then 1000*rk r.name else 10000)=_;rw[ue];rfl
    match c,c3,d1,d2,d3 with
    |s::q,c3,d1,d2,d3=>
     rw[Ci]at d3;have hs:V7 t s=true:=by
      unfold V7;unfold bg at c3;cases hr:U1 s with
      |false=>rw[hr]at c3;exact c3
      |true=>
       rw[hr,Ap]at c3;rw[Ap];obtain⟨c',e1,e2⟩:=By.1 c3;exact By.2 ⟨c',e1,C06 8 c' e2⟩
     have wq:hh t ((s::q)++pre)=1000*rk s:=by
      show(bif V7 t s then 1000*rk s else 10000)=_;rw[hs];rfl
     have hl:((s::q)++pre).length<=pre.length+9:=by rw[Aw];omega
     have hm:smN ((s::q,true).1.length+(pre++[M8]).length)=true:=by
      unfold smN;rw[Da,Aw];show(s::q).length+_<=_;simp only[Ax,Ay]at d2 ⊢;omega
     rw[hm];simp only[Ap];rw[<-Be];exact B2a tw n ((s::q)++pre) i o t (λx hx=>(Ca.1 hx).elim (Bm.1 d1 x) (fe x)) ht (by rw[wq];omega) (by rw[wq];omega)
   ·rw[c2];have ue:V7 t r.name=false:=by unfold V7;rw[show U1 r.name=true from h2];exact c3
    have yK:hh t (r.name::pre)=10000:=by
     show(bif V7 t r.name then 1000*rk r.name else 10000)=_;rw[ue];rfl
    have fg:=qI t pre fe;cases A0V r.name with
    |false=>exact⟨_,rfl⟩
    |true=>
     have hm:smN (([]:Ag).length+(pre++[M8]).length)=true:=by
      unfold smN;rw[Da,Aw];simp only[Ay,Ax];omega
     simp only[hm,Ap];exact B2a tw n pre i o t fe ht (by omega) (by omega)
  ·simp only[okT,Bj]at hX;obtain⟨⟨h1,h2,h3⟩,h4,h5⟩:=hX;have dw:lB (gL (F73 X) 0)=false:=show U1 X=false by simpa using h2
   obtain⟨b,e⟩:=B1e t (s:=X) (λh=>by rw[h]at h5;cases h5);have aY:Bt t X=b:=by unfold Bt;rw[e];rfl
   simp only[h1,dw,e,oB',gB',h3,Ap,Aq];cases b with
   |false=>exact⟨_,rfl⟩
   |true=>
    simp only[Ap];cases (lI (gL (F76 X) 0)==1)&&decide (D<=o)with
    |true=>exact⟨_,rfl⟩
    |false=>
     have hk:=(A3V aY).1;have yL:2<=t.kind:=Av (Bm.1 h4 _ hk);have hl:=tw.lst i t ht yL;have ap:Bq (i+1) T.length=true:=by rw[Ci];exact hl
     simp only[ap,Ap,Aq];have fg:=qI T[i+1] pre fe;exact B2a tw n pre (i+1) _ T[i+1] fe (Bl hl) (by omega) (by omega)
theorem D3u(tw:TW T):∃k p,F33 RU A0d T D=some (.tup [.int .i64 k,.agg .pos p])/\(k=0->Ac T D [A0d] 0 0):=by
 have hl:=tw.len;have av:=tw.ne;have hs:smN T.length=true:=by unfold smN;rw[Da];omega
 have ht:T[0]?=some T[0]:=Bl av;have hN:okN A0d=true:=by kernel_rfl
 obtain⟨h1,h2,h3,h4,h5⟩:=B55 (t:=T[0]) hN;have dw:lB (gL (F73 A0d) 0)=true:=h2;have bG:∃r,Q2 RU T D NN [A0d] 0 0=some r:=by
  rw[show NN=(18446744073709551612+3)+1 from rfl];unfold Q2;simp only[ht,h1,dw,h3,h4,h5,Ap];rcases B0P (B:=Bt T[0]) (n:=A0V A0d) (chs A0d)with⟨c,c1,c2,c3⟩|⟨c2,c3⟩
  ·unfold ch;rw[c2];obtain rfl:c=[K9,R7,M8]:=by
    rw[show chs A0d=[[K9,R7,M8]]by kernel_rfl]at c1;simpa using c1
   exact B2a tw 18446744073709551612 [K9,R7] 0 0 T[0] (λs hs=>Bm.1 (show([K9,R7].all inn)=true by kernel_rfl) s hs) ht (by
    have:hh T[0] [K9,R7]<=10000:=by
     show(bif V7 T[0] K9 then 1000*rk K9 else 10000)<=10000;have:=B6p (show inn K9=true by kernel_rfl);cases V7 T[0] K9
     ·exact Bi _
     ·show 1000*rk K9<=10000;omega
    simp only[Ax,Ay];omega) (by
    have:hh T[0] [K9,R7]<=10000:=by
     show(bif V7 T[0] K9 then 1000*rk K9 else 10000)<=10000;have:=B6p (show inn K9=true by kernel_rfl);cases V7 T[0] K9
     ·exact Bi _
     ·show 1000*rk K9<=10000;omega
    simp only[Ax,Ay];omega)
  ·unfold ch;rw[c2];rw[show A0V A0d=false by kernel_rfl];exact⟨_,rfl⟩
 obtain⟨⟨k,p⟩,e⟩:=bG;refine⟨k,p,?_,λhk=>⟨NN,p,by rw[e,hk]⟩⟩;unfold F33;rw[hs,e];rfl
end
def rd(T:Ah)(i:Nat):Ao:=[[.sl .tok T none,.int .i64 (i:Int)]]
def T7(s:Ab):Bool:=okT s&&(!s.isEmpty&&((kt s).1.all (λk=>decide (2<=k))&&(decide (-1<=br s)&&decide (br s<=1))))
def Is(x s:Ab)(k:Int):Prop:=(∀t,Bt t s=bif(t.kind==k)==true then(t.text==x)else false)/\cls x=k/\2<=k/\k<=3
theorem U2{x s:Ab}{k:Int}(h:∀t,F75 s t=bif(t.kind==k)==true then some (.one (.bool (t.text==x)))else some (.one (.bool false)))(hc:(cls x==k&&(decide (2<=k)&&decide (k<=3)))=true):Is x s k:=by
 simp only[Bj,beq_iff_eq,decide_eq_true_eq]at hc;refine⟨λt=>?_,hc.1,hc.2.1,hc.2.2⟩;unfold Bt;rw[h];cases t.kind==k<;>rfl
section
variable {T:Ah}{D:Int}{st:Ag}{i:Nat}{o:Int}{t:A0}
theorem rd0(r:Ae):A4U (gC (some (r,rd T i)) 0 0)=T:=rfl
theorem rd1(r:Ae):lI (gC (some (r,rd T i)) 0 1)=(i:Int):=rfl
theorem kb(b:Bool):okB [.bool] [[.sl .tok none,.int .i64]] (some ([.bool b],rd T i))=true:=rfl
theorem kt_(x:A0):okB [.agg .tok] [[.sl .tok none,.int .i64]] (some ([.agg .tok x],rd T i))=true:=rfl
theorem kn(x:E2):okB [.agg .named] [[.sl .tok none,.int .i64]] (some ([.agg .named x],rd T i))=true:=rfl
theorem ko(x:G3):okB [.agg .note] [[.sl .tok none,.int .i64]] (some ([.agg .note x],rd T i))=true:=rfl
theorem kr(x:I4):okB [.agg .tref] [[.sl .tok none,.int .i64]] (some ([.agg .tref x],rd T i))=true:=rfl
theorem kl(x:LitT):okB [.agg .lit] [[.sl .tok none,.int .i64]] (some ([.agg .lit x],rd T i))=true:=rfl
theorem qb(b:Bool)(x:Ao):lB (gB (some ([.bool b],x)) 0)=b:=rfl
theorem qt(y:A0)(x:Ao):A1T (gB (some ([.agg .tok y],x)) 0)=y:=rfl
theorem qn(y:E2)(x:Ao):A0g (gB (some ([.agg .named y],x)) 0)=y:=rfl
theorem qo(y:G3)(x:Ao):A3d (gB (some ([.agg .note y],x)) 0)=y:=rfl
theorem qr(y:I4)(x:Ao):A6E (gB (some ([.agg .tref y],x)) 0)=y:=rfl
theorem ql(y:LitT)(x:Ao):M0 (gB (some ([.agg .lit y],x)) 0)=y:=rfl
theorem Ac.tm{s:Ab}(tw:TW T)(h:Ac T D (s::st) i o)(hs:T7 s=true)(o0:0<=o)(o1:o<=1000):∃t,T[i]?=some t/\A2H t/\Bt t s=true/\i+1<T.length/\(br s=1->o<D)/\Ac T D st (i+1) (o+br s):=by
 simp only[T7,Bj]at hs;obtain⟨h1,h2,h3,h4,h5⟩:=hs;obtain⟨t,ht,hb,hd,ha⟩:=h.term h1 (λh=>by rw[h]at h2;cases h2);have hk:=Av (Bm.1 h3 _ (A3V hb).1);have hl:=tw.lst i t ht hk;have h4:=Av h4;have h5:=Av h5;rw[show Bq (i+1) T.length=true by rw[Ci];exact hl,Ap,A2U (by omega) (by omega)]at ha;exact⟨t,ht,tw.ok t (Cs ht),hb,hl,hd,ha⟩
theorem Ac.rl{X:Ab}(tw:TW T)(h:Ac T D (X::st) i o)(hx:okN X=true):∃t,T[i]?=some t/\A2H t/\i<T.length/\(ch (Bt t) X).2=true/\Ac T D ((ch (Bt t) X).1++st) i o:=by
 obtain⟨t,ht,h1,h2⟩:=h.rule hx;exact⟨t,ht,tw.ok t (Cs ht),(Cj.1 ht).1,h1,h2⟩
theorem C5F{x s:Ab}{k:Int}(hI:Is x s k)(hk:A2H t):((t.text==x)&&((t.kind !=6)&&(t.kind !=7)))=Bt t s:=by
 obtain⟨h1,h2,h3,h4⟩:=hI;obtain⟨_,_,_,hg,h0,h7⟩:=hk;rw[h1];cases hx:t.text==x with
 |false=>cases (t.kind==k)==true<;>rfl
 |true=>
  have mn:t.text=x:=by simpa using hx
  rw[Bool.true_and];by_cases h6:t.kind<6
  ·have e:t.kind=k:=by
    rcases hg h6 with h|⟨_,h⟩
    ·rw[mn,h2]at h;omega
    ·rw[mn,h2]at h;cases h5:t.kind==5 with
     |false=>rw[h5]at h;exact h.symm
     |true=>rw[h5]at h;rw[Ap]at h;omega
   rw[e];have e6:(k !=6)=true:=by simp;omega
   have e7:(k !=7)=true:=by simp;omega
   rw[e6,e7];simp
  ·have e:(t.kind==k)=false:=by simp;omega
   rw[e];have:t.kind=6\/t.kind=7:=by omega
   rcases this with h|h<;>rw[h]<;>rfl
theorem B07{x s:Ab}{k:Int}(hI:Is x s k)(ht:T[i]?=some t)(hk:A2H t):A1H x T (i:Int)=some ([.bool (Bt t s)],rd T i):=by
 rw[<-C5F hI hk];simp only[A1H,E1,ht];cases t.text==x<;>cases t.kind !=6<;>rfl
theorem O5{x s:Ab}{k:Int}(tw:TW T)(hI:Is x s k)(ht:T[i]?=some t):F79 x T (i:Int)=some ([.bool (Bt t s)],rd T (bif Bt t s then i+1 else i)):=by
 have hl:=(Cj.1 ht).1;have hm:=tw.len;simp only[F79,gd,B07 hI ht (tw.ok t (Cs ht)),kb,rd0,rd1,qb,Ap,N7 (i:=i) (by omega)];cases Bt t s<;>rfl
theorem A27(tw:TW T)(ht:T[i]?=some t)(hl:i+1<T.length):T4 T (i:Int)=some ([.agg .tok t],rd T (i+1)):=by
 have hm:=tw.len;have ap:decide (((i+1:Nat):Int)<(T.length:Int))=true:=Ar (by omega);simp only[T4,E1,ht,N7 (i:=i) (by omega),ap,Ap];rfl
theorem C1A(tw:TW T)(ht:T[i]?=some t)(hl:i+1<T.length):F80 T (i:Int)=some ([.agg .named ⟨t.text,t.pos⟩],rd T (i+1)):=by
 simp only[F80,gd,A27 tw ht hl,kt_,rd0,rd1,qt,Ap];rfl
theorem B5B(tw:TW T)(ht:T[i]?=some t):∃n:G3,F78 T (i:Int)=some ([.agg .note n],rd T (bif Bt t L5 then i+1 else i))/\n.text.length<=8400000/\(n.block=true->(btF n.text).2=true)/\n.has=Bt t L5:=by
 have hl:=(Cj.1 ht).1;have hm:=tw.len;obtain⟨h1,h2,h3,_⟩:=tw.ok t (Cs ht);have hB:Bt t L5=lB (gL (bif(t.kind==6)==false then(some (.one (.bool (t.kind==7))))else(some (.one (.bool true)))) 0):=rfl;simp only[F78,E1,ht,N7 (i:=i) (by omega)];rw[hB];cases h6:t.kind==6 with
 |true=>
  have e:t.kind=6:=by simpa using h6
  exact⟨⟨true,t.kind==7,t.value⟩,by rw[e];rfl,h2,λh=>(by rw[e]at h;cases h),rfl⟩
 |false=>
  cases h7:t.kind==7 with
  |true=>
   have e:t.kind=7:=by simpa using h7
   exact⟨⟨true,t.kind==7,t.value⟩,by rw[e];rfl,h2,λ_=>h3 e,rfl⟩
  |false=>
   have e6:(t.kind !=6)=true:=by rw[bne,h6];rfl
   have e7:(t.kind !=7)=true:=by rw[bne,h7];rfl
   exact⟨⟨false,false,[]⟩,by rw[e6,e7];rfl,by simp,λh=>(by cases h),rfl⟩
end
section
variable {T:Ah}{D:Int}{st:Ag}{i:Nat}{o:Int}{t:A0}
theorem C9v:Is [33] B1L 2:=U2 (λt=>rfl) (by decide)
theorem B7Z:Is [91] A0o 2:=U2 (λt=>rfl) (by decide)
theorem C4H:Is [93] A2q 2:=U2 (λt=>rfl) (by decide)
theorem C5R{B:Ab->Bool}:ch B A1Q=bif bg B 9 [A59,A3P]then([A59,A3P],true)else([],false):=by kernel_rfl
theorem D5v{B:Ab->Bool}:ch B A59=bif B C2 then([C2],true)else bif B A0o then([A0o,A1Q,A2q],true)else([],false):=by kernel_rfl
theorem C8F{B:Ab->Bool}:ch B A3P=bif B B1L then([B1L],true)else([],true):=by kernel_rfl
theorem B2G{X p x:Ab}{k:Int}(tw:TW T)(hI:Is x p k)(hX:okN X=true)(hc:∀B,ch B X=bif B p then([p],true)else([],true))(hp:T7 p=true)(h0:br p=0)(h:Ac T D (X::st) i o)(o0:0<=o)(o1:o<=1000):
  ∃(b:Bool)(j:Nat),F79 x T (i:Int)=some ([.bool b],rd T j)/\Ac T D st j o/\i<=j/\j<=i+1:=by
 obtain⟨t,ht,hk,hl,h1,h2⟩:=h.rl tw hX;rw[hc]at h1 h2;refine⟨_,_,O5 tw hI ht,?_⟩;cases hb:Bt t p with
 |false=>rw[hb]at h2;exact⟨h2,Bi _,Ce _⟩
 |true=>
  rw[hb]at h2;obtain⟨t',_,_,_,_,_,h3⟩:=Ac.tm tw h2 hp o0 o1;rw[h0]at h3;exact⟨by simpa using h3,Ce _,Bi _⟩
theorem B9p(tw:TW T)(hD:D<=200):∀(d:Nat)(i:Nat)(o:Int)(st:Ag),D - o<(d:Int)->0<=o->o<=D->Ac T D (A1Q::st) i o->
  ∃r j,A4W d T (i:Int)=some ([.agg .tref r],rd T j)/\Ac T D st j o/\i<j/\r.name.length<=8400000/\(r.wrap.length:Int)<=2*(D - o)+1
 |0,i,o,st,h,h0,h1,_=>by omega
 |d+1,i,o,st,h,h0,h1,ha=>by
  obtain⟨t,ht,hk,hl,c1,c2⟩:=ha.rl tw (by kernel_rfl);rw[C5R]at c1 c2;cases hb:bg (Bt t) 9 [A59,A3P]with
  |false=>rw[hb]at c1;cases c1
  |true=>
   rw[hb]at c2;obtain⟨t,ht,hk,hl,c1,c2⟩:=Ac.rl tw c2 (by kernel_rfl);rw[D5v]at c1 c2;have cj:∀(nm w:Ab)(j:Nat),Ac T D (A3P::st) j o->(w.length:Int)<=2*(D - o)->nm.length<=8400000->i<j->
     ∃(r:I4)(j':Nat),(let dJ:=F79 [33] T (j:Int);gd (okB [.bool] [[.sl .tok none,.int .i64]] dJ) (let cF:=(A4U (gC dJ 0 0));let di:=(lI (gC dJ 0 1));bif(lB (gB dJ 0))then(gd (decide (Bg w+Bg [33]<=9223372036854775807)) (some ([.agg .tref (⟨nm,w++[33]⟩:I4)],[[.sl .tok cF none,.int .i64 di]])))else(some ([.agg .tref (⟨nm,w⟩:I4)],[[.sl .tok cF none,.int .i64 di]]))):Af)=some ([.agg .tref r],rd T j')/\Ac T D st j' o/\i<j'/\r.name.length<=8400000/\(r.wrap.length:Int)<=2*(D - o)+1:=λnm w j hA hw hn cn=>by
    obtain⟨b,j',e,a1,a2,a3⟩:=B2G tw C9v (by kernel_rfl) (λB=>C8F) (by kernel_rfl) (by kernel_rfl) hA h0 (by omega);simp only[e,gd,kb,rd0,rd1,qb,Ap];cases b with
    |true=>
     rw[Ar (by rw[Cf];omega:Bg w+Bg [33]<=9223372036854775807)];exact⟨_,j',rfl,a1,by omega,hn,by rw[Aw,Cf];omega⟩
    |false=>exact⟨_,j',rfl,a1,by omega,hn,by show(w.length:Int)<=_;omega⟩
   rw[A4W];unfold B3K;cases hn:Bt t C2 with
   |true=>
    rw[hn]at c2;obtain⟨t',dF,_,_,eb,_,c3⟩:=Ac.tm tw c2 (by kernel_rfl) h0 (by omega);rw[ht]at dF;cases dF;have nL:Bt t A0o=false:=B0w (by kernel_rfl) hn;have e1:F79 [91] T (i:Int)=some ([.bool false],rd T i):=by rw[O5 tw B7Z ht,nL];rfl
    simp only[e1,gd,kb,rd0,rd1,qb,Ap,Aq,A27 tw ht eb,kt_,qt];exact cj t.text [] (i+1) (by simpa [show br C2=0 by kernel_rfl]using c3) (by simp;omega) hk.1 (by omega)
   |false=>
    rw[hn]at c1 c2;cases nL:Bt t A0o with
    |false=>rw[nL]at c1;cases c1
    |true=>
     rw[nL]at c2;obtain⟨t',dF,_,_,eb,gD,c3⟩:=Ac.tm tw c2 (by kernel_rfl) h0 (by omega);have b1:br A0o=1:=by kernel_rfl
     have gD:=gD b1;rw[b1]at c3;have e1:F79 [91] T (i:Int)=some ([.bool true],rd T (i+1)):=by rw[O5 tw B7Z ht,nL];rfl
     obtain⟨r,j,e2,c4,c5,c6,c7⟩:=B9p tw hD d (i+1) (o+1) (A2q::A3P::st) (by omega) (by omega) (by omega) c3;obtain⟨t2,kQ,dy,dt,eU,_,c8⟩:=Ac.tm tw c4 (by kernel_rfl) (by omega) (by omega);have b2:br A2q= -1:=by kernel_rfl
     rw[b2]at c8;have e3:F79 [93] T (j:Int)=some ([.bool true],rd T (j+1)):=by rw[O5 tw C4H kQ,dt];rfl
     have hw:decide (Bg r.wrap+Bg [93]<=9223372036854775807)=true:=Ar (by rw[Cf];omega);simp only[e1,gd,kb,rd0,rd1,qb,Ap,e2,kr,qr,e3,hw];exact cj r.name (r.wrap++[93]) (j+1) (by rw[show o+1+ -1=o by omega]at c8;exact c8) (by rw[Aw,Cf];omega) c6 (by omega)
end
section
variable {T:Ah}{D:Int}{st:Ag}{i:Nat}{o:Int}{t:A0}
theorem Ac.lt{s:Ab}(h:Ac T D (s::st) i o):i<T.length:=by
 obtain⟨n,p,h⟩:=h
 match n with
 |0=>cases h
 |n+1=>
  unfold Q2 at h
  match ht:T[i]? with
  |none=>rw[ht]at h;cases h
  |some t=>exact(Cj.1 ht).1
def fx(e z:Ab):Bool:=bif okN e then !A0V e&&(chs e).all (λc=>(fs 9 c).all (exS z))else T7 e&&exS z e
theorem B4b{e z:Ab}(tw:TW T)(h:Ac T D (e::st) i o)(hf:fx e z=true)(o0:0<=o)(o1:o<=1000)(ht:T[i]?=some t):Bt t z=false:=by
 unfold fx at hf;cases hN:okN e with
 |true=>
  rw[hN,Ap,Bj]at hf;obtain⟨t',dF,_,_,c1,_⟩:=h.rl tw hN;rw[ht]at dF;cases dF;unfold ch at c1;rcases B0P (B:=Bt t) (n:=A0V e) (chs e)with⟨c,h1,_,h3⟩|⟨h1,_⟩
  ·exact D3k (Bm.1 hf.2 c h1) h3
  ·rw[h1]at c1;have c1:A0V e=true:=c1;rw[c1]at hf;cases hf.1
 |false=>
  rw[hN,Aq,Bj]at hf;obtain⟨t',dF,_,hb,_⟩:=Ac.tm tw h hf.1 o0 o1;rw[ht]at dF;cases dF;exact B0w hf.2 hb
theorem A6d{A R:Type}{Lf:Nat->A->Nat->Option R}{K:A->Nat->Option R}{Inv:A->Nat->Prop}{E:Ag}{e L z x:Ab}{k:Int}(tw:TW T)(hI:Is x z k)(hz:T7 z=true)(hN:okN L=true)
  (hL:∀B,ch B L=bif bg B 9 (e::E++[L])then(e::E++[L],true)else([],true))(hx:fx e z=true)(o0:0<=o)(o1:o<=1000)
  (eo:∀(n:Nat)(a:A)(i:Nat),F79 x T (i:Int)=some ([.bool true],rd T (i+1))->Lf (n+1) a i=K a (i+1))
  (bm:∀(n:Nat)(a:A)(i:Nat),Inv a i->i<T.length->F79 x T (i:Int)=some ([.bool false],rd T i)->Ac T D (e::E++L::z::st) i o->∃a' j,i<j/\Lf (n+1) a i=Lf n a' j/\Inv a' j/\Ac T D (L::z::st) j o):
  ∀(n:Nat)(a:A)(i:Nat),Inv a i->(Ac T D (L::z::st) i o\/Ac T D (e::E++L::z::st) i o)->T.length<n+i->∃a' j,Lf n a i=K a' (j+1)/\i<=j/\j<T.length/\Ac T D st (j+1) (o+br z)/\Inv a' j
 |0,a,i,hi,ha,hn=>by
  have:i<T.length:=ha.elim Ac.lt Ac.lt;omega
 |n+1,a,i,hi,ha,hn=>by
  have go:Ac T D (e::E++L::z::st) i o->∃a' j,Lf (n+1) a i=K a' (j+1)/\i<=j/\j<T.length/\Ac T D st (j+1) (o+br z)/\Inv a' j:=λc=>by
   have hl:i<T.length:=Ac.lt c;have ht:T[i]?=some T[i]:=Bl hl;have ef:F79 x T (i:Int)=some ([.bool false],rd T i):=by rw[O5 tw hI ht,B4b tw c hx o0 o1 ht];rfl
   obtain⟨a',j,h1,h2,h3,h4⟩:=bm n a i hi hl ef c;obtain⟨a2,j2,g1,g2,g3,g4,g5⟩:=A6d tw hI hz hN hL hx o0 o1 eo bm n a' j h3 (.inl h4) (by omega);exact⟨a2,j2,h2.trans g1,by omega,g3,g4,g5⟩
  rcases ha with ha|ha
  ·obtain⟨t,ht,hk,hl,c1,c2⟩:=ha.rl tw hN;rw[hL]at c1 c2;cases hb:bg (Bt t) 9 (e::E++[L])with
   |true=>
    rw[hb]at c2;exact go (by simpa using c2)
   |false=>
    rw[hb]at c2;obtain⟨t',dF,_,aY,eb,_,c3⟩:=Ac.tm tw c2 hz o0 o1;have ef:F79 x T (i:Int)=some ([.bool true],rd T (i+1)):=by rw[O5 tw hI dF,aY];rfl
    exact⟨a,i,eo n a i ef,Bi _,by omega,c3,hi⟩
  ·exact go ha
theorem B6O:Is [125] T0 2:=U2 (λt=>rfl) (by decide)
theorem A7M:Is [58] Z2 2:=U2 (λt=>rfl) (by decide)
theorem D48{B:Ab->Bool}:ch B Z8=bif B C2 then([C2],true)else bif B L5 then([L5],true)else bif B A71 then([A71],true)else bif B A0o then([A0o,A31,A2q],true)else bif B H1 then([H1,A4d,T0],true)else([],false):=by kernel_rfl
theorem D2P{B:Ab->Bool}:ch B A31=bif bg B 9 (Z8::[]++[A31])then(Z8::[]++[A31],true)else([],true):=by kernel_rfl
theorem D5g{B:Ab->Bool}:ch B A4d=bif bg B 9 (C2::[Z2,Z8]++[A4d])then(C2::[Z2,Z8]++[A4d],true)else([],true):=by kernel_rfl
theorem D2F(tw:TW T)(h:Ac T D (Z2::st) i o)(o0:0<=o)(o1:o<=1000):F79 [58] T (i:Int)=some ([.bool true],rd T (i+1))/\Ac T D st (i+1) o/\i+1<T.length:=by
 obtain⟨t,ht,_,hb,hl,_,c⟩:=Ac.tm tw h (by kernel_rfl) o0 o1;exact⟨by rw[O5 tw A7M ht,hb];rfl,by simpa [show br Z2=0 by kernel_rfl]using c,hl⟩
theorem B5V{d:Nat}{k:Int}{x:Ab}{b:Bool}{p:A7}(h1:1<=k)(h2:k<=9)(h3:x.length<=8400000)(h4:k=4->b=true->(btF x).2=true):O4 (d+1) (.mk k x b [] [] p)/\wt (d+1) (.mk k x b [] [] p)=1:=
 ⟨⟨h1,h2,h3,h4,λx hx=>(by cases hx),λf hf=>(by cases hf)⟩,rfl⟩
theorem B7C{d:Nat}{k:Int}{l:List LitT}{fl:List LfT}{p:A7}(h1:k=8\/k=9)(h2:∀x∈l,O4 d x)(h3:∀f∈fl,f.name.length<=8400000/\O4 d f.value):O4 (d+1) (.mk k [] false l fl p):=
 ⟨by show 1<=k;omega,by show k<=9;omega,Bw _,λ_ h=>(by cases h),h2,h3⟩
theorem A9S(tw:TW T)(hD:D<=200):∀(d:Nat)(i:Nat)(o:Int)(st:Ag),D - o<(d:Int)->0<=o->o<=D->Ac T D (Z8::st) i o->
  ∃v j,A19 d T (i:Int)=some ([.agg .lit v],rd T j)/\Ac T D st j o/\i<j/\O4 d v/\wt d v+i<=j
 |0,i,o,st,h,h0,h1,_=>by omega
 |d+1,i,o,st,h,h0,h1,ha=>by
  have kz:=tw.len;obtain⟨t,ht,hk,hl,c1,c2⟩:=ha.rl tw (by kernel_rfl);rw[D48]at c1 c2;rw[A19];unfold B7S B4o;have one:∀s,Ac T D (s::st) i o->T7 s=true->br s=0->i+1<T.length/\Ac T D st (i+1) o/\Bt t s=true:=λs hs h1 h2=>by
   obtain⟨t',dF,_,hb,eb,_,c⟩:=Ac.tm tw hs h1 h0 (by omega);rw[ht]at dF;cases dF;exact⟨eb,by simpa [h2]using c,hb⟩
  cases b1:Bt t C2 with
  |true=>
   rw[b1]at c2;obtain⟨eb,c3,_⟩:=one _ c2 (by kernel_rfl) (by kernel_rfl);have e3:t.kind=3:=by simpa using A7W (l:=[3]) b1 (by kernel_rfl)
   simp only[A27 tw ht eb,kt_,qt,rd0,rd1,gd,e3,Ap,beq_self_eq_true];have bG:∃v:LitT,P6 t=some (.one (.agg .lit v))/\O4 (d+1) v/\wt (d+1) v=1:=by
    let P:Ad->Prop:=λo=>∃v:LitT,o=some (.one (.agg .lit v))/\O4 (d+1) v/\wt (d+1) v=1
    show P (P6 t);unfold P6;dsimp only;have g:∀k x,5<=k/\k<=7->x.length<=8400000->P (some (.one (.agg .lit (LitT.mk k x false [] [] (⟨t.pos.line,t.pos.col⟩:A7))))):=λk x hk hx=>⟨_,rfl,B5V (by omega) (by omega) hx (λh=>by omega)⟩;cases t.text==[116,114,117,101]<;>cases t.text==[102,97,108,115,101]<;>cases t.text==[110,117,108,108]<;>first|exact g 5 _ (by omega) hk.1|exact g 6 [] (by omega) (by simp)|exact g 7 _ (by omega) hk.1
   obtain⟨v,ev,g1,g2⟩:=bG;rw[ev];refine⟨v,i+1,?_,c3,Bn _,g1,by omega⟩;cases v;rfl
  |false=>
  rw[b1]at c1 c2;cases b2:Bt t L5 with
  |true=>
   rw[b2]at c2;obtain⟨eb,c3,_⟩:=one _ c2 (by kernel_rfl) (by kernel_rfl);have yM:t.kind=6\/t.kind=7:=by simpa using A7W (l:=[6,7]) b2 (by kernel_rfl)
   simp only[A27 tw ht eb,kt_,qt,rd0,rd1,gd,Ap];have g:O4 (d+1) (LitT.mk 4 t.value (t.kind==7) [] [] (⟨t.pos.line,t.pos.col⟩:A7))/\wt (d+1) (LitT.mk 4 t.value (t.kind==7) [] [] (⟨t.pos.line,t.pos.col⟩:A7))=1:=B5V (by omega) (by omega) hk.2.1 (λ_ h=>hk.2.2.1 (by simpa using h));refine⟨_,i+1,?_,c3,Bn _,g.1,by rw[g.2];omega⟩;rcases yM with e|e<;>rw[e]<;>rfl
  |false=>
  rw[b2]at c1 c2;cases b3:Bt t A71 with
  |true=>
   rw[b3]at c2;obtain⟨eb,c3,_⟩:=one _ c2 (by kernel_rfl) (by kernel_rfl);have yN:t.kind=4\/t.kind=5:=by simpa using A7W (l:=[4,5]) b3 (by kernel_rfl)
   simp only[A27 tw ht eb,kt_,qt,rd0,rd1,gd,Ap];have g:∀k:Int,k=2\/k=3->O4 (d+1) (LitT.mk k t.text false [] [] (⟨t.pos.line,t.pos.col⟩:A7))/\wt (d+1) (LitT.mk k t.text false [] [] (⟨t.pos.line,t.pos.col⟩:A7))=1:=λk h=>B5V (by omega) (by omega) hk.1 (λh=>by omega);rcases yN with e|e
   ·exact⟨_,i+1,by rw[e];rfl,c3,Bn _,(g 2 (.inl rfl)).1,by rw[(g 2 (.inl rfl)).2];omega⟩
   ·exact⟨_,i+1,by rw[e];rfl,c3,Bn _,(g 3 (.inr rfl)).1,by rw[(g 3 (.inr rfl)).2];omega⟩
  |false=>
  rw[b3]at c1 c2;have jB:T.length<NN+(i+1):=by rw[NNv];omega
  cases b4:Bt t A0o with
  |true=>
   rw[b4]at c2;obtain⟨t',dF,_,_,eb,gD,c3⟩:=Ac.tm tw c2 (by kernel_rfl) h0 (by omega);rw[ht]at dF;cases dF;have gD:=gD (by kernel_rfl);rw[show br A0o=1 by kernel_rfl]at c3;have e2:t.kind=2:=by simpa using A7W (l:=[2]) b4 (by kernel_rfl)
   have ex:t.text=[91]:=(A3V b4).2 _ (by kernel_rfl);simp only[A27 tw ht eb,kt_,qt,rd0,rd1,gd,e2,ex,Ap];obtain⟨l,j,e,h2,h3,h4,h5,h6⟩:=A6d (A:=List LitT) (R:=B6) (D:=D) (o:=o+1) (st:=st) (Lf:=λn a m=>A4g NN (A19 d) T i n a t.pos.line t.pos.col T (m:Int) (λz5 z6 z7 z8 z9 dH=>some ([.agg .lit (LitT.mk 8 [] false z6 [] (⟨z7,z8⟩:A7))],[[.sl .tok z9 none,.int .i64 dH]])))
    (K:=λa j=>some ([.agg .lit (LitT.mk 8 [] false a [] (⟨t.pos.line,t.pos.col⟩:A7))],rd T j)) (Inv:=λa j=>(∀x∈a,O4 d x)/\sw (wt d) a+(i+1)<=j) tw C4H (by kernel_rfl) (by kernel_rfl) (λB=>D2P) (by kernel_rfl) (by omega) (by omega)
    (λn a i e=>by unfold A4g;simp only[B29,gd,e,kb,rd0,rd1,qb,Ap,Cd,Aq];rfl)
    (λn a i' hi hl e ha=>by
     obtain⟨v,j,ev,g1,g2,g3,g4⟩:=A9S tw hD d i' (o+1) (A31::A2q::st) (by omega) (by omega) (by omega) ha;have uf:=g1.lt;have oF:=A8V (wt d) a (λx hx=>B65 (by cases d;exact absurd (hi.1 x hx) (λh=>h);omega) x);have hr:A2 (Bg a+1) 96=true:=by unfold A2;exact Ar (by omega)
     refine⟨a++[v],j,g2,?_,⟨λx hx=>?_,?_⟩,g1⟩
     ·conv=>lhs;unfold A4g
      simp only[B29,gd,e,kb,rd0,rd1,qb,Ap,Bz,ev,kl,ql,hr]
     ·rcases Ca.1 hx with h|h
      ·exact hi.1 x h
      ·rw[Dc.1 h];exact g3
     ·rw[B14];simp only[sw];omega) NN [] (i+1) ⟨λx hx=>(by cases hx),by simp[sw]⟩ (.inl c3) jB
   refine⟨_,j+1,e,by simpa [show br A2q= -1 by kernel_rfl,show o+1+ -1=o by omega]using h4,by omega,B7C (.inl rfl) h5 (λf hf=>(by cases hf)),?_⟩;show 1+sw (wt d) l+0+i<=j+1;omega
  |false=>
  rw[b4]at c1 c2;cases b5:Bt t H1 with
  |false=>rw[b5]at c1;cases c1
  |true=>
   rw[b5]at c2;obtain⟨t',dF,_,_,eb,gD,c3⟩:=Ac.tm tw c2 (by kernel_rfl) h0 (by omega);rw[ht]at dF;cases dF;have gD:=gD (by kernel_rfl);rw[show br H1=1 by kernel_rfl]at c3;have e2:t.kind=2:=by simpa using A7W (l:=[2]) b5 (by kernel_rfl)
   have ex:t.text=[123]:=(A3V b5).2 _ (by kernel_rfl);simp only[A27 tw ht eb,kt_,qt,rd0,rd1,gd,e2,ex,Ap];obtain⟨l,j,e,h2,h3,h4,h5,h6⟩:=A6d (A:=List LfT) (R:=B6) (D:=D) (o:=o+1) (st:=st) (Lf:=λn a m=>A3Y NN (A19 d) T i n a t.pos.line t.pos.col T (m:Int) (λcF di dB dj dK fw=>some ([.agg .lit (LitT.mk 9 [] false [] di (⟨dB,dj⟩:A7))],[[.sl .tok dK none,.int .i64 fw]])))
    (K:=λa j=>some ([.agg .lit (LitT.mk 9 [] false [] a (⟨t.pos.line,t.pos.col⟩:A7))],rd T j)) (Inv:=λa j=>(∀f∈a,f.name.length<=8400000/\O4 d f.value)/\sw (λ(f:LfT)=>1+wt d f.value) a+(i+1)<=j) tw B6O (by kernel_rfl) (by kernel_rfl) (λB=>D5g) (by kernel_rfl) (by omega) (by omega)
    (λn a i e=>by unfold A3Y;simp only[B2I,gd,e,kb,rd0,rd1,qb,Ap,Cd,Aq];rfl)
    (λn a i' hi hl e ha=>by
     obtain⟨t1,yO,eY,_,iK,_,c1⟩:=Ac.tm tw ha (by kernel_rfl) (by omega) (by omega);rw[show br C2=0 by kernel_rfl,Fi]at c1;obtain⟨lj,c2,_⟩:=D2F tw c1 (by omega) (by omega);obtain⟨v,j,ev,g1,g2,g3,g4⟩:=A9S tw hD d (i'+1+1) (o+1) (A4d::T0::st) (by omega) (by omega) (by omega) c2;have uf:=g1.lt;have oF:=A8V (λ(f:LfT)=>1+wt d f.value) a (λx _=>by omega);have hr:A2 (Bg a+1) 128=true:=by unfold A2;exact Ar (by omega)
     refine⟨a++[⟨t1.text,v,t1.pos⟩],j,by omega,?_,⟨λf hf=>?_,?_⟩,g1⟩
     ·conv=>lhs;unfold A3Y
      simp only[B2I,gd,e,kb,rd0,rd1,qb,Ap,Bz,C1A tw yO iK,kn,qn,lj,ev,kl,ql,hr];cases v;rfl
     ·rcases Ca.1 hf with h|h
      ·exact hi.1 f h
      ·rw[Dc.1 h];exact⟨eY.1,g3⟩
     ·rw[B14];show sw _ a+(1+wt d v+0)+(i+1)<=j;omega) NN [] (i+1) ⟨λx hx=>(by cases hx),by simp[sw]⟩ (.inl c3) jB
   refine⟨_,j+1,e,by simpa [show br T0= -1 by kernel_rfl,show o+1+ -1=o by omega]using h4,by omega,B7C (.inr rfl) (λx hx=>(by cases hx)) h5,?_⟩;show 1+0+sw (λ(f:LfT)=>1+wt d f.value) l+i<=j+1;omega
end
def KB:Nat:=120000000
def lq(n i j:Nat):Prop:=n+KB*i<=KB*j
section
variable {a b n m w i j k:Nat}
theorem lq.comp(h:lq a i j)(h':lq b j k):lq (a+b) i k:=by unfold lq at*;omega
theorem lq.le(h:lq m i j)(h':n<=m):lq n i j:=by unfold lq at*;omega
theorem lq.nil(h:i<=j):lq 0 i j:=by
 have:=Do KB h;unfold lq;omega
theorem lq.tok(h:i<j)(hn:n<=120000000):lq n i j:=by
 have h1:=Do KB (Nat.succ_le_of_lt h);rw[Nat.mul_succ]at h1;have:KB=120000000:=rfl;unfold lq;omega
theorem lq.wt(h:w+i<=j)(hn:n<=120000000*w):lq n i j:=by
 have h1:=Do KB h;rw[Nat.mul_add]at h1;have:KB*w=120000000*w:=rfl;unfold lq;omega
end
def sl{α:Type}(p:α->Ab)(l:List α):Nat:=sw (λx=>(p x).length+2) l
def GL{α:Type}(G:α->Prop)(l:List α):Prop:=l.length<=1100000/\∀x∈l,G x
def Rg{α:Type}(G:α->Prop)(p:α->Ab)(l:List α)(i j:Nat):Prop:=(∀x∈l,G x)/\l.length+i<=j/\lq (sl p l) i j
section
variable {α:Type}{G:α->Prop}{p:α->Ab}{l:List α}{i j k:Nat}
theorem D7y(l:List α)(x:α):sl p (l++[x])=sl p l+((p x).length+2):=by
 unfold sl;rw[B14];simp[sw]
theorem D6D(p:α->Ab)(l:List α):(jn 0 (l.map p)).length<=sl p l:=A8w 0 l λx _=>Bi _
theorem C1l(p:α->Ab):∀(l:List α),(l.flatMap p).length<=sl p l
 |[]=>Bw _
 |x::l=>by
  have:=C1l p l;unfold sl at*;rw[Ck,Aw];simp only[sw];omega
theorem Rg.nil:Rg G p [] i i:=⟨λx hx=>(by cases hx),by simp,lq.nil (Bi _)⟩
theorem Rg.add{x:α}(h:Rg G p l i j)(hx:G x)(hj:j<k)(hl:lq ((p x).length+2) j k):Rg G p (l++[x]) i k:=
 ⟨λy hy=>(Ca.1 hy).elim (h.1 y) λhy=>by rw[Dc.1 hy];exact hx,by have:=h.2.1;rw[Aw,Cf];omega,by rw[D7y];exact h.2.2.comp hl⟩
theorem GL.nil:GL G []:=⟨Bw _,λx h=>(by cases h)⟩
theorem Rg.gl(h:Rg G p l i j)(hj:j<=1100000):GL G l:=⟨by have:=h.2.1;omega,h.1⟩
theorem Rg.rm{c:Nat}(h:Rg G p l i j)(hj:j<=1100000)(hc:c<=1000):A2 (l.length+1) c=true:=by
 have:=h.2.1;have h1:(l.length+1)*c<=1100001*1000:=Ei (by omega) hc;unfold A2;exact Ar (by omega)
end
def A43(a:H0):Prop:=a.name.length<=8400000/\O4 DD a.value/\wt DD a.value<=1100000
def W3(a:H0):Ab:=a.name++[58,32]++prN DD a.value
def A2Y(l:List H0):Ab:=if l=[]then []else [40]++jn 0 (l.map W3)++[41]
def X4(d:D0):Prop:=d.name.length<=8400000/\GL A43 d.args
def Z9(d:D0):Ab:=[32,64]++d.name++A2Y d.args
def J5(l:List D0):Ab:=l.flatMap Z9
section
variable {T:Ah}{D:Int}{st:Ag}{i:Nat}{o:Int}{t:A0}
theorem B2n:Is [64] R8 2:=U2 (λt=>rfl) (by decide)
theorem B7d:Is [40] A1t 2:=U2 (λt=>rfl) (by decide)
theorem B9F:Is [41] A6Y 2:=U2 (λt=>rfl) (by decide)
theorem C7u{B:Ab->Bool}:ch B D7=bif(B R8||false)then([M5,D7],true)else([],true):=by kernel_rfl
theorem D7R{B:Ab->Bool}:ch B M5=bif B R8 then(R8::[C2,B04],true)else([],false):=by kernel_rfl
theorem D6o{B:Ab->Bool}:ch B B04=bif B A1t then([A1t,A4a,A5e,A6Y],true)else([],true):=by kernel_rfl
theorem D8X{B:Ab->Bool}:ch B A5e=bif bg B 9 (A4a::[]++[A5e])then(A4a::[]++[A5e],true)else([],true):=by kernel_rfl
theorem C90{B:Ab->Bool}:ch B A4a=bif B C2 then(C2::[Z2,Z8],true)else([],false):=by kernel_rfl
theorem kd(x:List D0):okB [.sl .dir (some 1)] [[.sl .tok none,.int .i64]] (some ([.sl .dir x (some 1)],rd T i))=true:=rfl
theorem qd(y:List D0)(x:Ao):A1J (gB (some ([.sl .dir y (some 1)],x)) 0)=y:=rfl
theorem A0T{s:Ab}(tw:TW T)(h:Ac T D (s::st) i o)(hs:(T7 s&&(br s==0))=true)(h0:0<=o)(h1:o<=D)(hD:D<=200):
  ∃t,T[i]?=some t/\A2H t/\Bt t s=true/\i+1<T.length/\F80 T (i:Int)=some ([.agg .named ⟨t.text,t.pos⟩],rd T (i+1))/\Ac T D st (i+1) o:=by
 rw[Bj,beq_iff_eq]at hs;obtain⟨t,ht,hk,hb,hl,_,c⟩:=Ac.tm tw h hs.1 h0 (by omega);rw[hs.2,Fi]at c;exact⟨t,ht,hk,hb,hl,C1A tw ht hl,c⟩
theorem A4l{X s:Ab}{E:Ag}(tw:TW T)(h:Ac T D (X::st) i o)(hN:okN X=true)(hX:∀B,ch B X=bif B s then(s::E,true)else([],false))(hs:(T7 s&&(br s==0))=true)(h0:0<=o)(h1:o<=D)(hD:D<=200):
  ∃t,T[i]?=some t/\A2H t/\Bt t s=true/\i+1<T.length/\F80 T (i:Int)=some ([.agg .named ⟨t.text,t.pos⟩],rd T (i+1))/\Ac T D (E++st) (i+1) o:=by
 obtain⟨t,ht,hk,hl,c1,c2⟩:=h.rl tw hN;rw[hX]at c1 c2;cases hb:Bt t s with
 |false=>rw[hb]at c1;cases c1
 |true=>rw[hb]at c2;exact A0T tw (by simpa using c2) hs h0 h1 hD
theorem A4w{x s:Ab}{k:Int}(hI:Is x s k)(tw:TW T)(h:Ac T D (s::st) i o)(hs:(T7 s&&(br s==0))=true)(h0:0<=o)(h1:o<=D)(hD:D<=200):
  F79 x T (i:Int)=some ([.bool true],rd T (i+1))/\Ac T D st (i+1) o:=by
 obtain⟨t,ht,hk,hb,hl,_,c⟩:=A0T tw h hs h0 h1 hD;exact⟨by rw[O5 tw hI ht,hb];rfl,c⟩
theorem B7M{v:LitT}{j n:Nat}(hg:O4 DD v)(hw:wt DD v+i<=j)(hp:1<=wt DD v)(hn:n<=(prN DD v).length+1000):lq n i j:=by
 have:=A7Z DD v hg;exact lq.wt hw (by omega)
theorem wt1(v:LitT):1<=wt DD v:=B65 (by have:DD=1000000:=rfl;omega) v
theorem D2v{z:Ab}(tw:TW T)(hD:D<=200)(h:Ac T D (A4a::z::st) i o)(h0:0<=o)(h1:o<=D):∃n v j,F80 T (i:Int)=some ([.agg .named n],rd T (i+1))/\F79 [58] T ((i+1:Nat):Int)=some ([.bool true],rd T (i+1+1))/\A4h T ((i+1+1:Nat):Int)=some ([.agg .lit v],rd T j)/\
  Ac T D (z::st) j o/\i<j/\A43 ⟨n.name,v,n.pos⟩/\lq ((W3 ⟨n.name,v,n.pos⟩).length+2) i j:=by
 have kz:=tw.len;obtain⟨t,ht,hk,hb,hl,e,c2⟩:=A4l tw h (by kernel_rfl) (λB=>C90) (by kernel_rfl) h0 h1 hD;obtain⟨lj,c4⟩:=A4w A7M tw c2 (by kernel_rfl) h0 h1 hD;obtain⟨v,j,ev,g1,g2,g3,g4⟩:=A9S tw hD DD (i+1+1) o (z::st) (by have:DD=1000000:=rfl;omega) h0 h1 c4;have uf:=g1.lt;refine⟨_,v,j,e,lj,ev,g1,by omega,⟨hk.1,g3,by show wt DD v<=1100000;omega⟩,((lq.tok (n:=t.text.length+4) (by omega:i<i+1+1) (by have:=hk.1;omega)).comp (B7M g3 g4 (wt1 v) (Ek _ _))).le ?_⟩;simp only[W3,Aw,Ax,Ay];omega
theorem D2e(l:List H0):(A2Y l).length<=2+sl W3 l:=by
 have:=D6D W3 l;unfold A2Y;split
 ·simp
 ·simp only[Aw,Ax,Ay];omega
theorem D3i(tw:TW T)(hD:D<=200)(h0:0<=o)(h1:o<=D){R:Type}{b1:Int}{k2:List D0->Bool->Ah->Int->Option R}(n:Nat){ds:List D0}(iC:A2 (Bg ds+1) 56=true)(c:Ac T D (M5::st) i o):
  ∃(d:D0)(j:Nat),W4 NN T b1 (n+1) ds T (i:Int) k2=W4 NN T b1 n (ds++[d]) T (j:Int) k2/\Ac T D st j o/\i<j/\X4 d/\lq ((Z9 d).length+2) i j:=by
 have kz:=tw.len;obtain⟨t,ht,hk,hb,iK,_,c3⟩:=A4l tw c (by kernel_rfl) (λB=>D7R) (by kernel_rfl) h0 h1 hD;obtain⟨t2,kQ,dy,_,eU,iT,c4⟩:=A0T tw c3 (by kernel_rfl) h0 h1 hD;have oL:A1H [64] T (i:Int)=some ([.bool true],rd T i):=by rw[B07 B2n ht hk,hb]
 have rO:=A27 tw ht iK;obtain⟨t3,wr,zE,xT,c5,c6⟩:=Ac.rl tw c4 (by kernel_rfl);rw[D6o]at c5 c6;have len:∀al,(Z9 ⟨t2.text,al,t.pos⟩).length+2<=8400010+sl W3 al:=λal=>by
  have:=dy.1;have:=D2e al;unfold Z9;simp only[Aw,Ax,Ay];omega
 cases jb:Bt t3 A1t with
 |false=>
  rw[jb]at c6;have ug:F79 [40] T ((i+1+1:Nat):Int)=some ([.bool false],rd T (i+1+1)):=by rw[O5 tw B7d wr,jb];rfl
  refine⟨⟨t2.text,[],t.pos⟩,i+1+1,?_,c6,by omega,⟨dy.1,Bw _,λa ha=>(by cases ha)⟩,((lq.tok (by omega) (by omega:8400010<=120000000)).comp (lq.nil (i:=i+1+1) (Bi _))).le (len [])⟩
  conv=>lhs;unfold W4
  simp only[A8F,gd,oL,kb,rd0,rd1,qb,Ap,Aq,rO,kt_,qt,iT,kn,qn,ug,iC]
 |true=>
  rw[jb]at c6;have ug:F79 [40] T ((i+1+1:Nat):Int)=some ([.bool true],rd T (i+1+1+1)):=by rw[O5 tw B7d wr,jb];rfl
  obtain⟨_,_,_,_,wb,gD,c7⟩:=Ac.tm tw c6 (by kernel_rfl) h0 (by omega);have gD:=gD (by kernel_rfl);rw[show br A1t=1 by kernel_rfl]at c7;obtain⟨al,j,e,a1,a2,a3,a4⟩:=A6d (A:=List H0) (R:=R) (D:=D) (o:=o+1) (st:=st) (Lf:=λm a q=>A5T NN T b1 m ds t2.text a t.pos.line t.pos.col T (q:Int) (λdB dj dK fw gX gW fE z20=>gd (A2 (Bg dB+1) 56) (W4 NN T b1 n (dB++[(⟨dK,fw,(⟨gX,gW⟩:A7)⟩:D0)]) fE z20 k2)))
   (K:=λa q=>gd (A2 (Bg ds+1) 56) (W4 NN T b1 n (ds++[⟨t2.text,a,t.pos⟩]) T (q:Int) k2)) (Inv:=λa q=>Rg A43 W3 a (i+1+1+1) q) tw B9F (by kernel_rfl) (by kernel_rfl) (λB=>D8X) (by kernel_rfl) (by omega) (by omega)
   (λm a q e=>by unfold A5T;simp only[B47,gd,e,kb,rd0,rd1,qb,Ap,Cd,Aq])
   (λm a q hi hl e ha=>by
    obtain⟨nm,v,j,e1,e2,e3,g1,g2,g3,g4⟩:=D2v tw hD ha (by omega) (by omega);have hr:A2 (Bg a+1) 128=true:=hi.rm (by omega) (by omega);refine⟨a++[⟨nm.name,v,nm.pos⟩],j,g2,?_,hi.add g3 g2 g4,g1⟩
    conv=>lhs;unfold A5T
    simp only[B47,gd,e,kb,rd0,rd1,qb,Ap,Bz,e1,kn,qn,e2,e3,kl,ql,hr];cases v;rfl) NN [] (i+1+1+1) Rg.nil (.inr c7) (by rw[NNv];omega)
  refine⟨⟨t2.text,al,t.pos⟩,j+1,?_,by simpa [show br A6Y= -1 by kernel_rfl,show o+1+ -1=o by omega]using a3,by omega,⟨dy.1,a4.gl (by omega)⟩,((lq.tok (by omega) (by omega:8400010<=120000000)).comp (a4.2.2.comp (lq.nil (Ce j)))).le (len al)⟩
  conv=>lhs;unfold W4
  simp only[A8F,gd,oL,kb,rd0,rd1,qb,Ap,Aq,rO,kt_,qt,iT,kn,qn,ug];refine e.trans ?_;simp only[gd,iC,Ap]
theorem C2l(tw:TW T)(hD:D<=200)(h0:0<=o)(h1:o<=D){R:Type}{b1:Int}{k2:List D0->Bool->Ah->Int->Option R}{i0:Nat}:∀(n i:Nat)(ds:List D0),Rg X4 Z9 ds i0 i->(Ac T D (D7::st) i o\/Ac T D (M5::D7::st) i o)->T.length<n+i->
  ∃(fO:List D0)(j:Nat),W4 NN T b1 n ds T (i:Int) k2=k2 fO false T (j:Int)/\Ac T D st j o/\i<=j/\Rg X4 Z9 fO i0 j/\j<T.length
 |0,i,ds,_,c,hn=>by
  have:i<T.length:=c.elim Ac.lt Ac.lt;omega
 |n+1,i,ds,hi,c,hn=>by
  have kz:=tw.len;have go:Ac T D (M5::D7::st) i o->∃(fO:List D0)(j:Nat),W4 NN T b1 (n+1) ds T (i:Int) k2=k2 fO false T (j:Int)/\Ac T D st j o/\i<=j/\Rg X4 Z9 fO i0 j/\j<T.length:=λc=>by
   have hl:=c.lt;obtain⟨d,j,e,c1,h2,h3,h4⟩:=D3i tw hD h0 h1 (b1:=b1) (k2:=k2) n (hi.rm (by omega) (by omega)) c;obtain⟨fO,j',e',c',dw,jd,nk⟩:=C2l tw hD h0 h1 (b1:=b1) (k2:=k2) (i0:=i0) n j (ds++[d]) (hi.add h3 h2 h4) (.inl c1) (by omega);exact⟨fO,j',e.trans e',c',by omega,jd,nk⟩
  rcases c with c|c
  ·obtain⟨t,ht,hk,hl,c1,c2⟩:=c.rl tw (by kernel_rfl);rw[C7u]at c1 c2;cases hb:Bt t R8 with
   |true=>rw[hb]at c2;exact go (by simpa using c2)
   |false=>
    rw[hb]at c2;have oL:A1H [64] T (i:Int)=some ([.bool false],rd T i):=by rw[B07 B2n ht hk,hb]
    refine⟨ds,i,?_,c2,Bi _,hi,hl⟩;unfold W4;simp only[A8F,gd,oL,kb,rd0,rd1,qb,Ap,Aq]
  ·exact go c
theorem A55(tw:TW T)(hD:D<=200)(h0:0<=o)(h1:o<=D)(c:Ac T D (D7::st) i o\/Ac T D (M5::D7::st) i o):
  ∃(ds:List D0)(j:Nat),F84 T (i:Int)=some ([.sl .dir ds (some 1)],rd T j)/\Ac T D st j o/\i<=j/\GL X4 ds/\lq (J5 ds).length i j:=by
 have kz:=tw.len;obtain⟨ds,j,e,c1,h2,h3,h4⟩:=C2l tw hD h0 h1 (R:=B6) (b1:=(i:Int)) (k2:=λz1 z2 z3 z4=>some ([.sl .dir z1 (some 1)],[[.sl .tok z3 none,.int .i64 z4]])) (i0:=i) NN i [] Rg.nil c (by rw[NNv];have:=c.elim Ac.lt Ac.lt;omega);exact⟨ds,j,e,c1,h2,h3.gl (by omega),h3.2.2.le (C1l _ _)⟩
end
def P2(n:G3):Prop:=n.text.length<=8400000/\(n.block=true->(btF n.text).2=true)
def I1(n:G3)(g:Ab):Ab:=bif n.has then qq n.block n.text++g else []
def GTy(r:I4):Prop:=r.name.length<=8400000/\r.wrap.length<=1000
def GIv(v:IvT):Prop:=P2 v.note/\v.name.length<=8400000/\GTy v.type_/\(v.hasDefault=true->O4 DD v.dflt/\wt DD v.dflt<=1100000)/\GL X4 v.dirs
def A2P(v:IvT):Ab:=bif v.hasDefault then [32,61,32]++prN DD v.dflt else []
def X7(v:IvT):Ab:=v.name++[58,32]++prT v.type_++A2P v++J5 v.dirs
def A0b(v:IvT):Ab:=I1 v.note [32]++X7 v
def N8(v:IvT):Ab:=[32,32]++I1 v.note [10,32,32]++X7 v
def GNm(n:E2):Prop:=n.name.length<=8400000
def S3(n:E2):Ab:=[32]++n.name
section
variable {T:Ah}{D:Int}{st:Ag}{i:Nat}{o:Int}{t:A0}
theorem B1t:Is [61] A0l 2:=U2 (λt=>rfl) (by decide)
theorem B7x{n:G3}{g:Ab}(hn:P2 n)(hg:g.length<=100):(I1 n g).length<=120000000:=by
 have:=C1Q n.block hn.1;unfold I1;cases n.has
 ·simp
 ·rw[Ap,Aw];omega
theorem B3u{X Y:Ab}{C:(Ab->Bool)->Bool}(tw:TW T)(h:Ac T D (X::st) i o)(hN:okN X=true)(hX:∀B,ch B X=bif B L5 then([L5,Y],true)else bif C B then([Y],true)else([],false))(h0:0<=o)(h1:o<=D)(hD:D<=200):
  ∃n j,F78 T (i:Int)=some ([.agg .note n],rd T j)/\Ac T D (Y::st) j o/\i<=j/\P2 n/\∀g:Ab,g.length<=100->lq (I1 n g).length i j:=by
 obtain⟨t,ht,hk,hl,c1,c2⟩:=h.rl tw hN;rw[hX]at c1 c2;obtain⟨n,e,g1,g2,g3⟩:=B5B tw ht;cases hb:Bt t L5 with
 |true=>
  rw[hb]at c2 e;obtain⟨_,_,_,_,_,_,c3⟩:=A0T tw c2 (by kernel_rfl) h0 h1 hD;exact⟨n,i+1,e,c3,by omega,⟨g1,g2⟩,λg hg=>lq.tok (by omega) (B7x ⟨g1,g2⟩ hg)⟩
 |false=>
  rw[hb]at c1 c2 e g3;cases hc:C (Bt t)with
  |false=>rw[hc]at c1;cases c1
  |true=>
   rw[hc]at c2;exact⟨n,i,e,c2,Bi _,⟨g1,g2⟩,λg _=>by unfold I1;rw[g3];exact lq.nil (Bi _)⟩
theorem C0U(tw:TW T)(hD:D<=200)(h0:0<=o)(h1:o<=D)(h:Ac T D (A1Q::st) i o):∃r j,B1F T (i:Int)=some ([.agg .tref r],rd T j)/\Ac T D st j o/\i<j/\GTy r:=by
 obtain⟨r,j,e,c,h1,h2,h3⟩:=B9p tw hD DD i o st (by have:DD=1000000:=rfl;omega) h0 h1 h;exact⟨r,j,e,c,h1,h2,by omega⟩
theorem GTy.len{r:I4}(h:GTy r):(prT r).length<=8500000:=by
 have:=C79 r;have:=h.1;have:=h.2;omega
theorem D13{B:Ab->Bool}:ch B A0G=bif B L5 then([L5,A7l],true)else bif(λ(B:Ab->Bool)=>B C2||false) B then([A7l],true)else([],false):=by kernel_rfl
theorem D3m{B:Ab->Bool}:ch B A7l=bif B C2 then(C2::[Z2,A1Q,B08,D7],true)else([],false):=by kernel_rfl
theorem C74{B:Ab->Bool}:ch B B08=bif B A0l then([A0l,Z8],true)else([],true):=by kernel_rfl
theorem D7A{B:Ab->Bool}:ch B A1y=bif bg B 9 (A0G::[]++[A1y])then(A0G::[]++[A1y],true)else([],true):=by kernel_rfl
theorem C5K(tw:TW T)(hD:D<=200)(h0:0<=o)(h1:o<=D){R:Type}{a z:Ab}{b1:Int}{k2:List IvT->Bool->Ah->Int->Option R}(n:Nat){vs:List IvT}(hr:A2 (Bg vs+1) 216=true)(ef:F79 z T (i:Int)=some ([.bool false],rd T i))(c:Ac T D (A0G::st) i o):
  ∃(v:IvT)(j:Nat),A1r NN a z T b1 (n+1) vs T (i:Int) k2=A1r NN a z T b1 n (vs++[v]) T (j:Int) k2/\Ac T D st j o/\i<j/\GIv v/\lq ((N8 v).length+2) i j:=by
 have kz:=tw.len;obtain⟨nt,i1,en,c1,bX,gn,ln⟩:=B3u tw c (by kernel_rfl) (λB=>D13) h0 h1 hD;obtain⟨t,ht,hk,hb,hl,iT,c2⟩:=A4l tw c1 (by kernel_rfl) (λB=>D3m) (by kernel_rfl) h0 h1 hD;obtain⟨lj,c3⟩:=A4w A7M tw c2 (by kernel_rfl) h0 h1 hD;obtain⟨r,j1,et,c4,pJ,gt⟩:=C0U tw hD h0 h1 c3;obtain⟨t2,kQ,dy,eU,c5,c6⟩:=Ac.rl tw c4 (by kernel_rfl);rw[C74]at c5 c6;have lt:=gt.len;have ln:=ln [10,32,32] (by decide);have lb:lq (t.text.length+(prT r).length+12) i1 j1:=lq.tok (by omega) (by have:=hk.1;omega);have len:∀v:IvT,v.note=nt->v.name=t.text->v.type_=r->(N8 v).length+2<=(I1 nt [10,32,32]).length+((t.text.length+(prT r).length+12)+((A2P v).length - 3+(J5 v.dirs).length)):=λv h1 h2 h3=>by
  unfold N8 X7;rw[h1,h2,h3];simp only[Aw,Ax,Ay];omega
 cases he:Bt t2 A0l with
 |false=>
  rw[he]at c6;have uh:F79 [61] T (j1:Int)=some ([.bool false],rd T j1):=by rw[O5 tw B1t kQ,he];rfl
  obtain⟨ds,j,ed,c7,hj,qJ,ld⟩:=A55 tw hD h0 h1 (.inl c6);refine⟨⟨nt,t.text,r,false,.mk 0 [] false [] [] ⟨0,0⟩,ds,t.pos⟩,j,?_,c7,by omega,⟨gn,hk.1,gt,λh=>(by cases h),qJ⟩,(ln.comp (lb.comp ld)).le ?_⟩
  ·conv=>lhs;unfold A1r
   simp only[A9T,gd,ef,kb,rd0,rd1,qb,Ap,Aq,Bz,en,ko,qo,iT,kn,qn,lj,et,kr,qr,uh,ed,kd,qd,hr]
  ·refine Dp (len _ rfl rfl rfl) ?_;show _+(_+(0 - 3+(J5 ds).length))<=_;omega
 |true=>
  rw[he]at c6;obtain⟨uh,c7⟩:=A4w B1t tw c6 (by kernel_rfl) h0 h1 hD;obtain⟨v,j2,ev,c8,nH,g3,g4⟩:=A9S tw hD DD (j1+1) o (D7::st) (by have:DD=1000000:=rfl;omega) h0 h1 c7;obtain⟨ds,j,ed,c9,hj,qJ,ld⟩:=A55 tw hD h0 h1 (.inl c8);have uf:=c8.lt;have ev:A4h T ((j1+1:Nat):Int)=some ([.agg .lit v],rd T j2):=ev;refine⟨⟨nt,t.text,r,true,v,ds,t.pos⟩,j,?_,c9,by omega,⟨gn,hk.1,gt,λ_=>⟨g3,by show wt DD v<=_;omega⟩,qJ⟩,(ln.comp (lb.comp ((lq.nil (Ce j1)).comp ((B7M (n:=(prN DD v).length) g3 g4 (wt1 v) (Ek _ _)).comp ld)))).le ?_⟩
  ·conv=>lhs;unfold A1r
   simp only[A9T,gd,ef,kb,rd0,rd1,qb,Ap,Aq,Bz,en,ko,qo,iT,kn,qn,lj,et,kr,qr,uh,ev,kl,ql,ed,kd,qd,hr];cases v;rfl
  ·refine Dp (len _ rfl rfl rfl) ?_;have:(A2P ⟨nt,t.text,r,true,v,ds,t.pos⟩).length=3+(prN DD v).length:=by show([32,61,32]++prN DD v:Ab).length=_;simp;omega
   rw[this];show _+(_+(3+(prN DD v).length - 3+(J5 ds).length))<=_;omega
theorem ki(x:List IvT):okB [.sl .iv (some 1)] [[.sl .tok none,.int .i64]] (some ([.sl .iv x (some 1)],rd T i))=true:=rfl
theorem qi(y:List IvT)(x:Ao):A7S (gB (some ([.sl .iv y (some 1)],x)) 0)=y:=rfl
def Bkt(T:Ah)(D:Int)(a:Ab)(E st:Ag)(i:Nat)(o:Int):Prop:=∃t,T[i]?=some t/\((Bt t a=true/\Ac T D (a::E++st) i o)\/(Bt t a=false/\Ac T D st i o))
theorem C39{x y a z:Ab}{k k':Int}(tw:TW T)(hD:D<=200)(h0:0<=o)(h1:o<=D)(ws:Is x a k)(yP:Is y z k')(ha:(T7 a&&(br a==1))=true)(hz:(T7 z&&(br z== -1))=true)(hx:fx A0G z=true)(h:Bkt T D a [A0G,A1y,z] st i o):
  ∃l,∃j:Nat,F82 x y T (i:Int)=some ([.sl .iv l (some 1)],rd T j)/\Ac T D st j o/\i<=j/\GL GIv l/\lq (sl N8 l+(if l=[]then 0 else 10)) i j:=by
 have kz:=tw.len;rw[Bj,beq_iff_eq]at ha hz;obtain⟨t,ht,⟨hb,c⟩|⟨hb,c⟩⟩:=h
 ·obtain⟨_,_,_,_,hl,gD,c1⟩:=Ac.tm tw c ha.1 h0 (by omega);have gD:=gD ha.2;rw[ha.2]at c1;have e1:F79 x T (i:Int)=some ([.bool true],rd T (i+1)):=by rw[O5 tw ws ht,hb];rfl
  obtain⟨l,j,e,a1,a2,a3,a4⟩:=A6d (A:=List IvT) (R:=B6) (D:=D) (o:=o+1) (st:=st) (Lf:=λm a q=>A1r NN x y T (i:Int) m a T (q:Int) (λz4 z5 z6 z7=>some ([.sl .iv z4 (some 1)],[[.sl .tok z6 none,.int .i64 z7]])))
   (K:=λa q=>some ([.sl .iv a (some 1)],rd T q)) (Inv:=λa q=>Rg GIv N8 a (i+1) q) tw yP hz.1 (by kernel_rfl) (λB=>D7A) hx (by omega) (by omega)
   (λm a q e=>by unfold A1r;simp only[A9T,gd,e,kb,rd0,rd1,qb,Ap,Cd,Aq];rfl)
   (λm a q hi hl e ha=>by
    obtain⟨v,j,e2,c2,hj,g1,g2⟩:=C5K tw hD (by omega) (by omega) m (hi.rm (by omega) (by omega)) e ha;exact⟨a++[v],j,hj,e2,hi.add g1 hj g2,c2⟩) NN [] (i+1) Rg.nil (.inr c1) (by rw[NNv];omega)
  refine⟨l,j+1,?_,by simpa [hz.2,show o+1+ -1=o by omega]using a3,by omega,a4.gl (by omega),((lq.tok (n:=10) (Bn i) (by omega)).comp (a4.2.2.comp (lq.nil (Ce j)))).le (by split<;>omega)⟩;simp only[F82,A9W,gd,e1,kb,rd0,rd1,qb,Ap,Cd,Aq];exact e
 ·have e1:F79 x T (i:Int)=some ([.bool false],rd T i):=by rw[O5 tw ws ht,hb];rfl
  refine⟨[],i,?_,c,Bi _,GL.nil,lq.nil (Bi _)⟩;simp only[F82,A9W,gd,e1,kb,rd0,rd1,qb,Ap,Bz];rfl
theorem C8l{B:Ab->Bool}:ch B A2x=bif B A1t then([A1t,A0G,A1y,A6Y],true)else([],true):=by kernel_rfl
theorem C0V(tw:TW T)(hD:D<=200)(h0:0<=o)(h1:o<=D)(h:Ac T D (A2x::st) i o):
  ∃l,∃j:Nat,F82 [40] [41] T (i:Int)=some ([.sl .iv l (some 1)],rd T j)/\Ac T D st j o/\i<=j/\GL GIv l/\lq (sl N8 l+(if l=[]then 0 else 10)) i j:=by
 obtain⟨t,ht,hk,hl,c1,c2⟩:=h.rl tw (by kernel_rfl);rw[C8l]at c1 c2;refine C39 tw hD h0 h1 B7d B9F (by kernel_rfl) (by kernel_rfl) (by kernel_rfl) ⟨t,ht,?_⟩;cases hb:Bt t A1t with
 |true=>rw[hb]at c2;exact .inl ⟨rfl,c2⟩
 |false=>rw[hb]at c2;exact .inr ⟨rfl,c2⟩
theorem kN(x:List E2):okB [.sl .named (some 1)] [[.sl .tok none,.int .i64]] (some ([.sl .named x (some 1)],rd T i))=true:=rfl
theorem qN(y:List E2)(x:Ao):A2K (gB (some ([.sl .named y (some 1)],x)) 0)=y:=rfl
theorem B9w{x s L m:Ab}{k:Int}{R:Type}{b1:Int}{k2:List E2->Bool->Ah->Int->Option R}{i0:Nat}(tw:TW T)(hD:D<=200)(h0:0<=o)(h1:o<=D)(hI:Is x m k)(hm:(T7 m&&(br m==0))=true)(hs:(T7 s&&(br s==0))=true)(hN:okN L=true)(hL:∀B,ch B L=bif B m then([m,s,L],true)else([],true)):
  ∀(n i:Nat)(a:List E2),Rg GNm S3 a i0 i->Ac T D (s::L::st) i o->T.length<n+i->∃(a':List E2)(j:Nat),A3f NN x T b1 n a true T (i:Int) k2=k2 a' false T (j:Int)/\Ac T D st j o/\i<j/\j<T.length/\Rg GNm S3 a' i0 j/\a'≠[]
 |0,i,a,_,c,hn=>by have:=c.lt;omega
 |1,i,a,_,c,hn=>by have:=c.lt;omega
 |n+1+1,i,a,hi,c,hn=>by
  have kz:=tw.len;obtain⟨t,ht,hk,hb,hl,iT,c1⟩:=A0T tw c hs h0 h1 hD;have hr:A2 (Bg a+1) 32=true:=hi.rm (by omega) (by omega);have qF:Rg GNm S3 (a++[⟨t.text,t.pos⟩]) i0 (i+1):=hi.add hk.1 (Bn i) (lq.tok (Bn i) (by have:=hk.1;show([32]++t.text:Ab).length+2<=_;simp;omega));obtain⟨t2,kQ,dy,eU,c2,c3⟩:=Ac.rl tw c1 hN;rw[hL]at c2 c3;have e2:=O5 tw hI kQ;cases dW:Bt t2 m with
  |true=>
   rw[dW]at c3 e2;obtain⟨_,_,_,_,_,_,c4⟩:=A0T tw c3 hm h0 h1 hD;obtain⟨a',j,e,c5,g1,g2,g3⟩:=B9w (i0:=i0) (b1:=b1) (k2:=k2) tw hD h0 h1 hI hm hs hN hL (n+1) (i+1+1) _ (by
    obtain⟨q1,q2,q3⟩:=qF;exact⟨q1,by omega,q3.comp (lq.nil (Ce (i+1)))⟩) c4 (by omega)
   refine⟨a',j,?_,c5,by omega,g2,g3⟩
   conv=>lhs;unfold A3f
   simp only[B3D,gd,Ap,iT,kn,qn,rd0,rd1,hr,e2,kb,qb];exact e
  |false=>
   rw[dW]at c3 e2;refine⟨_,i+1,?_,c3,Bn i,eU,qF,by simp⟩
   conv=>lhs;unfold A3f
   simp only[B3D,gd,Ap,iT,kn,qn,rd0,rd1,hr,e2,kb,qb];unfold A3f;rfl
theorem B6u{O x s L m:Ab}{k:Int}(tw:TW T)(hD:D<=200)(h0:0<=o)(h1:o<=D)(h:Ac T D (O::s::L::st) i o)(hI:Is x m k)(hm:(T7 m&&(br m==0))=true)(hs:(T7 s&&(br s==0))=true)(hN:(okN L&&okN O)=true)(hL:∀B,ch B L=bif B m then([m,s,L],true)else([],true))(hO:∀B,ch B O=bif B m then([m],true)else([],true)):
  ∃l,∃j:Nat,F83 x T (i:Int)=some ([.sl .named l (some 1)],rd T j)/\Ac T D st j o/\i<j/\GL GNm l/\l≠[]/\lq (sl S3 l) i j:=by
 have kz:=tw.len;rw[Bj]at hN hm;rw[beq_iff_eq]at hm;obtain⟨b,i1,e1,c1,g1,g2⟩:=B2G tw hI hN.2 hO hm.1 hm.2 h h0 (by omega);obtain⟨a,j,e,c2,g3,g4,g5,g6⟩:=B9w (R:=B6) (i0:=i1) (b1:=(i:Int)) (k2:=λz1 z2 z3 z4=>some ([.sl .named z1 (some 1)],[[.sl .tok z3 none,.int .i64 z4]])) tw hD h0 h1 hI (by rw[hm.1,hm.2];rfl) hs hN.1 hL NN i1 [] Rg.nil c1 (by rw[NNv];omega);refine⟨a,j,?_,c2,by omega,g5.gl (by omega),g6,((lq.nil g1).comp g5.2.2).le (by omega)⟩;simp only[F83,B6P,gd,e1,kb,rd0,rd1,qb,Ap];exact e
end
def A0r(l:List IvT):Ab:=if l=[]then []else [40]++jn 0 (l.map A0b)++[41]
def GFd(f:FdT):Prop:=P2 f.note/\f.name.length<=8400000/\GL GIv f.args/\GTy f.type_/\GL X4 f.dirs
def W1(f:FdT):Ab:=[32,32]++I1 f.note [10,32,32]++f.name++A0r f.args++[58,32]++prT f.type_++J5 f.dirs
def GVd(v:P0):Prop:=P2 v.note/\v.name.length<=8400000/\GL X4 v.dirs
def W8(v:P0):Ab:=[32,32]++I1 v.note [10,32,32]++v.name++J5 v.dirs
def opW(k:Int):Ab:=bif k==2 then [109,117,116,97,116,105,111,110]else bif k==3 then [115,117,98,115,99,114,105,112,116,105,111,110]else [113,117,101,114,121]
def GRd(r:RdT):Prop:=(r.op=1\/r.op=2\/r.op=3)/\r.type_.length<=8400000
def U8(r:RdT):Ab:=[32,32]++opW r.op++[58,32]++r.type_
def K85:Bool->Ah->Int->A6->Af:=λ_ T q d=>some ([],[bxT T q,bxS d])
section
variable {T:Ah}{D:Int}{st:Ag}{i:Nat}{o:Int}{t:A0}{d:A6}
theorem C6T(v:IvT):(A0b v).length<=(N8 v).length:=by
 unfold A0b N8 I1;simp only[Aw];cases v.note.has
 ·simp
 ·simp only[Ap,Aw,Ax,Ay];omega
theorem C33(l:List IvT):(A0r l).length<=sl N8 l+(if l=[]then 0 else 10):=by
 have:(jn 0 (l.map A0b)).length<=sl N8 l:=A8w 0 l λx _=>by have:=C6T x;show _+2<=(N8 x).length+2;omega
 unfold A0r;split
 ·simp
 ·simp only[Aw,Ax,Ay];omega
theorem C68(k:Int):(opW k).length<=12:=by
 unfold opW;cases k==2<;>cases k==3<;>decide
theorem C6p{B:Ab->Bool}:ch B A3h=bif B B2g then(B2g::[Z2,C2],true)else([],false):=by kernel_rfl
theorem D84{B:Ab->Bool}:ch B A4y=bif bg B 9 (A3h::[]++[A4y])then(A3h::[]++[A4y],true)else([],true):=by kernel_rfl
theorem D6X{B:Ab->Bool}:ch B A3Q=bif B L5 then([L5,A63],true)else bif(λ(B:Ab->Bool)=>B A8y||false) B then([A63],true)else([],false):=by kernel_rfl
theorem D75{B:Ab->Bool}:ch B A63=bif B A8y then(A8y::[D7],true)else([],false):=by kernel_rfl
theorem C6n{B:Ab->Bool}:ch B A5K=bif bg B 9 (A3Q::[]++[A5K])then(A3Q::[]++[A5K],true)else([],true):=by kernel_rfl
theorem D1S{B:Ab->Bool}:ch B A3s=bif B L5 then([L5,A7r],true)else bif(λ(B:Ab->Bool)=>B C2||false) B then([A7r],true)else([],false):=by kernel_rfl
theorem C6P{B:Ab->Bool}:ch B A7r=bif B C2 then(C2::[A2x,Z2,A1Q,D7],true)else([],false):=by kernel_rfl
theorem D6C{B:Ab->Bool}:ch B A5U=bif bg B 9 (A3s::[]++[A5U])then(A3s::[]++[A5U],true)else([],true):=by kernel_rfl
theorem D4G(tw:TW T)(hD:D<=200)(h0:0<=o)(h1:o<=D)(hd:d.kind=1)(hr:A2 (d.roots.length+1) 40=true)(c:Ac T D (A3h::st) i o):
  ∃r j,A1g T (i:Int) d=some ([],rd T j++[bxS {d with roots:=d.roots++[r]}])/\Ac T D st j o/\i<j/\GRd r/\lq ((U8 r).length+2) i j:=by
 obtain⟨t,ht,hk,hb,hl,iT,c1⟩:=A4l tw c (by kernel_rfl) (λB=>C6p) (by kernel_rfl) h0 h1 hD;obtain⟨n,en,_⟩:=B5B tw ht;rw[show Bt t L5=false from B0w (by kernel_rfl) hb,Aq]at en;obtain⟨lj,c2⟩:=A4w A7M tw c1 (by kernel_rfl) h0 h1 hD;obtain⟨t2,kQ,dy,_,eU,_,c3⟩:=A0T tw c2 (by kernel_rfl) h0 h1 hD;have rO:=A27 tw kQ eU;have gk:∀k:Int,k=1\/k=2\/k=3->GRd ⟨k,t2.text,t.pos⟩/\lq ((U8 ⟨k,t2.text,t.pos⟩).length+2) i (i+1+1+1):=λk hk=>by
  have h1:=dy.1;have h2:=C68 k;refine⟨⟨hk,h1⟩,lq.tok (by omega) ?_⟩;simp only[U8,Aw,Ax,Ay];omega
 obtain⟨kind,extd,note,name,ifs,dirs,fds,ivs,mbs,vals,rds,rep,pls,pos⟩:=d;have hd:kind=1:=hd;have hr:A2 (rds.length+1) 40=true:=hr;subst hd;unfold A1g;simp only[rk_,kT,gd,en,ko,qo,rd0,rd1,iT,kn,qn,lj,kb,qb,rO,kt_,qt,Ap,beq_self_eq_true,hr];cases t.text==[109,117,116,97,116,105,111,110]<;>cases t.text==[115,117,98,115,99,114,105,112,116,105,111,110]
 ·exact⟨⟨1,t2.text,t.pos⟩,_,rfl,c3,by omega,gk 1 (.inl rfl)⟩
 ·exact⟨⟨3,t2.text,t.pos⟩,_,rfl,c3,by omega,gk 3 (.inr (.inr rfl))⟩
 ·exact⟨⟨2,t2.text,t.pos⟩,_,rfl,c3,by omega,gk 2 (.inr (.inl rfl))⟩
 ·exact⟨⟨3,t2.text,t.pos⟩,_,rfl,c3,by omega,gk 3 (.inr (.inr rfl))⟩
theorem D1D(tw:TW T)(hD:D<=200)(h0:0<=o)(h1:o<=D)(hd:d.kind=6)(hr:A2 (d.values.length+1) 80=true)(c:Ac T D (A3Q::st) i o):
  ∃r j,A1g T (i:Int) d=some ([],rd T j++[bxS {d with values:=d.values++[r]}])/\Ac T D st j o/\i<j/\GVd r/\lq ((W8 r).length+2) i j:=by
 obtain⟨n,i1,en,c1,bX,gn,ln⟩:=B3u tw c (by kernel_rfl) (λB=>D6X) h0 h1 hD;obtain⟨t,ht,hk,hb,hl,iT,c2⟩:=A4l tw c1 (by kernel_rfl) (λB=>D75) (by kernel_rfl) h0 h1 hD;obtain⟨ds,j,ed,c3,hj,ui,ld⟩:=A55 tw hD h0 h1 (.inl c2);refine⟨⟨n,t.text,ds,t.pos⟩,j,?_,c3,by omega,⟨gn,hk.1,ui⟩,((ln [10,32,32] (by decide)).comp ((lq.tok (n:=t.text.length+4) (Bn i1) (by have:=hk.1;omega)).comp ld)).le ?_⟩
 ·obtain⟨kind,extd,note,name,ifs,dirs,fds,ivs,mbs,vals,rds,rep,pls,pos⟩:=d;have hd:kind=6:=hd;have hr:A2 (vals.length+1) 80=true:=hr;subst hd;unfold A1g;simp only[rk_,kT,gd,en,ko,qo,rd0,rd1,iT,kn,qn,ed,kd,qd,Ap,Aq,beq_self_eq_true,hr,show((6:Int)==1)=false from rfl];rfl
 ·simp only[W8,Aw,Ax,Ay];omega
theorem C9u(tw:TW T)(hD:D<=200)(h0:0<=o)(h1:o<=D)(hd:d.kind=3\/d.kind=4)(hr:A2 (d.fields.length+1) 136=true)(c:Ac T D (A3s::st) i o):
  ∃r j,A1g T (i:Int) d=some ([],rd T j++[bxS {d with fields:=d.fields++[r]}])/\Ac T D st j o/\i<j/\GFd r/\lq ((W1 r).length+2) i j:=by
 obtain⟨n,i1,en,c1,bX,gn,ln⟩:=B3u tw c (by kernel_rfl) (λB=>D1S) h0 h1 hD;obtain⟨t,ht,hk,hb,hl,iT,c2⟩:=A4l tw c1 (by kernel_rfl) (λB=>C6P) (by kernel_rfl) h0 h1 hD;obtain⟨vs,i2,ei,c3,co,yQ,lv⟩:=C0V tw hD h0 h1 c2;obtain⟨lj,c4⟩:=A4w A7M tw c3 (by kernel_rfl) h0 h1 hD;obtain⟨r,j1,et,c5,pJ,gt⟩:=C0U tw hD h0 h1 c4;obtain⟨ds,j,ed,c6,hj,ui,ld⟩:=A55 tw hD h0 h1 (.inl c5);have lt:=gt.len;refine⟨⟨n,t.text,vs,r,ds,t.pos⟩,j,?_,c6,by omega,⟨gn,hk.1,yQ,gt,ui⟩,((ln [10,32,32] (by decide)).comp ((lq.tok (n:=t.text.length+6) (Bn i1) (by have:=hk.1;omega)).comp ((lv.le (C33 vs)).comp ((lq.tok (n:=(prT r).length) (by omega:i2<j1) (by omega)).comp ld)))).le ?_⟩
 ·obtain⟨kind,extd,note,name,ifs,dirs,fds,ivs,mbs,vals,rds,rep,pls,pos⟩:=d;have hd:kind=3\/kind=4:=hd;have hr:A2 (fds.length+1) 136=true:=hr;unfold A1g;rcases hd with hd|hd<;>subst hd<;>simp only[rk_,kT,gd,en,ko,qo,rd0,rd1,iT,kn,qn,ei,ki,qi,lj,kb,qb,et,kr,qr,ed,kd,qd,Ap,Aq,hr,show((3:Int)==1)=false from rfl,show((3:Int)==6)=false from rfl,show((4:Int)==1)=false from rfl,show((4:Int)==6)=false from rfl]<;>rfl
 ·simp only[W1,Aw,Ax,Ay];omega
theorem D2C{d':A6}{n j:Nat}{k:Bool->Ah->Int->A6->Af}(ef:F79 [125] T (i:Int)=some ([.bool false],rd T i))(ep:A1g T (i:Int) d=some ([],rd T j++[bxS d'])):A06 (n+1) T (i:Int) d k=A06 n T (j:Int) d' k:=by
 conv=>lhs;unfold A06
 simp only[kT,gd,ef,kb,rd0,rd1,qb,Ap,Bz,ep];rfl
theorem C5X{n:Nat}(ef:F79 [125] T (i:Int)=some ([.bool true],rd T (i+1))):A06 (n+1) T (i:Int) d K85=some ([],rd T (i+1)++[bxS d]):=by
 unfold A06;simp only[kT,gd,ef,kb,rd0,rd1,qb,Ap,Cd,Aq];rfl
theorem C9X{q:Int}(hk:d.kind=1\/d.kind=3\/d.kind=4\/d.kind=6):F85 T q d=gd (okB [.bool] [kT] (F79 [123] T q)) (bif !(lB (gB (F79 [123] T q) 0))then some ([],[bxT (A4U (gC (F79 [123] T q) 0 0)) (lI (gC (F79 [123] T q) 0 1)),bxS d])
  else A06 NN (A4U (gC (F79 [123] T q) 0 0)) (lI (gC (F79 [123] T q) 0 1)) d K85):=by
 obtain⟨kind,extd,note,name,ifs,dirs,fds,ivs,mbs,vals,rds,rep,pls,pos⟩:=d;have hk:kind=1\/kind=3\/kind=4\/kind=6:=hk;rcases hk with h|h|h|h<;>subst h<;>show _=_<;>kernel_rfl
theorem B3A:Is [123] H1 2:=U2 (λt=>rfl) (by decide)
theorem B2V{α:Type}{G:α->Prop}{p:α->Ab}{e L:Ab}(tw:TW T)(hD:D<=200)(h0:0<=o)(h1:o<=D)(upq:List α->A6)(hk:(upq []).kind=1\/(upq []).kind=3\/(upq []).kind=4\/(upq []).kind=6)(hN:okN L=true)
  (hL:∀B,ch B L=bif bg B 9 (e::[]++[L])then(e::[]++[L],true)else([],true))(hx:fx e T0=true)
  (hs:∀(a:List α)(i:Nat),a.length<=1100000->Ac T D (e::L::T0::st) i (o+1)->o+1<=D->∃x j,A1g T (i:Int) (upq a)=some ([],rd T j++[bxS (upq (a++[x]))])/\Ac T D (L::T0::st) j (o+1)/\i<j/\G x/\lq ((p x).length+2) i j)
  (h:Bkt T D H1 [e,L,T0] st i o):∃a j,F85 T (i:Int) (upq [])=some ([],rd T j++[bxS (upq a)])/\Ac T D st j o/\i<=j/\GL G a/\lq (sl p a+(if a=[]then 0 else 10)) i j:=by
 have kz:=tw.len;rw[C9X hk];obtain⟨t,ht,⟨hb,c⟩|⟨hb,c⟩⟩:=h
 ·obtain⟨_,_,_,_,hl,gD,c1⟩:=Ac.tm tw c (by kernel_rfl) h0 (by omega);have gD:=gD (by kernel_rfl);rw[show br H1=1 by kernel_rfl]at c1;have e1:F79 [123] T (i:Int)=some ([.bool true],rd T (i+1)):=by rw[O5 tw B3A ht,hb];rfl
  obtain⟨l,j,e,a1,a2,a3,a4⟩:=A6d (A:=List α) (R:=B6) (D:=D) (o:=o+1) (st:=st) (Lf:=λm a q=>A06 m T (q:Int) (upq a) K85)
   (K:=λa q=>some ([],rd T q++[bxS (upq a)])) (Inv:=λa q=>Rg G p a (i+1) q) tw B6O (by kernel_rfl) hN hL hx (by omega) (by omega)
   (λm a q e=>C5X e)
   (λm a q hi hl e ha=>by
    obtain⟨x,j,e2,c2,hj,g1,g2⟩:=hs a q (by have:=hi.2.1;omega) ha (by omega);exact⟨a++[x],j,hj,D2C e e2,hi.add g1 hj g2,c2⟩) NN [] (i+1) Rg.nil (.inr c1) (by rw[NNv];omega)
  refine⟨l,j+1,?_,by simpa [show br T0= -1 by kernel_rfl,show o+1+ -1=o by omega]using a3,by omega,a4.gl (by omega),((lq.tok (n:=10) (Bn i) (by omega)).comp (a4.2.2.comp (lq.nil (Ce j)))).le (by split<;>omega)⟩;simp only[kT,gd,e1,kb,rd0,rd1,qb,Ap,Cd,Aq];exact e
 ·have e1:F79 [123] T (i:Int)=some ([.bool false],rd T i):=by rw[O5 tw B3A ht,hb];rfl
  refine⟨[],i,?_,c,Bi _,GL.nil,lq.nil (Bi _)⟩;simp only[kT,gd,e1,kb,rd0,rd1,qb,Ap,Bz];rfl
end
def nms(lead m:Ab):List E2->Ab
 |[]=>[]
 |x::r=>lead++x.name++r.flatMap λy=>m++y.name
def lns(d:A6):Ag:=d.roots.map U8++d.fields.map W1++d.values.map W8++(if d.kind=7 then d.inputs.map N8 else [])
def R3(d:A6):Ab:=if lns d=[]then []else [32,123]++(lns d).flatMap (λx=>[10]++x)++[10,125]
def T1(d:A6):Ab:=
 if d.kind=8 then A0r d.inputs++(bif d.repeatable then A29 else [])++nms [32,111,110,32] [32,124,32] d.places
 else nms A4m [32,38,32] d.ifaces++J5 d.dirs++nms [32,61,32] [32,124,32] d.members++R3 d
def hdW(k:Int):Ab:=
 bif k==1 then [115,99,104,101,109,97]else bif k==2 then [115,99,97,108,97,114,32]else bif k==3 then [116,121,112,101,32]else bif k==4 then [105,110,116,101,114,102,97,99,101,32]else bif k==5 then [117,110,105,111,110,32]
  else bif k==6 then [101,110,117,109,32]else bif k==7 then [105,110,112,117,116,32]else [100,105,114,101,99,116,105,118,101,32,64]
def U9(d:A6):Ab:=I1 d.note [10]++(bif d.extd then A2T else [])++(hdW d.kind++d.name)++T1 d
structure O9(d:A6):Prop where
 nt:P2 d.note
 nm:d.name.length<=8400000
 ds:GL X4 d.dirs
 kd:1<=d.kind/\d.kind<=8:=by refine⟨?_,?_⟩<;>dsimp only<;>omega
 k1:d.kind=1->d.name=[]:=by intro h;cases h
 ifs:GL GNm d.ifaces:=by exact GL.nil
 fds:GL GFd d.fields:=by exact GL.nil
 ivs:GL GIv d.inputs:=by exact GL.nil
 mbs:GL GNm d.members:=by exact GL.nil
 vals:GL GVd d.values:=by exact GL.nil
 rds:GL GRd d.roots:=by exact GL.nil
 pls:GL GNm d.places:=by exact GL.nil
 k34:d.kind≠3->d.kind≠4->d.ifaces=[]:=by intro _ _;rfl
 k5:d.kind≠5->d.members=[]:=by intro _;rfl
 k8:d.kind=8->d.places≠[]:=by intro h;cases h
 k7:d.kind=7->d.roots=[]/\d.fields=[]/\d.values=[]:=by first|(intro _;exact⟨rfl,rfl,rfl⟩)|(intro h;cases h)
 k78:d.kind≠7->d.kind≠8->d.inputs=[]:=by intro _ _;rfl
theorem B3r{lead m:Ab}(hm:m.length=3)(l:List E2):(nms lead m l).length<=(if l=[]then 0 else lead.length)+sl S3 l:=by
 have fl:∀l:List E2,(l.flatMap λy=>m++y.name).length<=sl S3 l:=λl=>by
  induction l with
  |nil=>exact Bw _
  |cons x l ih=>
   unfold sl S3 at*;rw[Ck,Aw,Aw];simp only[sw,Aw,Ax,Ay]at*;omega
 cases l with
 |nil=>simp[nms]
 |cons x r=>
  have:=fl r;rw[At (by simp)];unfold sl S3 at*;simp only[nms,sw,Aw,Ax,Ay]at*;omega
theorem B0d{α:Type}{p:α->Ab}{a:List α}{d:A6}(h:lns d=a.map p):(R3 d).length<=sl p a+(if a=[]then 0 else 10):=by
 have fl:∀l:List α,((l.map p).flatMap λx=>[10]++x).length<=sl p l:=λl=>by
  induction l with
  |nil=>exact Bw _
  |cons x l ih=>
   unfold sl at*;rw[Dv,Ck,Aw];simp only[sw,Aw,Ax,Ay]at*;omega
 unfold R3;rw[h];cases a with
 |nil=>simp
 |cons x r=>
  have:=fl (x::r);rw[At (by simp),At (by simp)];simp only[Aw,Ax,Ay];omega
section
variable {T:Ah}{D:Int}{st:Ag}{i:Nat}{o:Int}{t:A0}{d:A6}
def DrA(T:Ah)(D:Int)(st:Ag)(i:Nat)(o:Int):Prop:=Ac T D (D7::st) i o\/Ac T D (M5::D7::st) i o\/(Ac T D st i o/\∃t,T[i]?=some t/\Bt t R8=false)
theorem A7O(tw:TW T)(hD:D<=200)(h0:0<=o)(h1:o<=D)(c:DrA T D st i o):∃(ds:List D0)(j:Nat),F84 T (i:Int)=some ([.sl .dir ds (some 1)],rd T j)/\Ac T D st j o/\i<=j/\GL X4 ds/\lq (J5 ds).length i j:=by
 rcases c with c|c|⟨c,t,ht,hb⟩
 ·exact A55 tw hD h0 h1 (.inl c)
 ·exact A55 tw hD h0 h1 (.inr c)
 ·refine⟨[],i,?_,c,Bi _,GL.nil,lq.nil (Bi _)⟩;have oL:A1H [64] T (i:Int)=some ([.bool false],rd T i):=by rw[B07 B2n ht (tw.ok t (Cs ht)),hb]
  show W4 NN T (i:Int) NN [] T (i:Int) _=_;rw[show NN=(NN - 1)+1 from by rw[NNv]];unfold W4;simp only[A8F,gd,oL,kb,rd0,rd1,qb,Ap,Aq];rfl
def Bd(T:Ah)(D:Int)(S0 S1:Ab)(st:Ag)(i:Nat)(o:Int):Prop:=DrA T D (S0::st) i o\/DrA T D (S1::st) i o
theorem xb{X S0 S1:Ab}{C:(Ab->Bool)->Bool}(tw:TW T)(hN:okN X=true)(hX:∀B,ch B X=bif(B R8||false)then([M5,D7,S0],true)else bif C B then([S1],true)else([],false))(c:Ac T D (X::st) i o):Bd T D S0 S1 st i o:=by
 obtain⟨t,ht,hk,hl,c1,c2⟩:=c.rl tw hN;rw[hX]at c1 c2;cases hb:Bt t R8 with
 |true=>rw[hb]at c2;exact .inl (.inr (.inl c2))
 |false=>
  rw[hb]at c1 c2;cases hc:C (Bt t)with
  |false=>rw[hc]at c1;cases c1
  |true=>rw[hc]at c2;exact .inr (.inr (.inr ⟨c2,t,ht,hb⟩))
theorem bk1{S1:Ab}{E:Ag}(tw:TW T)(hN:okN S1=true)(h1:∀B,ch B S1=bif B H1 then(H1::E,true)else([],false))(c:Ac T D (S1::st) i o):Bkt T D H1 E st i o:=by
 obtain⟨t,ht,hk,hl,c1,c2⟩:=c.rl tw hN;rw[h1]at c1 c2;cases hb:Bt t H1 with
 |true=>rw[hb]at c2;exact⟨t,ht,.inl ⟨hb,c2⟩⟩
 |false=>rw[hb]at c1;cases c1
theorem bk0{S0 S1:Ab}{E:Ag}(tw:TW T)(hN:(okN S1&&okN S0)=true)(h0:∀B,ch B S0=bif(B H1||false)then([S1],true)else([],true))(h1:∀B,ch B S1=bif B H1 then(H1::E,true)else([],false))(c:Ac T D (S0::st) i o):Bkt T D H1 E st i o:=by
 rw[Bj]at hN;obtain⟨t,ht,hk,hl,c1,c2⟩:=c.rl tw hN.2;rw[h0]at c1 c2;cases hb:Bt t H1 with
 |true=>rw[hb]at c2;exact bk1 tw hN.1 h1 c2
 |false=>rw[hb]at c2;exact⟨t,ht,.inr ⟨hb,c2⟩⟩
theorem A96{S0 S1:Ab}{E:Ag}(tw:TW T)(hD:D<=200)(h0:0<=o)(h1:o<=D)(hN:(okN S1&&okN S0)=true)(g0:∀B,ch B S0=bif(B H1||false)then([S1],true)else([],true))(g1:∀B,ch B S1=bif B H1 then(H1::E,true)else([],false))(c:Bd T D S0 S1 st i o):
  ∃(ds:List D0)(j:Nat),F84 T (i:Int)=some ([.sl .dir ds (some 1)],rd T j)/\Bkt T D H1 E st j o/\i<=j/\GL X4 ds/\lq (J5 ds).length i j:=by
 rcases c with c|c
 ·obtain⟨ds,j,e,c,r⟩:=A7O tw hD h0 h1 c;exact⟨ds,j,e,bk0 tw hN g0 g1 c,r⟩
 ·obtain⟨ds,j,e,c,r⟩:=A7O tw hD h0 h1 c;rw[Bj]at hN;exact⟨ds,j,e,bk1 tw hN.1 g1 c,r⟩
theorem D2q{B:Ab->Bool}:ch B A1a=bif B H1 then(H1::[A3h,A4y,T0],true)else([],false):=by kernel_rfl
theorem C7w{B:Ab->Bool}:ch B A9c=bif(B H1||false)then([A1a],true)else([],true):=by kernel_rfl
theorem D0D{B:Ab->Bool}:ch B A34=bif B H1 then(H1::[A3s,A5U,T0],true)else([],false):=by kernel_rfl
theorem D20{B:Ab->Bool}:ch B T8=bif(B H1||false)then([A34],true)else([],true):=by kernel_rfl
theorem C9c{B:Ab->Bool}:ch B A5j=bif B H1 then(H1::[A3Q,A5K,T0],true)else([],false):=by kernel_rfl
theorem C63{B:Ab->Bool}:ch B A2l=bif(B H1||false)then([A5j],true)else([],true):=by kernel_rfl
theorem C5C{B:Ab->Bool}:ch B A4Q=bif B H1 then(H1::[A0G,A1y,T0],true)else([],false):=by kernel_rfl
theorem D6e{B:Ab->Bool}:ch B A2R=bif(B H1||false)then([A4Q],true)else([],true):=by kernel_rfl
theorem C6Y{B:Ab->Bool}:ch B A57=bif(B R8||false)then([M5,D7,A9c],true)else bif(λ(B:Ab->Bool)=>B H1||false) B then([A1a],true)else([],false):=by kernel_rfl
theorem D0W{B:Ab->Bool}:ch B A7d=bif(B R8||false)then([M5,D7,A26],true)else bif(λ(B:Ab->Bool)=>B A0l||false) B then([A4e],true)else([],false):=by kernel_rfl
theorem D0E{B:Ab->Bool}:ch B A7j=bif(B R8||false)then([M5,D7,A2l],true)else bif(λ(B:Ab->Bool)=>B H1||false) B then([A5j],true)else([],false):=by kernel_rfl
theorem D8U{B:Ab->Bool}:ch B A6w=bif(B R8||false)then([M5,D7,A2R],true)else bif(λ(B:Ab->Bool)=>B H1||false) B then([A4Q],true)else([],false):=by kernel_rfl
theorem D2t{B:Ab->Bool}:ch B A1h=bif(B A2N||false)then([A4o,D7,T8],true)else bif(B R8||false)then([M5,D7,T8],true)else bif(B H1||false)then([A34],true)else([],false):=by kernel_rfl
theorem D7a{B:Ab->Bool}:ch B A1C=bif(B A2N||false)then([A4o],true)else([],true):=by kernel_rfl
theorem D7N{B:Ab->Bool}:ch B A4o=bif B A2N then(A2N::[B0V,C2,A6M],true)else([],false):=by kernel_rfl
theorem C8U{B:Ab->Bool}:ch B A6M=bif B A4I then([A4I,C2,A6M],true)else([],true):=by kernel_rfl
theorem C5I{B:Ab->Bool}:ch B B0V=bif B A4I then([A4I],true)else([],true):=by kernel_rfl
theorem D6I{B:Ab->Bool}:ch B A26=bif(B A0l||false)then([A4e],true)else([],true):=by kernel_rfl
theorem D4Z{B:Ab->Bool}:ch B A4e=bif B A0l then(A0l::[A39,C2,A6s],true)else([],false):=by kernel_rfl
theorem D0V{B:Ab->Bool}:ch B A6s=bif B A1D then([A1D,C2,A6s],true)else([],true):=by kernel_rfl
theorem C4o{B:Ab->Bool}:ch B A39=bif B A1D then([A1D],true)else([],true):=by kernel_rfl
theorem D0q{B:Ab->Bool}:ch B A3u=bif B A1D then([A1D,A4K,A3u],true)else([],true):=by kernel_rfl
theorem D0m{B:Ab->Bool}:ch B A6j=bif B B2c then([B2c],true)else([],true):=by kernel_rfl
theorem D57:Is [38] A4I 2:=U2 (λt=>rfl) (by decide)
theorem C3R:Is [124] A1D 2:=U2 (λt=>rfl) (by decide)
theorem C47:Is [105,109,112,108,101,109,101,110,116,115] A2N 3:=U2 (λt=>rfl) (by decide)
theorem D54:Is [114,101,112,101,97,116,97,98,108,101] B2c 3:=U2 (λt=>rfl) (by decide)
theorem D8y:Is [111,110] A7P 3:=U2 (λt=>rfl) (by decide)
theorem B85:Is [101,120,116,101,110,100] A8Q 3:=U2 (λt=>rfl) (by decide)
end
end Go.Aev
namespace Go.Aev
open Go.Proofs
def E92:Env Ty6 A4:=mkE [] [(30,S30),(32,S32)] (lkD [(1,[9,10,11]),(2,[13,14]),(3,[12,15]),(4,[16,17,18,19]),(5,[16,20,21,22,23]),(6,[24,25,26,27,28,29,30])]) 31 [] 1 [] []
def C2U(a1:List E2)(a2 a3:Ab)(ae:Aa)(x8:Int)(aa:Aa):S6:=⟨[(0,.one (.ptr 900000 0)),(1,.one (.sl .named a1 none)),(2,.one (.str a2)),(3,.one (.str a3)),(8,.one (.int .i64 x8)),zO aa],[900000,92000000]⟩
def D10(a1:List E2)(a2 a3:Ab)(ae:Aa)(x8:Int)(cN:Bool)(aa:Aa):S6:=⟨[(0,.one (.ptr 900000 0)),(1,.one (.sl .named a1 none)),(2,.one (.str a2)),(3,.one (.str a3)),(8,.one (.int .i64 x8)),(12,.one (.bool cN)),zO aa],[900000,92000000]⟩
def B0L{R:Type}(nn:Nat)(a1:List E2)(a2 a3:Ab)(ae:Aa)(x8:Int)(aa:Aa)(k1:Int->(Aa)->Option R)(k2:Int->Bool->(Aa)->Option R):Option R:=let z1:=decide (x8<(Bg a1:Int));bif z1 then(let j2:Int->(Aa)->Option R:=λz3 z4=>k1 (Bh .i64 (z3+1)) z4;bif(x8==0)then(let bY:=F32 a2 aa;gd (okB [] kO bY) (let z5:=(gO bY);let r9:=F30 x8 a3 z5;gd (okB [] kO r9) (let z6:=(gO r9);match idx a1 x8 with|none=>none|some y7=>(let r8:=F32 y7.name z6;gd (okB [] kO r8) (j2 x8 (gO r8))))))else(let iu:=F30 x8 a3 aa;gd (okB [] kO iu) (let cF:=(gO iu);match idx a1 x8 with|none=>none|some mB=>(let dJ:=F32 mB.name cF;gd (okB [] kO dJ) (j2 x8 (gO dJ))))))else(k2 x8 z1 aa)
def A2k{R:Type}(nn:Nat)(a1:List E2)(a2 a3:Ab)(ae:Aa):Nat->Int->(Aa)->(Int->Bool->(Aa)->Option R)->Option R
 |0,_,_,_=>none
 |n+1,x8,aa,k2=>B0L nn a1 a2 a3 ae x8 aa (λx8 aa=>A2k nn a1 a2 a3 ae n x8 aa k2) k2
theorem C3L{R:Type}(nn:Nat)(a1:List E2)(a2 a3:Ab)(ae:Aa):∀(n:Nat)(x8:Int)(aa:Aa)(K:Ex->S6->Option R),LP E92 nn Cw [1,0,0] 10001 n (C2U a1 a2 a3 ae x8 aa) K=A2k nn a1 a2 a3 ae n x8 aa (λx8 cN aa=>K (.exit 0) (D10 a1 a2 a3 ae x8 cN aa))
 |0,_,_,_=>rfl
 |n+1,x8,aa,K=>by
  rw[A2k];simp only[<-C3L nn a1 a2 a3 ae n _ _ K];kernel_rfl
def C2v(nn:Nat)(a1:List E2)(a2 a3:Ab)(ae:Aa):Af:=A2k nn a1 a2 a3 ae nn 0 ae (λz1 z2 z3=>some ([],[[.sl .u8 z3 (some 92000000)]]))
def F92(a1:List E2)(a2 a3:Ab)(ae:Aa):Af:=C2v NN a1 a2 a3 ae
theorem D7D(nn:Nat){a1:List E2}{a2 a3:Ab}{ae:Aa}:C8 E92 nn Cw [0] [.ptr 900000 0,.sl .named a1 none,.str a2,.str a3] (C3 ae)=C2v nn a1 a2 a3 ae:=by
 have h:C8 E92 nn Cw [0] [.ptr 900000 0,.sl .named a1 none,.str a2,.str a3] (C3 ae)=LP E92 nn Cw [1,0,0] 10001 nn (C2U a1 a2 a3 ae 0 ae) (A5 0 (J3 E92 Tryz.f92.results.toList [0] (C3 ae))):=by kernel_rfl
 rw[h];simp only[C3L];show _=_;kernel_rfl
def S92:S2T
 |[.ptr d0 o0,.sl .named a1 none,.str a2,.str a3],[[.sl .u8 ae (some bR)]]=>bif bq d0 o0&&(Bu bR 92000000)then pB [] kO (F92 a1 a2 a3 ae)else none
 |_,_=>none
def E70:Env Ty6 A4:=mkE [] [] noD 8 [] 0 [] []
def F70(a0:Int):Ad:=bif(a0==1)then(some (.one (.str [113,117,101,114,121])))else(bif(a0==2)then(some (.one (.str [109,117,116,97,116,105,111,110])))else(some (.one (.str [115,117,98,115,99,114,105,112,116,105,111,110]))))
theorem D3V{a0:Int}:A3 E70 NN Tryz.f70 [.int .i64 a0]=F70 a0:=by kernel_rfl
def S70:S1T
 |[.int .i64 a0]=>pR [.str] (F70 a0)
 |_=>none
def A7e:Env Ty6 A4:=mkE [] [(32,S32)] (lkD [(0,[5,6]),(2,[7,8]),(3,[10,11]),(4,[9,12,13])]) 14 [] 1 [] []
def C03(a1:Int)(ae:Aa)(x4:Int)(aa:Aa):S6:=⟨[(0,.one (.ptr 900000 0)),(1,.one (.int .i64 a1)),(4,.one (.int .i64 x4)),zO aa],[900000,92000000]⟩
def D72(a1:Int)(ae:Aa)(x4:Int)(x9:Bool)(aa:Aa):S6:=⟨[(0,.one (.ptr 900000 0)),(1,.one (.int .i64 a1)),(4,.one (.int .i64 x4)),(9,.one (.bool x9)),zO aa],[900000,92000000]⟩
def B6K{R:Type}(nn:Nat)(a1:Int)(ae:Aa)(x4:Int)(aa:Aa)(k1:Int->(Aa)->Option R)(k2:Int->Bool->(Aa)->Option R):Option R:=let z1:=decide (x4<a1);bif z1 then(let r2:=F32 [32,32] aa;gd (okB [] kO r2) (k1 (Bh .i64 (x4+1)) (gO r2)))else(k2 x4 z1 aa)
def A5v{R:Type}(nn:Nat)(a1:Int)(ae:Aa):Nat->Int->(Aa)->(Int->Bool->(Aa)->Option R)->Option R
 |0,_,_,_=>none
 |n+1,x4,aa,k2=>B6K nn a1 ae x4 aa (λx4 aa=>A5v nn a1 ae n x4 aa k2) k2
theorem B8I{R:Type}(nn:Nat)(a1:Int)(ae:Aa):∀(n:Nat)(x4:Int)(aa:Aa)(K:Ex->S6->Option R),LP A7e nn Cx [1,1,0,0] 10002 n (C03 a1 ae x4 aa) K=A5v nn a1 ae n x4 aa (λx4 x9 aa=>K (.exit 0) (D72 a1 ae x4 x9 aa))
 |0,_,_,_=>rfl
 |n+1,x4,aa,K=>by
  rw[A5v];simp only[<-B8I nn a1 ae n _ _ K];kernel_rfl
def B6I(nn:Nat)(a1:Int)(ae:Aa):Af:=let r4:=F32 [10] ae;gd (okB [] kO r4) (A5v nn a1 ae nn 0 (gO r4) (λz1 z2 z3=>some ([],[[.sl .u8 z3 (some 92000000)]])))
def A48(a1:Int)(ae:Aa):Af:=B6I NN a1 ae
theorem D6x(nn:Nat){a1:Int}{ae:Aa}:C8 A7e nn Cx [0] [.ptr 900000 0,.int .i64 a1] (C3 ae)=B6I nn a1 ae:=by
 have h:C8 A7e nn Cx [0] [.ptr 900000 0,.int .i64 a1] (C3 ae)=let r4:=F32 [10] ae;gd (okB [] kO r4) (LP A7e nn Cx [1,1,0,0] 10002 nn (C03 a1 ae 0 (gO r4)) (A5 0 (J3 A7e Tryz.f143.results.toList [0] (C3 ae)))):=by kernel_rfl
 rw[h];simp only[B8I];show _=_;kernel_rfl
def A9U:S2T
 |[.ptr d0 o0,.int .i64 a1],[[.sl .u8 ae (some bR)]]=>bif bq d0 o0&&(Bu bR 92000000)then pB [] kO (A48 a1 ae)else none
 |_,_=>none
def C1e:Env Ty6 A4:=mkE [] [(90,S90),(143,A9U)] noD 13 [] 1 [] []
def A3y(a1:G3)(ae:Aa):Af:=let r3:=A48 1 ae;gd (okB [] kO r3) (let z1:=(gO r3);gd (okB [.bool] kO (F90 a1 z1)) (let z2:=(gO (F90 a1 z1));bif(lB (gB (F90 a1 z1) 0))then(gd (okB [] kO (A48 1 z2)) (some ([],[[.sl .u8 (gO (A48 1 z2)) (some 92000000)]])))else(some ([],[[.sl .u8 z2 (some 92000000)]]))))
theorem D3j{a1:G3}{ae:Aa}:C8 C1e NN Tryz.f159 [0] [.ptr 900000 0,.agg .note a1] (C3 ae)=A3y a1 ae:=by kernel_rfl
def B6l:S2T
 |[.ptr d0 o0,.agg .note a1],[[.sl .u8 ae (some bR)]]=>bif bq d0 o0&&(Bu bR 92000000)then pB [] kO (A3y a1 ae)else none
 |_,_=>none
end Go.Aev
namespace Go.Aev
def wOk(b:Aa)(s:Ab):Prop:=b.length+s.length+3000<=MB
def pcs{α:Type}(f:Nat->α->Ab):Nat->List α->Ab
 |_,[]=>[]
 |i,x::r=>f i x++pcs f (i+1) r
section
variable {α R:Type}{l:List α}{b:Aa}
theorem C2N(p:α->Ab):∀(l:List α)(i:Nat),pcs (λi x=>(if i=0 then []else [44,32])++p x) i l=jn i (l.map p)
 |[],_=>rfl
 |x::r,i=>by rw[pcs,Dv,jn,C2N p r]
theorem A4i(p:α->Ab):∀(l:List α)(i:Nat),pcs (λ_ x=>p x) i l=l.flatMap p
 |[],_=>rfl
 |x::r,i=>by rw[pcs,Ck,A4i p r]
theorem C2i(f:Nat->α->Ab)(Lf:Nat->Nat->Aa->Option R)(K:Aa->Option R)(eo:∀n buf,Lf (n+1) l.length buf=K buf)
  (hs:∀n i x buf,l[i]?=some x->i<l.length->x∈l->wOk buf (f i x)->Lf (n+1) i buf=Lf n (i+1) (buf++bI (f i x))):∀(n i:Nat)(r:List α)(buf:Aa),r=l.drop i->i<=l.length->l.length<n+i->wOk buf (pcs f i r)->Lf n i buf=K (buf++bI (pcs f i r))
 |0,i,r,buf,h,h1,h2,h3=>by omega
 |n+1,i,r,buf,h,h1,h2,h3=>by
  by_cases hi:i<l.length
  ·have hd:l.drop i=l[i]::l.drop (i+1):=Dg hi;rw[h,hd]at h3 ⊢;simp only[pcs,wOk,Aw]at h3 ⊢;rw[hs n i l[i] buf (Bl hi) hi (Cu hi) (by unfold wOk;omega)];rw[C2i f Lf K eo hs n (i+1) _ _ rfl (by omega) (by omega) (by simp only[wOk,Aw,B7];omega)];rw[C9,Be]
  ·have bJ:i=l.length:=by omega
   subst bJ;rw[h,Df,eo];simp[pcs,bI]
theorem wl(f:Nat->α->Ab)(Lf:Nat->Nat->Aa->Option R)(K:Aa->Option R){c:Nat}(hl:l.length<=c)(eo:∀n buf,Lf (n+1) l.length buf=K buf)
  (hs:∀n i x buf,l[i]?=some x->i<l.length->x∈l->wOk buf (f i x)->Lf (n+1) i buf=Lf n (i+1) (buf++bI (f i x)))(hb:wOk b (pcs f 0 l))(hc:c<=4400000:=by decide):Lf NN 0 b=K (b++bI (pcs f 0 l)):=
 C2i f Lf K eo hs NN 0 l b rfl (Bw _) (by rw[NNv];omega) hb
theorem N6{i c:Nat}(hl:l.length<=c)(hi:i<l.length)(hc:c<=4400000:=by decide):Bh .i64 ((i:Int)+1)=((i+1:Nat):Int):=N7 (by omega)
theorem dlt{i:Nat}(hi:i<l.length):decide ((i:Int)<(l.length:Int))=true:=Ar (by omega)
theorem dge:decide ((l.length:Int)<(l.length:Int))=false:=As (by omega)
theorem A7J(h:l≠[]):((l.length:Int)==0)=false:=by
 cases l with
 |nil=>exact absurd rfl h
 |cons x r=>simp;omega
theorem o32{a:Ab}(h:wOk b a):F32 a b=some ([],C3 (b++bI a)):=P7 (by unfold wOk at h;omega)
theorem C7m{n:G3}(hn:P2 n)(h:wOk b (qq n.block n.text)):A3x n.block n.text b=some ([],C3 (b++bI (qq n.block n.text))):=C4F (A78 hn.1) _ hn.2 (by unfold wOk at h;omega)
theorem o49{r:I4}(hr:GTy r)(h:wOk b (prT r)):F49 r b=some ([],C3 (b++bI (prT r))):=(C2c hr.1 hr.2 (by have:=hr.2;unfold wOk at h;omega)).2
theorem p18{r:I4}(hr:GTy r):F18 r=some (.one (.str (prT r))):=by
 have h1:=hr.len;exact(C2c (b:=[]) hr.1 hr.2 (by have:=hr.2;unfold MB;simp;omega)).1
theorem C1M{v:LitT}(hv:O4 DD v/\wt DD v<=1100000)(h:wOk b (prN DD v)):F45 v b=some ([],C3 (b++bI (prN DD v))):=B7g DD v b hv.1 hv.2 (by unfold wOk at h;omega)
theorem C4T{v:LitT}(hv:O4 DD v/\wt DD v<=1100000)(h:wOk b (prN DD v)):F44 v b=some ([],B9 (b++bI (prN DD v))):=B4f DD v b hv.1 hv.2 (by unfold wOk at h;omega)
theorem p27{a:Ag}(ha:a.length<=1000)(h:wOk b a.flatten):F27 a b=some ([],B9 (b++bI a.flatten)):=Y9 ha (by unfold wOk at h;omega)
theorem D76{i:Nat}(h:wOk b []):A1m (i:Int) b=some ([],B9 (b++bI (if i=0 then []else [44,32]))):=B3f (by unfold wOk at h;simp at h;omega)
theorem J1(l:Aa):okB [] kP (some ([],B9 l))=true:=rfl
theorem L0(l:Aa):okB [] kO (some ([],C3 l))=true:=rfl
theorem A7u(x:Bool)(l:Aa):okB [.bool] kO (some ([.bool x],C3 l))=true:=rfl
theorem B3n(v:LitT):LitT.mk v.kind v.text v.block v.items v.fields v.pos=v:=LitT.eta v
theorem X5(l:Aa):[[(.ptr 900000 C4:L6),.sl .u8 l (some 92000001)]]=B9 l:=rfl
theorem A2W(l:Aa):[[(.sl .u8 l (some 92000000):L6)]]=C3 l:=rfl
end
end Go.Aev
namespace Go.Aev
open Go.Proofs
def E93:Env Ty6 A4:=mkE [(70,S70)] [(32,S32),(49,S49),(72,S72),(91,S91),(143,A9U),(158,A9R),(159,B6l)] (lkD [(0,[1,1000106]),(1,[1000106]),(2,[9,10,11,12,1000106]),(3,[14,15,1000106]),(4,[13,16,17,1000106]),(5,[18,19,20,21,22,23,24,25,26,1000106]),(6,[27,28,1000106]),(7,[29,30,31,32,33,34,35,36,1000106]),(8,[4,13,1000106]),(9,[37,38,39,40,1000106]),(10,[42,43,1000106]),(11,[41,44,45,46,47,48]),(12,[49,50,51,52]),(13,[53,54,55,56]),(14,[57,58,59,60]),(15,[61,62]),(16,[63,64,65,66]),(17,[6,67,68,69,70,1000106]),(18,[5,41,1000106]),(19,[71,72,73,74,1000106]),(20,[76,77,1000106]),(21,[75,78,79,80,81,82,83,84,85,1000106]),(22,[86,87,88,89,90,91,92,93,1000106]),(23,[94,95,96,97,98,99,100,101,1000106]),(24,[7,75,1000106]),(25,[102,103,104,105,1000106]),(26,[107,108,1000106]),(27,[106,109,110,111,112,113,114,115,116,1000106]),(28,[117,118,119,120,121,122,123,1000106]),(10002,[1000106]),(10009,[1000106]),(10019,[1000106]),(10025,[1000106])]) 124 [] 1 [] []
def C49(a1:A6)(ae:Aa)(x4:Int)(aa:Aa):S6:=⟨[(0,.one (.ptr 900000 0)),(3,.one (.elem .sys a1 0)),(4,.one (.int .i64 x4)),zO aa],[900000,92000000]⟩
def C4L(a1:A6)(ae:Aa)(x4:Int)(bv:Bool)(aa:Aa):S6:=⟨[(0,.one (.ptr 900000 0)),(3,.one (.elem .sys a1 0)),(4,.one (.int .i64 x4)),(13,.one (.bool bv)),zO aa],[900000,92000000]⟩
def B72(a1:A6)(ae:Aa)(x5:Int)(aa:Aa):S6:=⟨[(0,.one (.ptr 900000 0)),(3,.one (.elem .sys a1 0)),(5,.one (.int .i64 x5)),zO aa],[900000,92000000]⟩
def C0X(a1:A6)(ae:Aa)(x5:Int)(eW:Bool)(aa:Aa):S6:=⟨[(0,.one (.ptr 900000 0)),(3,.one (.elem .sys a1 0)),(5,.one (.int .i64 x5)),(41,.one (.bool eW)),zO aa],[900000,92000000]⟩
def B8x(a1:A6)(ae:Aa)(x7:Int)(aa:Aa):S6:=⟨[(0,.one (.ptr 900000 0)),(3,.one (.elem .sys a1 0)),(7,.one (.int .i64 x7)),zO aa],[900000,92000000]⟩
def C5p(a1:A6)(ae:Aa)(x7:Int)(qm:Bool)(aa:Aa):S6:=⟨[(0,.one (.ptr 900000 0)),(3,.one (.elem .sys a1 0)),(7,.one (.int .i64 x7)),(75,.one (.bool qm)),zO aa],[900000,92000000]⟩
def C2S(a1:A6)(ae:Aa)(x8:Int)(aa:Aa):S6:=⟨[(0,.one (.ptr 900000 0)),(3,.one (.elem .sys a1 0)),(8,.one (.int .i64 x8)),zO aa],[900000,92000000]⟩
def D3F(a1:A6)(ae:Aa)(x8:Int)(nX:Bool)(aa:Aa):S6:=⟨[(0,.one (.ptr 900000 0)),(3,.one (.elem .sys a1 0)),(8,.one (.int .i64 x8)),(106,.one (.bool nX)),zO aa],[900000,92000000]⟩
def B36{R:Type}(nn:Nat)(a1:A6)(ae:Aa)(x4:Int)(aa:Aa)(k1:Int->(Aa)->Option R)(k2:Int->Bool->(Aa)->Option R):Option R:=let z1:=decide (x4<(Bg a1.roots:Int));bif z1 then(let bY:=A48 1 aa;gd (okB [] kO bY) (let z2:=(gO bY);match idx a1.roots x4 with|none=>none|some y3=>(gd (okR [.str] (F70 y3.op)) (let r9:=F32 (lS (gL (F70 y3.op) 0)) z2;gd (okB [] kO r9) (let z4:=(gO r9);let r8:=F32 [58,32] z4;gd (okB [] kO r8) (let z5:=(gO r8);match idx a1.roots x4 with|none=>none|some y6=>(let r7:=F32 y6.type_ z5;gd (okB [] kO r7) (k1 (Bh .i64 (x4+1)) (gO r7)))))))))else(k2 x4 z1 aa)
def A1O{R:Type}(nn:Nat)(a1:A6)(ae:Aa):Nat->Int->(Aa)->(Int->Bool->(Aa)->Option R)->Option R
 |0,_,_,_=>none
 |n+1,x4,aa,k2=>B36 nn a1 ae x4 aa (λx4 aa=>A1O nn a1 ae n x4 aa k2) k2
theorem C1K{R:Type}(nn:Nat)(a1:A6)(ae:Aa):∀(n:Nat)(x4:Int)(aa:Aa)(K:Ex->S6->Option R),LP E93 nn Bp [1,0,1,0,0] 10002 n (C49 a1 ae x4 aa) K=A1O nn a1 ae n x4 aa (λx4 bv aa=>K (.exit 0) (C4L a1 ae x4 bv aa))
 |0,_,_,_=>rfl
 |n+1,x4,aa,K=>by
  rw[A1O];simp only[<-C1K nn a1 ae n _ _ K];kernel_rfl
def B5K{R:Type}(nn:Nat)(a1:A6)(ae:Aa)(x5:Int)(aa:Aa)(k1:Int->(Aa)->Option R)(k2:Int->Bool->(Aa)->Option R):Option R:=let z1:=decide (x5<(Bg a1.fields:Int));bif z1 then(match idx a1.fields x5 with|none=>none|some y2=>(let dJ:=A3y y2.note aa;gd (okB [] kO dJ) (let z3:=(gO dJ);let fv:=F32 y2.name z3;gd (okB [] kO fv) (let z4:=(gO fv);let dI:=F91 y2.args z4;gd (okB [] kO dI) (let z5:=(gO dI);let bY:=F32 [58,32] z5;gd (okB [] kO bY) (let z6:=(gO bY);let r9:=F49 y2.type_ z6;gd (okB [] kO r9) (let z7:=(gO r9);let r8:=F72 y2.dirs z7;gd (okB [] kO r8) (k1 (Bh .i64 (x5+1)) (gO r8)))))))))else(k2 x5 z1 aa)
def A1s{R:Type}(nn:Nat)(a1:A6)(ae:Aa):Nat->Int->(Aa)->(Int->Bool->(Aa)->Option R)->Option R
 |0,_,_,_=>none
 |n+1,x5,aa,k2=>B5K nn a1 ae x5 aa (λx5 aa=>A1s nn a1 ae n x5 aa k2) k2
theorem B78{R:Type}(nn:Nat)(a1:A6)(ae:Aa):∀(n:Nat)(x5:Int)(aa:Aa)(K:Ex->S6->Option R),LP E93 nn Bp [1,1,0,1,0,0] 10009 n (B72 a1 ae x5 aa) K=A1s nn a1 ae n x5 aa (λx5 eW aa=>K (.exit 2) (C0X a1 ae x5 eW aa))
 |0,_,_,_=>rfl
 |n+1,x5,aa,K=>by
  rw[A1s];simp only[<-B78 nn a1 ae n _ _ K];kernel_rfl
def B4n{R:Type}(nn:Nat)(a1:A6)(ae:Aa)(x7:Int)(aa:Aa)(k1:Int->(Aa)->Option R)(k2:Int->Bool->(Aa)->Option R):Option R:=let z1:=decide (x7<(Bg a1.values:Int));bif z1 then(match idx a1.values x7 with|none=>none|some y2=>(let r9:=A3y y2.note aa;gd (okB [] kO r9) (let z3:=(gO r9);match idx a1.values x7 with|none=>none|some y4=>(let r8:=F32 y4.name z3;gd (okB [] kO r8) (let z5:=(gO r8);match idx a1.values x7 with|none=>none|some y6=>(let r7:=F72 y6.dirs z5;gd (okB [] kO r7) (k1 (Bh .i64 (x7+1)) (gO r7))))))))else(k2 x7 z1 aa)
def A1l{R:Type}(nn:Nat)(a1:A6)(ae:Aa):Nat->Int->(Aa)->(Int->Bool->(Aa)->Option R)->Option R
 |0,_,_,_=>none
 |n+1,x7,aa,k2=>B4n nn a1 ae x7 aa (λx7 aa=>A1l nn a1 ae n x7 aa k2) k2
theorem B91{R:Type}(nn:Nat)(a1:A6)(ae:Aa):∀(n:Nat)(x7:Int)(aa:Aa)(K:Ex->S6->Option R),LP E93 nn Bp [1,1,1,0,1,0,0] 10019 n (B8x a1 ae x7 aa) K=A1l nn a1 ae n x7 aa (λx7 qm aa=>K (.exit 4) (C5p a1 ae x7 qm aa))
 |0,_,_,_=>rfl
 |n+1,x7,aa,K=>by
  rw[A1l];simp only[<-B91 nn a1 ae n _ _ K];kernel_rfl
def B6s{R:Type}(nn:Nat)(a1:A6)(ae:Aa)(x8:Int)(aa:Aa)(k1:Int->(Aa)->Option R)(k2:Int->Bool->(Aa)->Option R):Option R:=let z1:=decide (x8<(Bg a1.inputs:Int));bif z1 then(match idx a1.inputs x8 with|none=>none|some y2=>(let r5:=A3y y2.note aa;gd (okB [] kO r5) (let z3:=(gO r5);match idx a1.inputs x8 with|none=>none|some y4=>(gd (okB [] kO (A23 y4 z3)) (k1 (Bh .i64 (x8+1)) (gO (A23 y4 z3)))))))else(k2 x8 z1 aa)
def A1F{R:Type}(nn:Nat)(a1:A6)(ae:Aa):Nat->Int->(Aa)->(Int->Bool->(Aa)->Option R)->Option R
 |0,_,_,_=>none
 |n+1,x8,aa,k2=>B6s nn a1 ae x8 aa (λx8 aa=>A1F nn a1 ae n x8 aa k2) k2
theorem C4f{R:Type}(nn:Nat)(a1:A6)(ae:Aa):∀(n:Nat)(x8:Int)(aa:Aa)(K:Ex->S6->Option R),LP E93 nn Bp [1,1,1,1,1,0,0] 10025 n (C2S a1 ae x8 aa) K=A1F nn a1 ae n x8 aa (λx8 nX aa=>K (.exit 6) (D3F a1 ae x8 nX aa))
 |0,_,_,_=>rfl
 |n+1,x8,aa,K=>by
  rw[A1F];simp only[<-C4f nn a1 ae n _ _ K];kernel_rfl
def C5e(nn:Nat)(a1:A6)(ae:Aa):Af:=A1O nn a1 ae nn 0 ae (λz1 z2 z3=>A1s nn a1 ae nn 0 z3 (λz4 z5 z6=>A1l nn a1 ae nn 0 z6 (λz7 z8 z9=>A1F nn a1 ae nn 0 z9 (λdH cF di=>some ([],[[.sl .u8 di (some 92000000)]])))))
def F93(a1:A6)(ae:Aa):Af:=C5e NN a1 ae
theorem D44(nn:Nat){a1:A6}{ae:Aa}:C8 E93 nn Bp [0] [.ptr 900000 0,.agg .sys a1] (C3 ae)=C5e nn a1 ae:=by
 have h:C8 E93 nn Bp [0] [.ptr 900000 0,.agg .sys a1] (C3 ae)=LP E93 nn Bp [1,0,1,0,0] 10002 nn (C49 a1 ae 0 ae) (A5 0 (sk E93 nn Bp [1,1] (J3 E93 Tryz.f93.results.toList [0] (C3 ae)))):=by kernel_rfl
 have h0:∀(z1:Int)(z2:Bool)(z3:Aa),(A5 0 (sk E93 nn Bp [1,1] (J3 E93 Tryz.f93.results.toList [0] (C3 ae)))) (.exit 0) (C4L a1 ae z1 z2 z3)=LP E93 nn Bp [1,1,0,1,0,0] 10009 nn (B72 a1 ae 0 z3) (A5 2 (sk E93 nn Bp [1,1,1] (J3 E93 Tryz.f93.results.toList [0] (C3 ae)))):=by intros;kernel_rfl
 have h1:∀(z4:Int)(z5:Bool)(z6:Aa),(A5 2 (sk E93 nn Bp [1,1,1] (J3 E93 Tryz.f93.results.toList [0] (C3 ae)))) (.exit 2) (C0X a1 ae z4 z5 z6)=LP E93 nn Bp [1,1,1,0,1,0,0] 10019 nn (B8x a1 ae 0 z6) (A5 4 (sk E93 nn Bp [1,1,1,1] (J3 E93 Tryz.f93.results.toList [0] (C3 ae)))):=by intros;kernel_rfl
 have h2:∀(z7:Int)(z8:Bool)(z9:Aa),(A5 4 (sk E93 nn Bp [1,1,1,1] (J3 E93 Tryz.f93.results.toList [0] (C3 ae)))) (.exit 4) (C5p a1 ae z7 z8 z9)=LP E93 nn Bp [1,1,1,1,1,0,0] 10025 nn (C2S a1 ae 0 z9) (A5 6 (J3 E93 Tryz.f93.results.toList [0] (C3 ae))):=by intros;kernel_rfl
 rw[h];simp only[C1K,B78,B91,C4f,h0,h1,h2];show _=_;kernel_rfl
def S93:S2T
 |[.ptr d0 o0,.agg .sys a1],[[.sl .u8 ae (some bR)]]=>bif bq d0 o0&&(Bu bR 92000000)then pB [] kO (F93 a1 ae)else none
 |_,_=>none
def E39:Env Ty6 A4:=mkE [] [(32,S32),(72,S72),(90,S90),(91,S91),(92,S92),(93,S93)] noD 106 [] 1 [] []
def j39(d:A6)(c:Int)(z:Aa):Af:=bif decide (c>0)then(let jm:=F32 [32,123] z;gd (okB [] kO jm) (let r:=F93 d (gO jm);gd (okB [] kO r) (let lh:=F32 [10,125] (gO r);gd (okB [] kO lh) (some ([],C3 (gO lh))))))else some ([],C3 z)
def q39(d:A6)(z:Aa):Af:=let fv:=F92 d.places [32,111,110,32] [32,124,32] z;gd (okB [] kO fv) (some ([],C3 (gO fv)))
def t39(d:A6)(z:Aa):Af:=let nR:=F32 d.name z;gd (okB [] kO nR) (bif d.kind==8
 then(let iu:=F91 d.inputs (gO nR);gd (okB [] kO iu) (bif d.repeatable then(let dJ:=F32 A29 (gO iu);gd (okB [] kO dJ) (q39 d (gO dJ)))else q39 d (gO iu)))
 else(let mE:=F92 d.ifaces A4m [32,38,32] (gO nR);gd (okB [] kO mE) (let nS:=F72 d.dirs (gO mE);gd (okB [] kO nS) (let mF:=F92 d.members [32,61,32] [32,124,32] (gO nS);gd (okB [] kO mF) (
  bif d.kind==7 then j39 d (Bg d.inputs:Int) (gO mF)else j39 d (Bh .i64 ((Bh .i64 ((Bg d.roots:Int)+(Bg d.fields:Int)))+(Bg d.values:Int))) (gO mF))))))
def w39(d:A6)(z:Aa)(s:Ab):Af:=let r:=F32 s z;gd (okB [] kO r) (t39 d (gO r))
def k39(d:A6)(z:Aa):Af:=bif d.kind==1 then w39 d z [115,99,104,101,109,97]else bif d.kind==2 then w39 d z [115,99,97,108,97,114,32]else bif d.kind==3 then w39 d z [116,121,112,101,32]else bif d.kind==4 then w39 d z [105,110,116,101,114,102,97,99,101,32]else bif d.kind==5 then w39 d z [117,110,105,111,110,32]
 else bif d.kind==6 then w39 d z [101,110,117,109,32]else bif d.kind==7 then w39 d z [105,110,112,117,116,32]else w39 d z [100,105,114,101,99,116,105,118,101,32,64]
def e39(d:A6)(z:Aa):Af:=bif d.extd then(let r:=F32 A2T z;gd (okB [] kO r) (k39 d (gO r)))else k39 d z
def F39(d:A6)(b:Aa):Af:=let rP:=F90 d.note b;gd (okB [.bool] kO rP) (bif lB (gB rP 0)then(let r:=F32 [10] (gO rP);gd (okB [] kO r) (e39 d (gO r)))else e39 d (gO rP))
theorem B4G{a1:A6}{ae:Aa}:C8 E39 NN Tryz.f39 [0] [.ptr 900000 0,.agg .sys a1] (C3 ae)=F39 a1 ae:=by kernel_rfl
def S39:S2T
 |[.ptr d0 o0,.agg .sys a1],[[.sl .u8 ae (some bR)]]=>bif bq d0 o0&&(Bu bR 92000000)then pB [] kO (F39 a1 ae)else none
 |_,_=>none
def E13:Env Ty6 A4:=mkE [] [(30,S30),(32,S32),(39,S39)] (lkD [(0,[2,1000106]),(1,[5,6]),(3,[7,8,9]),(4,[11,12]),(5,[10,13,14,15]),(6,[16,17,18,19,20,21]),(7,[22,23]),(8,[0,3,4,10,24,25,26,27,28,1000106])]) 29 [5,6] 0 [] [(5,106)]
def C2C(a0:List A6)(x4:Int)(ah:Aa):S6:=⟨[(0,.one (.sl .sys a0 none)),(3,.one (.ptr 106 0)),(4,.one (.int .i64 x4)),(1000106,.bx 106 [.sl .u8 ah (some 2010600)])],[106,2010600]⟩
def D8E(a0:List A6)(x4:Int)(aC:Bool)(ah:Aa):S6:=⟨[(0,.one (.sl .sys a0 none)),(3,.one (.ptr 106 0)),(4,.one (.int .i64 x4)),(10,.one (.bool aC)),(1000106,.bx 106 [.sl .u8 ah (some 2010600)])],[106,2010600]⟩
def B3S{R:Type}(nn:Nat)(a0:List A6)(x4:Int)(ah:Aa)(k1:Int->(Aa)->Option R)(k2:Int->Bool->(Aa)->Option R):Option R:=let z1:=decide (x4<(Bg a0:Int));bif z1 then(let r6:=F30 x4 [10] ah;gd (okB [] kO r6) (let z2:=(gO r6);match idx a0 x4 with|none=>none|some y3=>(gd (okB [] kO (F39 y3 z2)) (let z4:=(gO (F39 y3 z2));let r5:=F32 [10] z4;gd (okB [] kO r5) (k1 (Bh .i64 (x4+1)) (gO r5))))))else(k2 x4 z1 ah)
def A21{R:Type}(nn:Nat)(a0:List A6):Nat->Int->(Aa)->(Int->Bool->(Aa)->Option R)->Option R
 |0,_,_,_=>none
 |n+1,x4,ah,k2=>B3S nn a0 x4 ah (λx4 ah=>A21 nn a0 n x4 ah k2) k2
theorem B8Z{R:Type}(nn:Nat)(a0:List A6):∀(n:Nat)(x4:Int)(ah:Aa)(K:Ex->S6->Option R),LP E13 nn Cq [1,1,0,1,0,0] 10003 n (C2C a0 x4 ah) K=A21 nn a0 n x4 ah (λx4 aC ah=>K (.exit 0) (D8E a0 x4 aC ah))
 |0,_,_,_=>rfl
 |n+1,x4,ah,K=>by
  rw[A21];simp only[<-B8Z nn a0 n _ _ K];kernel_rfl
def B9R(nn:Nat)(a0:List A6):Ad:=A21 nn a0 nn 0 [] (λz1 z2 z3=>some (.one (.str (List.map (λ(n:Int)=>UInt8.ofNat n.toNat) z3))))
def F13(a0:List A6):Ad:=B9R NN a0
theorem C8s(nn:Nat){a0:List A6}:A3 E13 nn Cq [.sl .sys a0 none]=B9R nn a0:=by
 have h:A3 E13 nn Cq [.sl .sys a0 none]=LP E13 nn Cq [1,1,0,1,0,0] 10003 nn (C2C a0 0 []) (A5 0 (sk E13 nn Cq [1,1,1] (A9 E13 Tryz.f13.results.toList))):=by kernel_rfl
 rw[h];simp only[B8Z];show _=_;kernel_rfl
def S13:S1T
 |[.sl .sys a0 none]=>pR [.str] (F13 a0)
 |_=>none
end Go.Aev
namespace Go.Aev
section
variable {R:Type}{b b0:Aa}
def cm(i:Nat):Ab:=if i=0 then []else [44,32]
theorem B2e(i:Nat):(cm i).length<=2:=by unfold cm;split<;>decide
theorem B4Q{i:Nat}(h:wOk b []):F30 (i:Int) [44,32] b=some ([],C3 (b++bI (cm i))):=A76 (by unfold wOk at h;simp at h ⊢;omega)
theorem C36{i:Nat}(h:wOk b []):A1m (i:Int) b=some ([],B9 (b++bI (cm i))):=D76 h
theorem B0C{α:Type}(p:α->Ab)(l:List α)(i:Nat):pcs (λi x=>cm i++p x) i l=jn i (l.map p):=C2N p l i
theorem D0w{l:List H0}{k2:Int->Bool->Aa->Option R}(hl:GL A43 l)(hb:wOk b (jn 0 (l.map W3))):A22 NN l b0 NN ((0:Nat):Int) b k2=k2 (l.length:Int) false (b++bI (jn 0 (l.map W3))):=by
 rw[<-B0C]at hb ⊢;refine wl _ (λn i buf=>A22 NN l b0 n (i:Int) buf k2) (λbuf=>k2 (l.length:Int) false buf) hl.1 (λn buf=>?_) (λn i x buf hx hi hm hb=>?_) hb
 ·show A22 NN l b0 (n+1) (l.length:Int) buf k2=_;unfold A22;simp only[B5y,dge,Aq]
 ·have hg:=(hl.2 x hm).2;have hc:=B2e i;simp only[W3]at hb;simp only[wOk,Aw,Ax,Ay]at hb
  conv=>lhs;unfold A22
  simp(disch:=first|assumption|decide|(simp only[wOk,Aw,B7,Bb,Ba,Az,Ax,Ay];omega))only[B5y,gd,dlt hi,E1,hx,Ap,B4Q,o32,C1M,L0,F9,B3n,N6 hl.1 hi];simp only[W3,Be,C9,Bb,Ba,Az]
theorem D0Z{l:List H0}(hl:GL A43 l)(hb:wOk b (A2Y l)):B18 l b=some ([],C3 (b++bI (A2Y l))):=by
 by_cases h0:l=[]
 ·subst h0;show some ([],C3 b)=some ([],C3 (b++[]));rw[Az]
 ·unfold A2Y at hb ⊢;rw[At h0]at hb ⊢;simp only[wOk,Aw,Ax,Ay]at hb;simp(disch:=first|assumption|decide|(simp only[wOk,Aw,B7,Bb,Ba,Az,Ax,Ay];omega))only[B18,B3V,gd,A7J h0,Aq,o32,L0,F9,Ap];refine(D0w hl (by simp only[wOk,Aw,B7,Ax,Ay];omega)).trans ?_;simp(disch:=first|assumption|decide|(simp only[wOk,Aw,B7,Bb,Ba,Az,Ax,Ay];omega))only[o32,L0,F9,Ap,A2W,Be,C9,Bb,Ba,Az]
theorem o72{l:List D0}(hl:GL X4 l)(hb:wOk b (J5 l)):F72 l b=some ([],C3 (b++bI (J5 l))):=by
 have bG:∀(k2:Int->Bool->Aa->Af),A2d NN l b NN ((0:Nat):Int) b k2=k2 (l.length:Int) false (b++bI (J5 l)):=λk2=>by
  unfold J5 at hb ⊢;rw[<-A4i Z9 l 0]at hb ⊢;refine wl _ (λn i buf=>A2d NN l b n (i:Int) buf k2) (λbuf=>k2 (l.length:Int) false buf) hl.1 (λn buf=>?_) (λn i x buf hx hi hm hb=>?_) hb
  ·show A2d NN l b (n+1) (l.length:Int) buf k2=_;unfold A2d;simp only[B4l,dge,Aq]
  ·have hg:=(hl.2 x hm).2;simp only[Z9]at hb;simp only[wOk,Aw,Ax,Ay]at hb
   conv=>lhs;unfold A2d
   simp(disch:=first|assumption|decide|(simp only[wOk,Aw,B7,Bb,Ba,Az,Ax,Ay];omega))only[B4l,gd,dlt hi,E1,hx,Ap,o32,D0Z,L0,F9,N6 hl.1 hi];simp only[Z9,Be,C9,Bb,Ba,Az]
 exact bG _
theorem o90{n:G3}(hn:P2 n)(hb:wOk b (I1 n [])):F90 n b=some ([.bool n.has],C3 (b++bI (I1 n []))):=by
 unfold I1 at hb ⊢;cases hh:n.has
 ·simp only[F90,hh,Aq];show(some ([.bool false],C3 b):Af)=some ([.bool false],C3 (b++[]));rw[Az]
 ·rw[hh]at hb;simp only[Ap,Az]at hb;simp(disch:=first|assumption|decide|(simp only[wOk,Aw,B7,Bb,Ba,Az,Ax,Ay];omega))only[F90,gd,hh,Ap,C7m hn,L0,F9,Az,A2W]
theorem B6j{v:IvT}(hv:GIv v)(hb:wOk b (X7 v)):A23 v b=some ([],C3 (b++bI (X7 v))):=by
 obtain⟨g1,g2,g3,g4,g5⟩:=hv;simp only[X7,A2P]at hb;cases hh:v.hasDefault
 ·rw[hh]at hb;simp only[Aq]at hb;simp only[wOk,Aw,Ax,Ay]at hb;simp(disch:=first|assumption|decide|(simp only[wOk,Aw,B7,Bb,Ba,Az,Ax,Ay];omega))only[A23,gd,hh,Aq,Ap,o32,o49 g3,o72 g5,L0,F9];simp only[X7,A2P,hh,Aq,A2W,Be,C9,Bb,Ba,Az]
 ·rw[hh]at hb;simp only[Ap]at hb;simp only[wOk,Aw,Ax,Ay]at hb;simp(disch:=first|assumption|decide|(simp only[wOk,Aw,B7,Bb,Ba,Az,Ax,Ay];omega))only[A23,gd,hh,Ap,o32,o49 g3,o72 g5,C1M (g4 hh),B3n,L0,F9];simp only[X7,A2P,hh,Ap,A2W,Be,C9,Bb,Ba,Az]
theorem o91{l:List IvT}(hl:GL GIv l)(hb:wOk b (A0r l)):F91 l b=some ([],C3 (b++bI (A0r l))):=by
 have bG:∀(b b0:Aa)(k2:Int->Bool->Aa->Af),wOk b (jn 0 (l.map A0b))->A3a NN l b0 NN ((0:Nat):Int) b k2=k2 (l.length:Int) false (b++bI (jn 0 (l.map A0b))):=λb b0 k2 hb=>by
  rw[<-B0C]at hb ⊢;refine wl _ (λn i buf=>A3a NN l b0 n (i:Int) buf k2) (λbuf=>k2 (l.length:Int) false buf) hl.1 (λn buf=>?_) (λn i x buf hx hi hm hb=>?_) hb
  ·show A3a NN l b0 (n+1) (l.length:Int) buf k2=_;unfold A3a;simp only[B1Q,dge,Aq]
  ·have hg:=hl.2 x hm;have hn:=hg.1;have hc:=B2e i;have gZ:=λb hb=>o90 (b:=b) hn hb;simp only[A0b,I1]at hb
   conv=>lhs;unfold A3a
   cases hh:x.note.has
   ·rw[hh]at hb;simp only[Aq]at hb;simp only[wOk,Aw,Ax,Ay]at hb;simp only[I1,hh,Aq]at gZ;simp(disch:=first|assumption|decide|(simp only[wOk,Aw,B7,Bb,Ba,Az,Ax,Ay];omega))only[B1Q,gd,dlt hi,E1,hx,Ap,Aq,B4Q,gZ,qb,B6j,L0,A7u,F9,N6 hl.1 hi];simp only[A0b,I1,hh,Aq,Bo,Be,C9,Bb,Ba,Az];rfl
   ·rw[hh]at hb;simp only[Ap]at hb;simp only[wOk,Aw,Ax,Ay]at hb;simp only[I1,hh,Ap,Az]at gZ;simp(disch:=first|assumption|decide|(simp only[wOk,Aw,B7,Bb,Ba,Az,Ax,Ay];omega))only[B1Q,gd,dlt hi,E1,hx,Ap,B4Q,gZ,qb,o32,B6j,L0,A7u,F9,N6 hl.1 hi];simp only[A0b,I1,hh,Ap,Be,C9,Bb,Ba,Az]
 by_cases h0:l=[]
 ·subst h0;show some ([],C3 b)=some ([],C3 (b++[]));rw[Az]
 ·unfold A0r at hb ⊢;rw[At h0]at hb ⊢;simp only[wOk,Aw,Ax,Ay]at hb;simp(disch:=first|assumption|decide|(simp only[wOk,Aw,B7,Bb,Ba,Az,Ax,Ay];omega))only[F91,B5a,gd,A7J h0,Aq,o32,L0,F9,Ap];refine(bG _ _ _ (by simp only[wOk,Aw,B7,Ax,Ay];omega)).trans ?_;simp(disch:=first|assumption|decide|(simp only[wOk,Aw,B7,Bb,Ba,Az,Ax,Ay];omega))only[o32,L0,F9,Ap,A2W,Be,C9,Bb,Ba,Az]
theorem C4N(m:Ab):∀(l:List E2)(i:Nat),0<i->∀g:Nat->Ab,(∀i,0<i->g i=m)->pcs (λi x=>g i++x.name) i l=l.flatMap λy=>m++y.name
 |[],_,_,_,_=>rfl
 |x::r,i,h,g,hg=>by rw[pcs,Ck,C4N m r (i+1) (by omega) g hg,hg i h]
theorem C0K(lead m:Ab):∀l:List E2,nms lead m l=pcs (λi x=>(if i=0 then lead else m)++x.name) 0 l
 |[]=>rfl
 |x::r=>by rw[nms,pcs,C4N m r 1 (by omega) (λi=>if i=0 then lead else m) (λi h=>At (by omega))];rfl
theorem o92{l:List E2}{lead m:Ab}(hl:GL GNm l)(h1:lead.length<=100)(h2:m.length<=100)(hb:wOk b (nms lead m l)):F92 l lead m b=some ([],C3 (b++bI (nms lead m l))):=by
 have bG:∀(k2:Int->Bool->Aa->Af),A2k NN l lead m b NN ((0:Nat):Int) b k2=k2 (l.length:Int) false (b++bI (nms lead m l)):=λk2=>by
  rw[C0K]at hb ⊢;refine wl _ (λn i buf=>A2k NN l lead m b n (i:Int) buf k2) (λbuf=>k2 (l.length:Int) false buf) hl.1 (λn buf=>?_) (λn i x buf hx hi hm hb=>?_) hb
  ·show A2k NN l lead m b (n+1) (l.length:Int) buf k2=_;unfold A2k;simp only[B0L,dge,Aq]
  ·conv=>lhs;unfold A2k
   have iw:∀b,wOk b []->F30 (i:Int) m b=some ([],C3 (b++bI (if i=0 then []else m))):=λb h=>A76 (by unfold wOk at h;simp at h ⊢;omega);by_cases h0:i=0
   ·subst h0;simp only[Au]at hb iw;simp only[wOk,Aw,Ax,Ay]at hb;simp only[if_true,bI,List.map_nil,Az]at iw;simp(disch:=first|assumption|decide|(simp only[wOk,Aw,B7,Bb,Ba,Az,Ax,Ay];omega))only[B0L,gd,dlt hi,E1,hx,Ap,show(((0:Nat):Int)==0)=true from rfl,o32,iw,L0,F9,N6 hl.1 hi];simp only[if_true,Be,C9,Bb,Ba,Az]
   ·rw[At h0]at hb ⊢;simp only[wOk,Aw,Ax,Ay]at hb;simp only[At h0]at iw;simp(disch:=first|assumption|decide|(simp only[wOk,Aw,B7,Bb,Ba,Az,Ax,Ay];omega))only[B0L,gd,dlt hi,E1,hx,Ap,Aq,show(((i:Nat):Int)==0)=false from(by simpa using h0),o32,iw,L0,F9,N6 hl.1 hi];simp only[Be,C9,Bb,Ba,Az]
 exact bG _
theorem B54(hb:wOk b [10,32,32]):A48 1 b=some ([],C3 (b++bI [10,32,32])):=by
 have e1:A5v NN 1 b NN 0 (b++bI [10]) (λz1 z2 z3=>some (([]:Ae),[[(.sl .u8 z3 (some 92000000):L6)]]))=some ([],C3 (b++bI [10,32,32])):=by
  rw[show NN=(NN - 2)+1+1 from by rw[NNv]];unfold A5v;simp only[wOk,Aw,Ax,Ay]at hb;simp(disch:=first|assumption|decide|(simp only[wOk,Aw,B7,Bb,Ba,Az,Ax,Ay];omega))only[B6K,gd,show decide ((0:Int)<1)=true from rfl,Ap,o32,L0,F9,show Bh .i64 ((0:Int)+1)=1 from rfl];unfold A5v;simp only[B6K,show decide ((1:Int)<1)=false from rfl,Aq,A2W,Be];rfl
 simp only[wOk,Aw,Ax,Ay]at hb;simp(disch:=first|assumption|decide|(simp only[wOk,Aw,B7,Bb,Ba,Az,Ax,Ay];omega))only[A48,B6I,gd,o32,L0,F9,Ap];exact e1
theorem B6r{n:G3}(hn:P2 n)(hb:wOk b ([10,32,32]++I1 n [10,32,32])):A3y n b=some ([],C3 (b++bI ([10,32,32]++I1 n [10,32,32]))):=by
 have gZ:=λb hb=>o90 (b:=b) hn hb;simp only[I1]at hb gZ;cases hh:n.has
 ·rw[hh]at hb;simp only[hh,Aq]at hb gZ;simp only[wOk,Aw,Ax,Ay]at hb;simp(disch:=first|assumption|decide|(simp only[wOk,Aw,B7,Bb,Ba,Az,Ax,Ay];omega))only[A3y,gd,B54,L0,A7u,F9,gZ,qb,Ap,Aq,I1,hh,A2W,Bo,Be,C9,Bb,Ba,Az];rfl
 ·rw[hh]at hb;simp only[hh,Ap,Az]at hb gZ;simp only[wOk,Aw,Ax,Ay]at hb;simp(disch:=first|assumption|decide|(simp only[wOk,Aw,B7,Bb,Ba,Az,Ax,Ay];omega))only[A3y,gd,B54,L0,A7u,F9,gZ,qb,Ap,I1,hh,A2W,Be,C9,Bb,Ba,Az]
end
section
variable {R:Type}{b b0:Aa}{d:A6}
theorem f70{k:Int}(h:k=1\/k=2\/k=3):F70 k=some (.one (.str (opW k))):=by
 rcases h with h|h|h<;>subst h<;>rfl
theorem C8g{k2:Int->Bool->Aa->Option R}(hl:GL GRd d.roots)(hb:wOk b (d.roots.flatMap λx=>[10]++U8 x)):A1O NN d b0 NN ((0:Nat):Int) b k2=k2 (d.roots.length:Int) false (b++bI (d.roots.flatMap λx=>[10]++U8 x)):=by
 rw[<-A4i _ d.roots 0]at hb ⊢;refine wl _ (λn i buf=>A1O NN d b0 n (i:Int) buf k2) (λbuf=>k2 (d.roots.length:Int) false buf) hl.1 (λn buf=>?_) (λn i x buf hx hi hm hb=>?_) hb
 ·show A1O NN d b0 (n+1) (d.roots.length:Int) buf k2=_;unfold A1O;simp only[B36,dge,Aq]
 ·have hg:=hl.2 x hm;have yR:=f70 hg.1;simp only[U8]at hb;simp only[wOk,Aw,Ax,Ay]at hb
  conv=>lhs;unfold A1O
  simp(disch:=first|assumption|decide|(simp only[wOk,Aw,B7,Bb,Ba,Az,Ax,Ay];omega))only[B36,gd,dlt hi,E1,hx,Ap,B54,yR,oS1,gS1,o32,L0,F9,N6 hl.1 hi];simp only[U8,Be,C9,Bb,Ba,Az];rfl
theorem C9I{k2:Int->Bool->Aa->Option R}(hl:GL GFd d.fields)(hb:wOk b (d.fields.flatMap λx=>[10]++W1 x)):A1s NN d b0 NN ((0:Nat):Int) b k2=k2 (d.fields.length:Int) false (b++bI (d.fields.flatMap λx=>[10]++W1 x)):=by
 rw[<-A4i _ d.fields 0]at hb ⊢;refine wl _ (λn i buf=>A1s NN d b0 n (i:Int) buf k2) (λbuf=>k2 (d.fields.length:Int) false buf) hl.1 (λn buf=>?_) (λn i x buf hx hi hm hb=>?_) hb
 ·show A1s NN d b0 (n+1) (d.fields.length:Int) buf k2=_;unfold A1s;simp only[B5K,dge,Aq]
 ·obtain⟨g1,g2,g3,g4,g5⟩:=hl.2 x hm;simp only[W1]at hb;simp only[wOk,Aw,Ax,Ay]at hb
  conv=>lhs;unfold A1s
  simp(disch:=first|assumption|decide|(simp only[wOk,Aw,B7,Bb,Ba,Az,Ax,Ay];omega))only[B5K,gd,dlt hi,E1,hx,Ap,B6r g1,o91 g3,o49 g4,o72 g5,o32,L0,F9,N6 hl.1 hi];simp only[W1,Be,C9,Bb,Ba,Az];rfl
theorem D56{k2:Int->Bool->Aa->Option R}(hl:GL GVd d.values)(hb:wOk b (d.values.flatMap λx=>[10]++W8 x)):A1l NN d b0 NN ((0:Nat):Int) b k2=k2 (d.values.length:Int) false (b++bI (d.values.flatMap λx=>[10]++W8 x)):=by
 rw[<-A4i _ d.values 0]at hb ⊢;refine wl _ (λn i buf=>A1l NN d b0 n (i:Int) buf k2) (λbuf=>k2 (d.values.length:Int) false buf) hl.1 (λn buf=>?_) (λn i x buf hx hi hm hb=>?_) hb
 ·show A1l NN d b0 (n+1) (d.values.length:Int) buf k2=_;unfold A1l;simp only[B4n,dge,Aq]
 ·obtain⟨g1,g2,g5⟩:=hl.2 x hm;simp only[W8]at hb;simp only[wOk,Aw,Ax,Ay]at hb
  conv=>lhs;unfold A1l
  simp(disch:=first|assumption|decide|(simp only[wOk,Aw,B7,Bb,Ba,Az,Ax,Ay];omega))only[B4n,gd,dlt hi,E1,hx,Ap,B6r g1,o72 g5,o32,L0,F9,N6 hl.1 hi];simp only[W8,Be,C9,Bb,Ba,Az];rfl
theorem D0J{k2:Int->Bool->Aa->Option R}(hl:GL GIv d.inputs)(hb:wOk b (d.inputs.flatMap λx=>[10]++N8 x)):A1F NN d b0 NN ((0:Nat):Int) b k2=k2 (d.inputs.length:Int) false (b++bI (d.inputs.flatMap λx=>[10]++N8 x)):=by
 rw[<-A4i _ d.inputs 0]at hb ⊢;refine wl _ (λn i buf=>A1F NN d b0 n (i:Int) buf k2) (λbuf=>k2 (d.inputs.length:Int) false buf) hl.1 (λn buf=>?_) (λn i x buf hx hi hm hb=>?_) hb
 ·show A1F NN d b0 (n+1) (d.inputs.length:Int) buf k2=_;unfold A1F;simp only[B6s,dge,Aq]
 ·have hg:=hl.2 x hm;simp only[N8]at hb;simp only[wOk,Aw,Ax,Ay]at hb
  conv=>lhs;unfold A1F
  simp(disch:=first|assumption|decide|(simp only[wOk,Aw,B7,Bb,Ba,Az,Ax,Ay];omega))only[B6s,gd,dlt hi,E1,hx,Ap,B6r hg.1,B6j,L0,F9,N6 hl.1 hi];simp only[N8,Be,C9,Bb,Ba,Az];rfl
def lnT(d:A6):Ab:=(d.roots.flatMap λx=>[10]++U8 x)++(d.fields.flatMap λx=>[10]++W1 x)++(d.values.flatMap λx=>[10]++W8 x)++(d.inputs.flatMap λx=>[10]++N8 x)
theorem o93(h:O9 d)(hb:wOk b (lnT d)):F93 d b=some ([],C3 (b++bI (lnT d))):=by
 simp only[lnT]at hb;simp only[wOk,Aw,Ax,Ay]at hb;have w:∀x:Ab,x.length<=(lnT d).length->True:=λ_ _=>trivial;show A1O NN d b NN ((0:Nat):Int) b _=_;rw[C8g h.rds (by unfold wOk;omega)];show A1s NN d b NN ((0:Nat):Int) _ _=_;rw[C9I h.fds (by simp only[wOk,Aw,B7];omega)];show A1l NN d b NN ((0:Nat):Int) _ _=_;rw[D56 h.vals (by simp only[wOk,Aw,B7];omega)];show A1F NN d b NN ((0:Nat):Int) _ _=_;rw[D0J h.ivs (by simp only[wOk,Aw,B7];omega)];simp only[lnT,A2W,Be,C9,Bb,Ba,Az]
theorem C8j(h:O9 d)(h8:d.kind≠8):(lns d).flatMap (λx=>[10]++x)=lnT d:=by
 unfold lns lnT;by_cases h7:d.kind=7
 ·rw[Au h7];simp only[Ey,Dz]
 ·rw[At h7,h.k78 h7 h8];simp only[Ey,Dz,List.flatMap_nil,Az]
def cnt(d:A6):Int:=bif d.kind==7 then(Bg d.inputs:Int)else Bh .i64 ((Bh .i64 ((Bg d.roots:Int)+(Bg d.fields:Int)))+(Bg d.values:Int))
theorem C60(h:O9 d)(h8:d.kind≠8):decide (cnt d>0)= !(lns d).isEmpty:=by
 have l1:=h.rds.1;have l2:=h.fds.1;have l3:=h.vals.1;have bG:(0<cnt d)↔lns d≠[]:=by
  unfold cnt lns;by_cases h7:d.kind=7
  ·obtain⟨a1,a2,a3⟩:=h.k7 h7;rw[h7,Au rfl,a1,a2,a3];cases d.inputs<;>simp<;>omega
  ·have qK:(d.kind==7)=false:=by simpa using h7
   rw[qK,At h7,Aq,A2U (by rw[A2U (by omega) (by omega)];omega) (by rw[A2U (by omega) (by omega)];omega),A2U (by omega) (by omega)];cases d.roots<;>cases d.fields<;>cases d.values<;>simp<;>omega
 by_cases hl:lns d=[]
 ·rw[hl];exact As λh=>(bG.1 h) hl
 ·rw[Ar (bG.2 hl)];cases h:lns d with
  |nil=>exact absurd h hl
  |cons x r=>rfl
theorem D2J(h:O9 d)(h8:d.kind≠8)(hb:wOk b (R3 d)):j39 d (cnt d) b=some ([],C3 (b++bI (R3 d))):=by
 unfold j39;rw[C60 h h8];unfold R3 at hb ⊢;rw[C8j h h8]at hb ⊢;cases hl:lns d with
 |nil=>
  simp only[List.isEmpty_nil,Cd,Aq,if_true];show _=some ([],C3 (b++[]));rw[Az]
 |cons x r=>
  rw[hl,At (Fb _ _)]at hb;rw[At (Fb _ _)];simp only[wOk,Aw,Ax,Ay]at hb;simp(disch:=first|assumption|decide|(simp only[wOk,Aw,B7,Bb,Ba,Az,Ax,Ay];omega))only[List.isEmpty_cons,Bz,gd,Ap,o32,o93 h,L0,F9,Be,C9,Bb,Ba,Az]
theorem D0l(h:O9 d)(hb:wOk b (d.name++T1 d)):t39 d b=some ([],C3 (b++bI (d.name++T1 d))):=by
 unfold t39;unfold T1 at hb ⊢;by_cases h8:d.kind=8
 ·have uj:(d.kind==8)=true:=by simpa using h8
  rw[Au h8]at hb ⊢;cases hr:d.repeatable<;>rw[hr]at hb<;>simp only[Ap,Aq]at hb<;>simp only[wOk,Aw,Ax,Ay]at hb<;>simp(disch:=first|assumption|decide|(simp only[wOk,Aw,B7,Bb,Ba,Az,Ax,Ay];omega))only[uj,q39,gd,Ap,Aq,o32,o91 h.ivs,o92 h.pls,L0,F9,Be,C9,Bb,Ba,Az,Bo]
 ·have uj:(d.kind==8)=false:=by simpa using h8
  rw[At h8]at hb ⊢;simp only[wOk,Aw,Ax,Ay]at hb;have ej:∀z,(bif d.kind==7 then j39 d (Bg d.inputs:Int) z else j39 d (Bh .i64 ((Bh .i64 ((Bg d.roots:Int)+(Bg d.fields:Int)))+(Bg d.values:Int))) z)=j39 d (cnt d) z:=λz=>by
   unfold cnt;cases d.kind==7<;>rfl
  simp(disch:=first|assumption|decide|(simp only[wOk,Aw,B7,Bb,Ba,Az,Ax,Ay];omega))only[uj,ej,gd,Ap,Aq,o32,o92 h.ifs,o92 h.mbs,o72 h.ds,D2J h h8,L0,F9,Be,C9,Bb,Ba,Az]
theorem C66(z:Aa):k39 d z=w39 d z (hdW d.kind):=by
 unfold k39 hdW;cases d.kind==1<;>cases d.kind==2<;>cases d.kind==3<;>cases d.kind==4<;>cases d.kind==5<;>cases d.kind==6<;>cases d.kind==7<;>rfl
theorem o39(h:O9 d)(hb:wOk b (U9 d)):F39 d b=some ([],C3 (b++bI (U9 d))):=by
 have gZ:=λb hb=>o90 (b:=b) h.nt hb;have ek:∀z,wOk z (hdW d.kind++(d.name++T1 d))->k39 d z=some ([],C3 (z++bI (hdW d.kind++(d.name++T1 d)))):=λz hb=>by
  rw[C66];unfold w39;simp only[wOk,Aw,Ax,Ay]at hb;simp(disch:=first|assumption|decide|(simp only[wOk,Aw,B7,Bb,Ba,Az,Ax,Ay];omega))only[gd,o32,D0l h,L0,F9,Ap,Be,C9,Bb,Ba,Az]
 have ee:∀z,wOk z ((bif d.extd then A2T else [])++(hdW d.kind++(d.name++T1 d)))->e39 d z=some ([],C3 (z++bI ((bif d.extd then A2T else [])++(hdW d.kind++(d.name++T1 d))))):=λz hb=>by
  unfold e39;cases hx:d.extd<;>rw[hx]at hb<;>simp only[Ap,Aq]at hb<;>simp only[wOk,Aw,Ax,Ay]at hb<;>simp(disch:=first|assumption|decide|(simp only[wOk,Aw,B7,Bb,Ba,Az,Ax,Ay];omega))only[gd,o32,ek,L0,F9,Ap,Aq,Be,C9,Bb,Ba,Az,Bo]
 unfold F39;unfold U9 at hb ⊢;simp only[I1]at hb gZ ⊢;cases hh:d.note.has
 ·rw[hh]at hb;simp only[hh,Aq]at hb gZ;simp only[wOk,Aw,Ax,Ay]at hb;simp(disch:=first|assumption|decide|(simp only[wOk,Aw,B7,Bb,Ba,Az,Ax,Ay];omega))only[gd,gZ,qb,ee,A7u,F9,Ap,Aq,Bo,Be,C9,Bb,Ba,Az];simp[bI]
 ·rw[hh]at hb;simp only[hh,Ap,Az]at hb gZ;simp only[wOk,Aw,Ax,Ay]at hb;simp(disch:=first|assumption|decide|(simp only[wOk,Aw,B7,Bb,Ba,Az,Ax,Ay];omega))only[gd,gZ,qb,ee,o32,L0,A7u,F9,Ap,Be,C9,Bb,Ba,Az]
theorem o13{l:List A6}(hl:GL O9 l)(hb:wOk [] (pcs (λi x=>(if i=0 then []else [10])++(U9 x++[10])) 0 l)):F13 l=some (.one (.str (pcs (λi x=>(if i=0 then []else [10])++(U9 x++[10])) 0 l))):=by
 have bG:∀(k2:Int->Bool->Aa->Ad),A21 NN l NN ((0:Nat):Int) [] k2=k2 (l.length:Int) false ([]++bI (pcs (λi x=>(if i=0 then []else [10])++(U9 x++[10])) 0 l)):=λk2=>by
  refine wl _ (λn i buf=>A21 NN l n (i:Int) buf k2) (λbuf=>k2 (l.length:Int) false buf) hl.1 (λn buf=>?_) (λn i x buf hx hi hm hb=>?_) hb
  ·show A21 NN l (n+1) (l.length:Int) buf k2=_;unfold A21;simp only[B3S,dge,Aq]
  ·have hg:=hl.2 x hm;have iw:∀b,wOk b []->F30 (i:Int) [10] b=some ([],C3 (b++bI (if i=0 then []else [10]))):=λb h=>A76 (by unfold wOk at h;simp at h ⊢;omega);have hc:(if i=0 then []else([10]:Ab)).length<=2:=by split<;>decide
   simp only[wOk,Aw,Ax,Ay]at hb
   conv=>lhs;unfold A21
   simp(disch:=first|assumption|decide|(simp only[wOk,Aw,B7,Bb,Ba,Az,Ax,Ay];omega))only[B3S,gd,dlt hi,E1,hx,Ap,iw,o39 hg,o32,L0,F9,N6 hl.1 hi];simp only[Be,C9,Bb,Ba,Az]
 refine(bG _).trans ?_;rw[Bo];show(some (.one (.str (toB (bI _)))):Ad)=_;rw[C1F]
end
section
variable {R:Type}{b b0:Aa}{d:A6}
theorem p86{n:G3}(hn:P2 n):F86 n.block n.text=some (.one (.str (qq n.block n.text))):=C4w (A78 hn.1) _
theorem p37{n:G3}{g:Ab}(hn:P2 n)(hb:wOk b (I1 n g)):F37 n g b=some ([],B9 (b++bI (I1 n g))):=by
 unfold I1 at hb ⊢;cases hh:n.has
 ·simp only[F37,hh,Aq];show some ([],B9 b)=some ([],B9 (b++[]));rw[Az]
 ·rw[hh]at hb;simp only[Ap]at hb;simp only[wOk,Aw,Ax,Ay]at hb;simp(disch:=first|assumption|decide|(simp only[wOk,Aw,B7,Bb,Ba,Az,Ax,Ay];omega))only[F37,gd,hh,Ap,p86 hn,oS1,gS1,p27,J1,F3,X5,Be,C9,Bb,Ba,Az]
theorem C4v(hb:wOk b [32,32]):A1b 1 b=some ([],B9 (b++bI [32,32])):=by
 have e:F47 [32,32] 1=some (.one (.str [32,32])):=by kernel_rfl
 simp only[wOk,Aw,Ax,Ay]at hb;simp(disch:=first|assumption|decide|(simp only[wOk,Aw,B7,Bb,Ba,Az,Ax,Ay];omega))only[A1b,gd,e,oS1,gS1,p27,J1,F3,Ap,X5,Be,C9,Bb,Ba,Az]
theorem D6J(hb:wOk b []):A1b 0 b=some ([],B9 b):=by
 have e:F47 [32,32] 0=some (.one (.str [])):=by kernel_rfl
 simp only[wOk,Aw,Ax,Ay]at hb;simp(disch:=first|assumption|decide|(simp only[wOk,Aw,B7,Bb,Ba,Az,Ax,Ay];omega))only[A1b,gd,e,oS1,gS1,p27,J1,F3,Ap,X5,Be,C9,Bb,Ba,Az];simp[bI]
theorem B44{n:G3}(hn:P2 n)(hb:wOk b (I1 n [10,32,32])):A4k n 1 b=some ([],B9 (b++bI (I1 n [10,32,32]))):=by
 have uk:=λb hb=>p37 (b:=b) (g:=[10]) hn hb;simp only[I1]at hb uk ⊢;cases hh:n.has
 ·simp only[A4k,hh,Aq];show some ([],B9 b)=some ([],B9 (b++[]));rw[Az]
 ·rw[hh]at hb;simp only[hh,Ap]at hb uk;simp only[wOk,Aw,Ax,Ay]at hb;simp(disch:=first|assumption|decide|(simp only[wOk,Aw,B7,Bb,Ba,Az,Ax,Ay];omega))only[A4k,gd,hh,Ap,uk,C4v,J1,F3,X5,Be,C9,Bb,Ba,Az];rfl
theorem D0a{l:List H0}{k2:Int->Int->Bool->Aa->Option R}(hl:GL A43 l)(hb:wOk b (jn 0 (l.map W3))):A2t NN l b0 NN (l.length:Int) ((0:Nat):Int) b k2=k2 (l.length:Int) (l.length:Int) false (b++bI (jn 0 (l.map W3))):=by
 rw[<-B0C]at hb ⊢;refine wl _ (λn i buf=>A2t NN l b0 n (l.length:Int) (i:Int) buf k2) (λbuf=>k2 (l.length:Int) (l.length:Int) false buf) hl.1 (λn buf=>?_) (λn i x buf hx hi hm hb=>?_) hb
 ·show A2t NN l b0 (n+1) (l.length:Int) (l.length:Int) buf k2=_;unfold A2t;simp only[B6g,dge,Aq]
 ·have hg:=(hl.2 x hm).2;have hc:=B2e i;have eL:LitT.mk x.value.kind x.value.text x.value.block x.value.items x.value.fields ⟨x.value.pos.line,x.value.pos.col⟩=x.value:=LitT.eta x.value;simp only[W3]at hb;simp only[wOk,Aw,Ax,Ay]at hb
  conv=>lhs;unfold A2t
  simp(disch:=first|assumption|decide|(simp only[wOk,Aw,B7,Bb,Ba,Az,Ax,Ay];omega))only[B6g,gd,dlt hi,E1,hx,Ap,C36,p27,eL,C4T,J1,F3,N6 hl.1 hi];simp only[W3,Be,C9,Bb,Ba,Az]
theorem C6l{l:List H0}(hl:GL A43 l)(hb:wOk b (A2Y l)):A8X l b=some ([],B9 (b++bI (A2Y l))):=by
 by_cases h0:l=[]
 ·subst h0;show some ([],B9 b)=some ([],B9 (b++[]));rw[Az]
 ·unfold A2Y at hb ⊢;rw[At h0]at hb ⊢;simp only[wOk,Aw,Ax,Ay]at hb;simp(disch:=first|assumption|decide|(simp only[wOk,Aw,B7,Bb,Ba,Az,Ax,Ay];omega))only[A8X,B60,gd,A7J h0,Aq,p27,J1,F3,Ap,Be,C9,Bb,Ba,Az];refine(D0a hl (by simp only[wOk,Aw,B7,Ax,Ay];omega)).trans ?_;simp(disch:=first|assumption|decide|(simp only[wOk,Aw,B7,Bb,Ba,Az,Ax,Ay];omega))only[p27,J1,F3,Ap,X5,Be,C9,Bb,Ba,Az]
theorem p68{l:List D0}(hl:GL X4 l)(hb:wOk b (J5 l)):F68 l b=some ([],B9 (b++bI (J5 l))):=by
 have bG:∀(k2:Int->Int->Bool->Aa->Af),A2B NN l b NN (l.length:Int) ((0:Nat):Int) b k2=k2 (l.length:Int) (l.length:Int) false (b++bI (J5 l)):=λk2=>by
  unfold J5 at hb ⊢;rw[<-A4i Z9 l 0]at hb ⊢;refine wl _ (λn i buf=>A2B NN l b n (l.length:Int) (i:Int) buf k2) (λbuf=>k2 (l.length:Int) (l.length:Int) false buf) hl.1 (λn buf=>?_) (λn i x buf hx hi hm hb=>?_) hb
  ·show A2B NN l b (n+1) (l.length:Int) (l.length:Int) buf k2=_;unfold A2B;simp only[B40,dge,Aq]
  ·have hg:=(hl.2 x hm).2;simp only[Z9]at hb;simp only[wOk,Aw,Ax,Ay]at hb
   conv=>lhs;unfold A2B
   simp(disch:=first|assumption|decide|(simp only[wOk,Aw,B7,Bb,Ba,Az,Ax,Ay];omega))only[B40,gd,dlt hi,E1,hx,Ap,p27,C6l,J1,F3,N6 hl.1 hi];simp only[Z9,Be,C9,Bb,Ba,Az]
 exact bG _
theorem C4q{v:IvT}(hv:GIv v)(hb:wOk b (X7 v)):A1K v b=some ([],B9 (b++bI (X7 v))):=by
 obtain⟨g1,g2,g3,g4,g5⟩:=hv;simp only[X7,A2P]at hb;cases hh:v.hasDefault
 ·rw[hh]at hb;simp only[Aq]at hb;simp only[wOk,Aw,Ax,Ay]at hb;have e:∀x b,A7p false x b=some ([],B9 b):=λx b=>rfl;simp(disch:=first|assumption|decide|(simp only[wOk,Aw,B7,Bb,Ba,Az,Ax,Ay];omega))only[A1K,gd,hh,Ap,p18 g3,oS1,gS1,e,p27,p68 g5,J1,F3];simp only[X7,A2P,hh,Aq,X5,Be,C9,Bb,Ba,Az]
 ·rw[hh]at hb;simp only[Ap]at hb;simp only[wOk,Aw,Ax,Ay]at hb;have e:∀b,wOk b ([32,61,32]++prN DD v.dflt)->A7p true v.dflt b=some ([],B9 (b++bI ([32,61,32]++prN DD v.dflt))):=λb hb=>by
   simp only[wOk,Aw,Ax,Ay]at hb;simp(disch:=first|assumption|decide|(simp only[wOk,Aw,B7,Bb,Ba,Az,Ax,Ay];omega))only[A7p,gd,Ap,p27,C4T (g4 hh),J1,F3,X5,Be,C9,Bb,Ba,Az]
  simp(disch:=first|assumption|decide|(simp only[wOk,Aw,B7,Bb,Ba,Az,Ax,Ay];omega))only[A1K,gd,hh,Ap,p18 g3,oS1,gS1,B3n,e,p27,p68 g5,J1,F3];simp only[X7,A2P,hh,Ap,X5,Be,C9,Bb,Ba,Az]
theorem p88{l:List IvT}(hl:GL GIv l)(hb:wOk b (A0r l)):F88 l b=some ([],B9 (b++bI (A0r l))):=by
 have bG:∀(b b0:Aa)(k2:Int->Int->Bool->Aa->Af),wOk b (jn 0 (l.map A0b))->A2O NN l b0 NN (l.length:Int) ((0:Nat):Int) b k2=k2 (l.length:Int) (l.length:Int) false (b++bI (jn 0 (l.map A0b))):=λb b0 k2 hb=>by
  rw[<-B0C]at hb ⊢;refine wl _ (λn i buf=>A2O NN l b0 n (l.length:Int) (i:Int) buf k2) (λbuf=>k2 (l.length:Int) (l.length:Int) false buf) hl.1 (λn buf=>?_) (λn i x buf hx hi hm hb=>?_) hb
  ·show A2O NN l b0 (n+1) (l.length:Int) (l.length:Int) buf k2=_;unfold A2O;simp only[B6H,dge,Aq]
  ·have hg:=hl.2 x hm;have hn:=hg.1;have hc:=B2e i;have eL:LitT.mk x.dflt.kind x.dflt.text x.dflt.block x.dflt.items x.dflt.fields ⟨x.dflt.pos.line,x.dflt.pos.col⟩=x.dflt:=LitT.eta x.dflt;have ex:∀b,A1K (⟨⟨x.note.has,x.note.block,x.note.text⟩,x.name,⟨x.type_.name,x.type_.wrap⟩,x.hasDefault,x.dflt,x.dirs,⟨x.pos.line,x.pos.col⟩⟩:IvT) b=A1K x b:=λb=>rfl;have en:∀g b,F37 (⟨x.note.has,x.note.block,x.note.text⟩:G3) g b=F37 x.note g b:=λg b=>rfl;simp only[A0b]at hb;simp only[wOk,Aw,Ax,Ay]at hb
   conv=>lhs;unfold A2O
   simp(disch:=first|assumption|decide|(simp only[wOk,Aw,B7,Bb,Ba,Az,Ax,Ay];omega))only[B6H,gd,dlt hi,E1,hx,Ap,C36,eL,ex,en,p37 hn,C4q hg,J1,F3,N6 hl.1 hi];simp only[A0b,Be,C9,Bb,Ba,Az]
 by_cases h0:l=[]
 ·subst h0;show some ([],B9 b)=some ([],B9 (b++[]));rw[Az]
 ·unfold A0r at hb ⊢;rw[At h0]at hb ⊢;simp only[wOk,Aw,Ax,Ay]at hb;simp(disch:=first|assumption|decide|(simp only[wOk,Aw,B7,Bb,Ba,Az,Ax,Ay];omega))only[F88,B3I,gd,A7J h0,Aq,p27,J1,F3,Ap,Be,C9,Bb,Ba,Az];refine(bG _ _ _ (by simp only[wOk,Aw,B7,Ax,Ay];omega)).trans ?_;simp(disch:=first|assumption|decide|(simp only[wOk,Aw,B7,Bb,Ba,Az,Ax,Ay];omega))only[p27,J1,F3,Ap,X5,Be,C9,Bb,Ba,Az]
theorem p87{l:List E2}{m:Ab}(hl:GL GNm l)(hm:m.length=1)(hb:wOk b (nms [] ([32]++m++[32]) l)):F87 l m b=some ([],B9 (b++bI (nms [] ([32]++m++[32]) l))):=by
 have bG:∀(k2:Int->Int->Bool->Aa->Af),A24 NN l m b NN (l.length:Int) ((0:Nat):Int) b k2=k2 (l.length:Int) (l.length:Int) false (b++bI (nms [] ([32]++m++[32]) l)):=λk2=>by
  rw[C0K]at hb ⊢;refine wl _ (λn i buf=>A24 NN l m b n (l.length:Int) (i:Int) buf k2) (λbuf=>k2 (l.length:Int) (l.length:Int) false buf) hl.1 (λn buf=>?_) (λn i x buf hx hi hm hb=>?_) hb
  ·show A24 NN l m b (n+1) (l.length:Int) (l.length:Int) buf k2=_;unfold A24;simp only[B0N,dge,Aq]
  ·conv=>lhs;unfold A24
   by_cases h0:i=0
   ·subst h0;simp only[if_true,Bo]at hb;simp only[wOk,Aw,Ax,Ay]at hb;simp(disch:=first|assumption|decide|(simp only[wOk,Aw,B7,Bb,Ba,Az,Ax,Ay];omega))only[B0N,gd,dlt hi,E1,hx,Ap,Aq,show decide (((0:Nat):Int)>0)=false from rfl,p27,J1,F3,N6 hl.1 hi];simp only[if_true,Bo,Be,C9,Bb,Ba,Az]
   ·rw[At h0]at hb ⊢;simp only[wOk,Aw,Ax,Ay]at hb;simp(disch:=first|assumption|decide|(simp only[wOk,Aw,B7,Bb,Ba,Az,Ax,Ay];omega))only[B0N,gd,dlt hi,E1,hx,Ap,show decide (((i:Nat):Int)>0)=true from Ar (by omega),p27,J1,F3,N6 hl.1 hi];simp only[Be,C9,Bb,Ba,Az]
 exact bG _
def GP:PartT->Prop
 | .sel _=>False
 | .root r=>GRd r
 | .field f=>GFd f
 | .value v=>GVd v
 | .input v=>GIv v
def prP:PartT->Ab
 | .sel _=>[]
 | .root r=>U8 r
 | .field f=>W1 f
 | .value v=>W8 v
 | .input v=>N8 v
theorem f66{k:Int}(h:k=1\/k=2\/k=3):F66 k=some (.one (.str (opW k))):=by
 rcases h with h|h|h<;>subst h<;>rfl
theorem pFI{g:SelT->Int->Aa->Af}{x:PartT}(h:GP x)(hb:wOk b (prP x)):∃s,prP x=[32,32]++s/\∀b',b'.length=b.length+2->FI g x 1 b'=some ([],B9 (b'++bI s)):=by
 cases x with
 |sel s=>exact h.elim
 |root r=>
  have h:GRd r:=h;refine⟨opW r.op++[58,32]++r.type_,by show U8 r=_;simp only[U8,Be],λb' hl=>?_⟩;have hb:wOk b (U8 r):=hb;simp only[U8]at hb;simp only[wOk,Aw,Ax,Ay]at hb;have yS:=f66 h.1;simp(disch:=first|assumption|decide|(simp only[wOk,Aw,B7,Bb,Ba,Az,Ax,Ay];omega))only[FI,B0v,gd,yS,oS1,gS1,p27,J1,F3,Ap,X5,Be,C9,Bb,Ba,Az]
 |field f=>
  have h:GFd f:=h;obtain⟨g1,g2,g3,g4,g5⟩:=h;refine⟨I1 f.note [10,32,32]++f.name++A0r f.args++[58,32]++prT f.type_++J5 f.dirs,by show W1 f=_;simp only[W1,Be],λb' hl=>?_⟩;have hb:wOk b (W1 f):=hb;simp only[W1]at hb;simp only[wOk,Aw,Ax,Ay]at hb;simp(disch:=first|assumption|decide|(simp only[wOk,Aw,B7,Bb,Ba,Az,Ax,Ay];omega))only[FI,A9n,gd,B44 g1,p27,p88 g3,p18 g4,oS1,gS1,p68 g5,J1,F3,Ap,X5,Be,C9,Bb,Ba,Az]
 |value v=>
  have h:GVd v:=h;obtain⟨g1,g2,g5⟩:=h;refine⟨I1 v.note [10,32,32]++v.name++J5 v.dirs,by show W8 v=_;simp only[W8,Be],λb' hl=>?_⟩;have hb:wOk b (W8 v):=hb;simp only[W8]at hb;simp only[wOk,Aw,Ax,Ay]at hb;simp(disch:=first|assumption|decide|(simp only[wOk,Aw,B7,Bb,Ba,Az,Ax,Ay];omega))only[FI,B2l,gd,B44 g1,p27,p68 g5,J1,F3,Ap,X5,Be,C9,Bb,Ba,Az]
 |input v=>
  have h:GIv v:=h;refine⟨I1 v.note [10,32,32]++X7 v,by show N8 v=_;simp only[N8,Be],λb' hl=>?_⟩;have hb:wOk b (N8 v):=hb;simp only[N8]at hb;simp only[wOk,Aw,Ax,Ay]at hb;simp(disch:=first|assumption|decide|(simp only[wOk,Aw,B7,Bb,Ba,Az,Ax,Ay];omega))only[FI,B0q,gd,B44 h.1,C4q h,J1,F3,Ap,X5,Be,C9,Bb,Ba,Az]
theorem B9a:∀(l:Al),[10]++l.flatMap (λx=>prP x++[10])=l.flatMap (λx=>[10]++prP x)++[10]
 |[]=>rfl
 |x::r=>by
  have:=B9a r;rw[Ck,Ck,Be (prP x),this];simp only[Be]
def prB(l:Al):Ab:=if l=[]then []else [32,123]++l.flatMap (λx=>[10]++prP x)++[10,125]
theorem p63{l:Al}(hl:l.length<=4400000/\∀x∈l,GP x)(hb:wOk b (prB l)):F63 l 0 b=some ([],B9 (b++bI (prB l))):=by
 show B5s _ (S8 999999).2 l 0 b=_;generalize (S8 999999).1=g1;generalize (S8 999999).2=g2;have bG:∀(b b0:Aa)(k2:Int->Int->Bool->Aa->Af),wOk b (l.flatMap λx=>prP x++[10])->A2p NN g1 g2 l 0 b0 NN (l.length:Int) ((0:Nat):Int) b k2=k2 (l.length:Int) (l.length:Int) false (b++bI (l.flatMap λx=>prP x++[10])):=λb b0 k2 hb=>by
  rw[<-A4i _ l 0]at hb ⊢;refine wl _ (λn i buf=>A2p NN g1 g2 l 0 b0 n (l.length:Int) (i:Int) buf k2) (λbuf=>k2 (l.length:Int) (l.length:Int) false buf) hl.1 (λn buf=>?_) (λn i x buf hx hi hm hb=>?_) hb
  ·show A2p NN g1 g2 l 0 b0 (n+1) (l.length:Int) (l.length:Int) buf k2=_;unfold A2p;simp only[B5E,dge,Aq]
  ·simp only[wOk,Aw,Ax,Ay]at hb;obtain⟨s,e,ul⟩:=pFI (g:=g2) (b:=buf) (hl.2 x hm) (by unfold wOk;omega);have ul:=ul (buf++bI [32,32]) (by simp[B7]);rw[e]at hb ⊢;simp only[wOk,Aw,Ax,Ay]at hb
   conv=>lhs;unfold A2p
   simp(disch:=first|assumption|decide|(simp only[wOk,Aw,B7,Bb,Ba,Az,Ax,Ay];omega))only[B5E,gd,dlt hi,E1,hx,Ap,show Bh .i64 ((0:Int)+1)=1 from rfl,C4v,ul,p27,J1,F3,N6 hl.1 hi];simp only[Be,C9,Bb,Ba,Az]
 by_cases h0:l=[]
 ·subst h0;show some ([],B9 b)=some ([],B9 (b++[]));rw[Az]
 ·have e:prB l=[32,123,10]++l.flatMap (λx=>prP x++[10])++[125]:=by
   have:=B9a l;unfold prB;rw[At h0,show([32,123,10]:Ab)=[32,123]++[10]from rfl,Be [32,123] [10],this];simp only[Be];rfl
  rw[e]at hb ⊢;simp only[wOk,Aw,Ax,Ay]at hb;simp(disch:=first|assumption|decide|(simp only[wOk,Aw,B7,Bb,Ba,Az,Ax,Ay];omega))only[B5s,B5D,gd,A7J h0,Aq,p27,J1,F3,Ap,Be,C9,Bb,Ba,Az];refine(bG _ _ _ (by simp only[wOk,Aw,B7,Ax,Ay];omega)).trans ?_;simp(disch:=first|assumption|decide|(simp only[wOk,Aw,B7,Bb,Ba,Az,Ax,Ay];omega))only[D6J,p27,J1,F3,Ap,X5,Be,C9,Bb,Ba,Az]
end
section
variable {T:Ah}{D:Int}{st:Ag}{i j:Nat}{o:Int}{t:A0}{d:A6}{k:Int}{x:Bool}{n:G3}{nm:Ab}{pos:A7}{ifs mbs:List E2}{ds:List D0}
def Res(T:Ah)(D:Int)(st:Ag)(i:Nat)(o:Int)(k:Int)(x:Bool)(n:G3)(r:Af):Prop:=
 ∃(d:A6)(j:Nat),r=some ([.agg .sys d],rd T j)/\Ac T D st j o/\i<=j/\O9 d/\d.kind=k/\d.note=n/\d.extd=x/\lq (d.name.length+(T1 d).length) i j
theorem B4i{m c:Nat}(h:m<=1100000)(hc:c<=1000):A2 (m+1) c=true:=by
 have h0:m+1<=1100001:=Nat.succ_le_succ h;have h1:(m+1)*c<=1100001*1000:=Ei h0 hc;unfold A2;apply Ar;generalize (m+1)*c=z at*;clear h h0 hc;omega
theorem A6m(e:F85 T (i:Int) ⟨k,x,n,nm,ifs,ds,[],[],mbs,[],[],false,[],pos⟩=some ([],rd T j++[bxS d])):w36 k x n nm pos ifs ds mbs T (i:Int)=some ([.agg .sys d],rd T j):=by
 unfold w36;rw[e];show _=_;kernel_rfl
theorem A7R(h5:(k==5)=false)(e:F84 T (i:Int)=some ([.sl .dir ds (some 1)],rd T j)):d36 k x n nm pos ifs T (i:Int)=w36 k x n nm pos ifs ds [] T (j:Int):=by
 simp only[d36,rk_,kT,gd,e,kd,qd,rd0,rd1,h5,Ap,Aq];rfl
theorem A6H(h:d.kind≠8):(T1 d).length<=(if d.ifaces=[]then 0 else 12)+sl S3 d.ifaces+(J5 d.dirs).length+((if d.members=[]then 0 else 3)+sl S3 d.members)+(R3 d).length:=by
 have h1:=B3r (lead:=A4m) (m:=[32,38,32]) rfl d.ifaces;have h2:=B3r (lead:=[32,61,32]) (m:=[32,124,32]) rfl d.members;have h1:_<=(if d.ifaces=[]then 0 else 12)+sl S3 d.ifaces:=h1;have h2:_<=(if d.members=[]then 0 else 3)+sl S3 d.members:=h2;unfold T1;rw[At h];simp only[Aw];omega
theorem A6Z{A B:Ag}(tw:TW T)(hD:D<=200)(h0:0<=o)(h1:o<=D)(hk:(k !=1)=true)(c:Ac T D (C2::A) i o\/Ac T D (C2::B) i o):
  ∃(nm:Ab)(kA:A7),nm.length<=8400000/\n36 k x n pos T (i:Int)=t36 k x n nm kA T ((i+1:Nat):Int)/\(Ac T D A (i+1) o\/Ac T D B (i+1) o):=by
 have go:∀A,Ac T D (C2::A) i o->∃(nm:Ab)(kA:A7),nm.length<=8400000/\n36 k x n pos T (i:Int)=t36 k x n nm kA T ((i+1:Nat):Int)/\Ac T D A (i+1) o:=λA c=>by
  obtain⟨t,ht,dy,_,hl,e,c1⟩:=A0T tw c (by kernel_rfl) h0 h1 hD;refine⟨t.text,t.pos,dy.1,?_,c1⟩;unfold n36 rk_ kT;rw[hk];simp only[e,gd,Ap];rfl
 rcases c with c|c
 ·obtain⟨nm,p,a,b,c⟩:=go A c;exact⟨nm,p,a,b,.inl c⟩
 ·obtain⟨nm,p,a,b,c⟩:=go B c;exact⟨nm,p,a,b,.inr c⟩
theorem D8k(tw:TW T)(hD:D<=200)(h0:0<=o)(h1:o<=D)(gn:P2 n)(c:Ac T D (D7::A1a::st) i o\/Ac T D (A57::st) i o):Res T D st i o 1 x n (n36 1 x n pos T (i:Int)):=by
 have c:Bd T D A9c A1a st i o:=c.elim (λc=>.inr (.inl c)) (xb tw (by kernel_rfl) (λB=>C6Y));obtain⟨ds,j,e,cb,hj,g1,l1⟩:=A96 tw hD h0 h1 (by kernel_rfl) (λB=>C7w) (λB=>D2q) c;obtain⟨a,j2,e2,c2,h2,g2,l2⟩:=B2V (G:=GRd) (p:=U8) tw hD h0 h1 (λa=>⟨1,x,n,[],[],ds,[],[],[],[],a,false,[],pos⟩) (.inl rfl) (by kernel_rfl) (λB=>D84) (by kernel_rfl) (λa i ha c ho=>D4G tw hD (by omega) ho rfl (B4i ha (by decide)) c) cb;refine⟨_,j2,(A7R rfl e).trans (A6m e2),c2,by omega,{nt:=gn,nm:=Bw _,ds:=g1,k1:=λ_=>rfl,rds:=g2},rfl,rfl,rfl,(l1.comp l2).le ?_⟩;have h1:=B0d (p:=U8) (a:=a) (d:=⟨1,x,n,[],[],ds,[],[],[],[],a,false,[],pos⟩) (by simp[lns]);have h2:=A6H (d:=⟨1,x,n,[],[],ds,[],[],[],[],a,false,[],pos⟩) (by intro h;cases h);have h2:_<=0+0+(J5 ds).length+(0+0)+_:=h2;show 0+_<=_;omega
theorem C86(tw:TW T)(hD:D<=200)(h0:0<=o)(h1:o<=D)(gn:P2 n)(c:Ac T D (C2::D7::st) i o\/Ac T D (C2::M5::D7::st) i o):Res T D st i o 2 x n (n36 2 x n pos T (i:Int)):=by
 obtain⟨nm,pos,hn,e0,c⟩:=A6Z (x:=x) (n:=n) (pos:=pos) (k:=2) tw hD h0 h1 rfl c;obtain⟨ds,j,e,cb,hj,g1,l1⟩:=A7O tw hD h0 h1 (c.elim .inl λc=>.inr (.inl c));have e2:F85 T (j:Int) ⟨2,x,n,nm,[],ds,[],[],[],[],[],false,[],pos⟩=some ([],rd T j++[bxS ⟨2,x,n,nm,[],ds,[],[],[],[],[],false,[],pos⟩]):=by kernel_rfl
 refine⟨_,j,(e0.trans (A7R rfl e)).trans (A6m e2),cb,by omega,{nt:=gn,nm:=hn,ds:=g1},rfl,rfl,rfl,((lq.tok (n:=nm.length) (Bn i) (by omega)).comp l1).le ?_⟩;have h2:=A6H (d:=⟨2,x,n,nm,[],ds,[],[],[],[],[],false,[],pos⟩) (by intro h;cases h);have h2:_<=0+0+(J5 ds).length+(0+0)+0:=h2;show nm.length+_<=_;omega
theorem D5J(tw:TW T)(hD:D<=200)(h0:0<=o)(h1:o<=D)(c:Ac T D (A1C::D7::T8::st) i o\/Ac T D (A1h::st) i o):
  ∃(ifs:List E2)(j:Nat),i36 true k x n nm pos T (i:Int)=d36 k x n nm pos ifs T (j:Int)/\Bd T D T8 A34 st j o/\i<=j/\GL GNm ifs/\lq ((if ifs=[]then 0 else 12)+sl S3 ifs) i j:=by
 have c:Ac T D (A4o::D7::T8::st) i o\/(∃t,T[i]?=some t/\Bt t A2N=false/\Bd T D T8 A34 st i o):=by
  rcases c with c|c
  ·obtain⟨t,ht,hk,hl,c1,c2⟩:=c.rl tw (by kernel_rfl);rw[D7a]at c1 c2;cases hb:Bt t A2N with
   |true=>rw[hb]at c2;exact .inl c2
   |false=>rw[hb]at c2;exact .inr ⟨t,ht,hb,.inl (.inl c2)⟩
  ·obtain⟨t,ht,hk,hl,c1,c2⟩:=c.rl tw (by kernel_rfl);rw[D2t]at c1 c2;cases hb:Bt t A2N with
   |true=>rw[hb]at c2;exact .inl c2
   |false=>
    rw[hb]at c1 c2;cases ha:Bt t R8 with
    |true=>rw[ha]at c2;exact .inr ⟨t,ht,hb,.inl (.inr (.inl c2))⟩
    |false=>
     rw[ha]at c1 c2;cases hc:Bt t H1 with
     |false=>rw[hc]at c1;cases c1
     |true=>rw[hc]at c2;exact .inr ⟨t,ht,hb,.inr (.inr (.inr ⟨c2,t,ht,ha⟩))⟩
 rcases c with c|⟨t,ht,hb,c⟩
 ·obtain⟨t,ht,hk,hb,hl,_,c1⟩:=A4l tw c (by kernel_rfl) (λB=>D7N) (by kernel_rfl) h0 h1 hD;have e1:F79 [105,109,112,108,101,109,101,110,116,115] T (i:Int)=some ([.bool true],rd T (i+1)):=by rw[O5 tw C47 ht,hb];rfl
  obtain⟨ifs,j,e2,c2,hj,g1,g2,l1⟩:=B6u tw hD h0 h1 c1 D57 (by kernel_rfl) (by kernel_rfl) (by kernel_rfl) (λB=>C8U) (λB=>C5I);refine⟨ifs,j,?_,.inl (.inl c2),by omega,g1,(lq.tok (n:=12) (Bn i) (by omega)).comp l1|>.le (by split<;>omega)⟩;simp only[i36,rk_,kT,gd,e1,kb,qb,rd0,rd1,e2,kN,qN,Ap,beq_self_eq_true]
 ·have e1:F79 [105,109,112,108,101,109,101,110,116,115] T (i:Int)=some ([.bool false],rd T i):=by rw[O5 tw C47 ht,hb];rfl
  refine⟨[],i,?_,c,Bi _,GL.nil,lq.nil (Bi _)⟩;simp only[i36,rk_,kT,gd,e1,kb,qb,rd0,rd1,Ap,Aq,beq_self_eq_true]
theorem B7B(hk:k=3\/k=4)(tw:TW T)(hD:D<=200)(h0:0<=o)(h1:o<=D)(gn:P2 n)(c:Ac T D (C2::A1C::D7::T8::st) i o\/Ac T D (C2::A1h::st) i o):Res T D st i o k x n (n36 k x n pos T (i:Int)):=by
 obtain⟨nm,pos,hn,e0,c⟩:=A6Z (x:=x) (n:=n) (pos:=pos) (k:=k) tw hD h0 h1 (by rcases hk with h|h<;>subst h<;>rfl) c;obtain⟨ifs,i2,e1,c,hi,g0,l0⟩:=D5J (k:=k) (x:=x) (n:=n) (nm:=nm) (pos:=pos) tw hD h0 h1 c;obtain⟨ds,j,e,cb,hj,g1,l1⟩:=A96 tw hD h0 h1 (by kernel_rfl) (λB=>D20) (λB=>D0D) c;obtain⟨a,j2,e2,c2,h2,g2,l2⟩:=B2V (G:=GFd) (p:=W1) tw hD h0 h1 (λa=>⟨k,x,n,nm,ifs,ds,a,[],[],[],[],false,[],pos⟩) (hk.elim (λh=>.inr (.inl h)) λh=>.inr (.inr (.inl h))) (by kernel_rfl) (λB=>D6C) (by kernel_rfl) (λa i ha c ho=>C9u tw hD (by omega) ho hk (B4i ha (by decide)) c) cb;refine⟨_,j2,((e0.trans (by rcases hk with h|h<;>subst h<;>rfl)).trans e1).trans ((A7R (by rcases hk with h|h<;>subst h<;>rfl) e).trans (A6m e2)),c2,by omega,{nt:=gn,nm:=hn,ds:=g1,kd:=⟨by show 1<=k;omega,by show k<=8;omega⟩,k1:=λh=>(by have h:k=1:=h;omega),ifs:=g0,fds:=g2,k34:=λh3 h4=>(hk.elim (λh=>absurd h h3) λh=>absurd h h4),k8:=λh=>(by have h:k=8:=h;omega),k7:=λh=>(by have h:k=7:=h;omega)},rfl,rfl,rfl,((lq.tok (n:=nm.length) (Bn i) (by omega)).comp (l0.comp (l1.comp l2))).le ?_⟩;have h1:=B0d (p:=W1) (a:=a) (d:=⟨k,x,n,nm,ifs,ds,a,[],[],[],[],false,[],pos⟩) (by simp[lns]);have h2:=A6H (d:=⟨k,x,n,nm,ifs,ds,a,[],[],[],[],false,[],pos⟩) (by show k≠8;omega);have h2:_<=(if ifs=[]then 0 else 12)+sl S3 ifs+(J5 ds).length+(0+0)+_:=h2;show nm.length+_<=_;omega
theorem D0H(tw:TW T)(hD:D<=200)(h0:0<=o)(h1:o<=D)(gn:P2 n)(c:Ac T D (C2::D7::A26::st) i o\/Ac T D (C2::A7d::st) i o):Res T D st i o 5 x n (n36 5 x n pos T (i:Int)):=by
 obtain⟨nm,ps,hn,e0,c⟩:=A6Z (x:=x) (n:=n) (pos:=pos) (k:=5) tw hD h0 h1 rfl c;have c:Bd T D A26 A4e st (i+1) o:=c.elim (λc=>.inl (.inl c)) (xb tw (by kernel_rfl) (λB=>D0W));have cd:∃(ds:List D0)(j:Nat),F84 T ((i+1:Nat):Int)=some ([.sl .dir ds (some 1)],rd T j)/\(Ac T D (A4e::st) j o\/(Ac T D st j o/\∃t,T[j]?=some t/\Bt t A0l=false))/\i+1<=j/\GL X4 ds/\lq (J5 ds).length (i+1) j:=by
  rcases c with c|c
  ·obtain⟨ds,j,e,c,r⟩:=A7O tw hD h0 h1 c;refine⟨ds,j,e,?_,r⟩;obtain⟨t,ht,hk,hl,c1,c2⟩:=c.rl tw (by kernel_rfl);rw[D6I]at c1 c2;cases hb:Bt t A0l with
   |true=>rw[hb]at c2;exact .inl c2
   |false=>rw[hb]at c2;exact .inr ⟨c2,t,ht,hb⟩
  ·obtain⟨ds,j,e,c,r⟩:=A7O tw hD h0 h1 c;exact⟨ds,j,e,.inl c,r⟩
 obtain⟨ds,j,e,c,hj,g1,l1⟩:=cd;have cj:∀(mbs:List E2)(j':Nat),d36 5 x n nm ps [] T ((i+1:Nat):Int)=w36 5 x n nm ps [] ds mbs T (j':Int)->Ac T D st j' o->j<=j'->GL GNm mbs->lq ((if mbs=[]then 0 else 3)+sl S3 mbs) j j'->Res T D st i o 5 x n (n36 5 x n pos T (i:Int)):=λmbs j' e3 c2 h2 g2 l2=>by
  have e2:F85 T (j':Int) ⟨5,x,n,nm,[],ds,[],[],mbs,[],[],false,[],ps⟩=some ([],rd T j'++[bxS ⟨5,x,n,nm,[],ds,[],[],mbs,[],[],false,[],ps⟩]):=by kernel_rfl
  refine⟨_,j',(e0.trans e3).trans (A6m e2),c2,by omega,{nt:=gn,nm:=hn,ds:=g1,mbs:=g2,k5:=λh=>absurd rfl h},rfl,rfl,rfl,((lq.tok (n:=nm.length) (Bn i) (by omega)).comp (l1.comp l2)).le ?_⟩;have h2:=A6H (d:=⟨5,x,n,nm,[],ds,[],[],mbs,[],[],false,[],ps⟩) (by intro h;cases h);have h2:_<=0+0+(J5 ds).length+((if mbs=[]then 0 else 3)+sl S3 mbs)+0:=h2;show nm.length+_<=_;omega
 rcases c with c|⟨c,t,ht,hb⟩
 ·obtain⟨t,ht,hk,hb,hl,_,c1⟩:=A4l tw c (by kernel_rfl) (λB=>D4Z) (by kernel_rfl) h0 h1 hD;have e1:F79 [61] T (j:Int)=some ([.bool true],rd T (j+1)):=by rw[O5 tw B1t ht,hb];rfl
  obtain⟨mbs,j2,e2,c2,nH,g2,_,l2⟩:=B6u tw hD h0 h1 c1 C3R (by kernel_rfl) (by kernel_rfl) (by kernel_rfl) (λB=>D0V) (λB=>C4o);refine cj mbs j2 ?_ c2 (by omega) g2 (((lq.tok (n:=3) (Bn j) (by omega)).comp l2).le (by split<;>omega));simp only[d36,rk_,kT,gd,e,kd,qd,e1,kb,qb,rd0,rd1,e2,kN,qN,Ap,beq_self_eq_true]
 ·have e1:F79 [61] T (j:Int)=some ([.bool false],rd T j):=by rw[O5 tw B1t ht,hb];rfl
  have ln:lq ((if([]:List E2)=[]then 0 else 3)+sl S3 []) j j:=lq.nil (Bi j);refine cj [] j ?_ c (Bi _) GL.nil ln;simp only[d36,rk_,kT,gd,e,kd,qd,e1,kb,qb,rd0,rd1,Ap,Aq,beq_self_eq_true]
theorem D43(tw:TW T)(hD:D<=200)(h0:0<=o)(h1:o<=D)(gn:P2 n)(c:Ac T D (C2::D7::A2l::st) i o\/Ac T D (C2::A7j::st) i o):Res T D st i o 6 x n (n36 6 x n pos T (i:Int)):=by
 obtain⟨nm,pos,hn,e0,c⟩:=A6Z (x:=x) (n:=n) (pos:=pos) (k:=6) tw hD h0 h1 rfl c;have c:Bd T D A2l A5j st (i+1) o:=c.elim (λc=>.inl (.inl c)) (xb tw (by kernel_rfl) (λB=>D0E));obtain⟨ds,j,e,cb,hj,g1,l1⟩:=A96 tw hD h0 h1 (by kernel_rfl) (λB=>C63) (λB=>C9c) c;obtain⟨a,j2,e2,c2,h2,g2,l2⟩:=B2V (G:=GVd) (p:=W8) tw hD h0 h1 (λa=>⟨6,x,n,nm,[],ds,[],[],[],a,[],false,[],pos⟩) (.inr (.inr (.inr rfl))) (by kernel_rfl) (λB=>C6n) (by kernel_rfl) (λa i ha c ho=>D1D tw hD (by omega) ho rfl (B4i ha (by decide)) c) cb;refine⟨_,j2,(e0.trans (A7R rfl e)).trans (A6m e2),c2,by omega,{nt:=gn,nm:=hn,ds:=g1,vals:=g2,k7:=λh=>(by cases h)},rfl,rfl,rfl,((lq.tok (n:=nm.length) (Bn i) (by omega)).comp (l1.comp l2)).le ?_⟩;have h1:=B0d (p:=W8) (a:=a) (d:=⟨6,x,n,nm,[],ds,[],[],[],a,[],false,[],pos⟩) (by simp[lns]);have h2:=A6H (d:=⟨6,x,n,nm,[],ds,[],[],[],a,[],false,[],pos⟩) (by intro h;cases h);have h2:_<=0+0+(J5 ds).length+(0+0)+_:=h2;show nm.length+_<=_;omega
theorem D6q(tw:TW T)(hD:D<=200)(h0:0<=o)(h1:o<=D)(gn:P2 n)(c:Ac T D (C2::D7::A2R::st) i o\/Ac T D (C2::A6w::st) i o):Res T D st i o 7 x n (n36 7 x n pos T (i:Int)):=by
 obtain⟨nm,pos,hn,e0,c⟩:=A6Z (x:=x) (n:=n) (pos:=pos) (k:=7) tw hD h0 h1 rfl c;have c:Bd T D A2R A4Q st (i+1) o:=c.elim (λc=>.inl (.inl c)) (xb tw (by kernel_rfl) (λB=>D8U));obtain⟨ds,j,e,cb,hj,g1,l1⟩:=A96 tw hD h0 h1 (by kernel_rfl) (λB=>D6e) (λB=>C5C) c;obtain⟨a,j2,e2,c2,h2,g2,l2⟩:=C39 tw hD h0 h1 B3A B6O (by kernel_rfl) (by kernel_rfl) (by kernel_rfl) cb;have e3:F85 T (j:Int) ⟨7,x,n,nm,[],ds,[],[],[],[],[],false,[],pos⟩=some ([],rd T j2++[bxS ⟨7,x,n,nm,[],ds,[],a,[],[],[],false,[],pos⟩]):=by
  simp only[F85,B2A,c85,kT,gd,e2,ki,qi,rd0,rd1,Ap,beq_self_eq_true];rfl
 refine⟨_,j2,(e0.trans (A7R rfl e)).trans (A6m e3),c2,by omega,{nt:=gn,nm:=hn,ds:=g1,ivs:=g2,k78:=λh=>absurd rfl h},rfl,rfl,rfl,((lq.tok (n:=nm.length) (Bn i) (by omega)).comp (l1.comp l2)).le ?_⟩;have h1:=B0d (p:=N8) (a:=a) (d:=⟨7,x,n,nm,[],ds,[],a,[],[],[],false,[],pos⟩) (by simp[lns]);have h2:=A6H (d:=⟨7,x,n,nm,[],ds,[],a,[],[],[],false,[],pos⟩) (by intro h;cases h);have h2:_<=0+0+(J5 ds).length+(0+0)+_:=h2;show nm.length+_<=_;omega
theorem D4A(tw:TW T)(hD:D<=200)(h0:0<=o)(h1:o<=D)(gn:P2 n)(c:Ac T D (R8::C2::A2x::A6j::A7P::A39::A4K::A3u::st) i o):Res T D st i o 8 x n (rk_ [.bool] (F79 [64] T (i:Int)) (n36 8 x n pos)):=by
 obtain⟨e0,c⟩:=A4w B2n tw c (by kernel_rfl) h0 h1 hD;obtain⟨nm,kA,hn,e1,c⟩:=A6Z (x:=x) (n:=n) (pos:=pos) (k:=8) tw hD h0 h1 rfl (.inl c);obtain⟨vs,j,e2,c,hj,g1,l1⟩:=C0V tw hD h0 h1 (c.elim id id);obtain⟨b,j2,e3,c,h2,dw⟩:=B2G tw D54 (by kernel_rfl) (λB=>D0m) (by kernel_rfl) (by kernel_rfl) c h0 (by omega);obtain⟨e4,c⟩:=A4w D8y tw c (by kernel_rfl) h0 h1 hD;obtain⟨pl,j3,e5,c,h3,g2,g3,l2⟩:=B6u tw hD h0 h1 c C3R (by kernel_rfl) (by kernel_rfl) (by kernel_rfl) (λB=>D0q) (λB=>C4o);refine⟨⟨8,x,n,nm,[],[],[],vs,[],[],[],b,pl,kA⟩,j3,?_,c,by omega,{nt:=gn,nm:=hn,ds:=GL.nil,ivs:=g1,pls:=g2,k8:=λ_=>g3,k78:=λ_ h=>absurd rfl h},rfl,rfl,rfl,((lq.tok (n:=nm.length+15) (by omega:i<i+1+1) (by omega)).comp ((l1.le (C33 vs)).comp ((lq.nil (by omega:j<=j2+1)).comp l2))).le ?_⟩
 ·simp only[rk_,kT,gd,e0,kb,qb,rd0,rd1,Ap];rw[e1];simp only[t36,rk_,kT,gd,e2,ki,qi,e3,kb,qb,e4,e5,kN,qN,rd0,rd1,Ap,beq_self_eq_true];rfl
 ·have h4:=B3r (lead:=[32,111,110,32]) (m:=[32,124,32]) rfl pl;have h4:_<=(if pl=[]then 0 else 4)+sl S3 pl:=h4;have h5:(bif b then A29 else []).length<=11:=by cases b<;>decide
  show nm.length+(A0r vs++(bif b then A29 else [])++nms [32,111,110,32] [32,124,32] pl).length<=_;simp only[Aw];rw[At g3]at h4;omega
end
section
variable {T:Ah}{D:Int}{st:Ag}{i j:Nat}{o:Int}{t:A0}{d:A6}{k:Int}{x:Bool}{n:G3}
theorem C5Y{B:Ab->Bool}:ch B K9=bif B L5 then([L5,A0Q],true)else bif bg B 9 [A0Q]then([A0Q],true)else bif B A8Q then(A8Q::[A6o],true)else([],false):=by kernel_rfl
theorem C8w{B:Ab->Bool}:ch B R7=bif bg B 9 [K9,R7]then([K9,R7],true)else([],true):=by kernel_rfl
theorem D3B{B:Ab->Bool}:ch B A0d=bif bg B 9 [K9,R7,M8]then([K9,R7,M8],true)else([],false):=by kernel_rfl
theorem C8t{B:Ab->Bool}:ch B A0Q=bif B A13 then([A13,D7,A1a],true)else bif B A1k then([A1k,C2,D7],true)else bif B A1G then([A1G,C2,A1C,D7,T8],true)else bif B A1o then([A1o,C2,A1C,D7,T8],true)
 else bif B A1p then([A1p,C2,D7,A26],true)else bif B A1j then([A1j,C2,D7,A2l],true)else bif B A1M then([A1M,C2,D7,A2R],true)else bif B A86 then([A86,R8,C2,A2x,A6j,A7P,A39,A4K,A3u],true)else([],false):=by kernel_rfl
theorem D68{B:Ab->Bool}:ch B A6o=bif B A13 then([A13,A57],true)else bif B A1k then([A1k,C2,M5,D7],true)else bif B A1G then([A1G,C2,A1h],true)else bif B A1o then([A1o,C2,A1h],true)
 else bif B A1p then([A1p,C2,A7d],true)else bif B A1j then([A1j,C2,A7j],true)else bif B A1M then([A1M,C2,A6w],true)else([],false):=by kernel_rfl
def tkp(T:Ah)(i:Nat):A7:=(T[i]?.getD ⟨0,⟨0,0⟩,0,0,[],[]⟩).pos
theorem C7a(tw:TW T)(hD:D<=200)(h0:0<=o)(h1:o<=D)(gn:P2 n)(c:Ac T D (A0Q::st) i o\/Ac T D (A6o::st) i o):
  ∃t k,F80 T (i:Int)=some ([.agg .named ⟨t,tkp T i⟩],rd T (i+1))/\F81 t=some (.one (.int .i64 k))/\(((k==8)=false/\Res T D st (i+1) o k x n (n36 k x n (tkp T i) T ((i+1:Nat):Int)))\/((k==8)=true/\Res T D st (i+1) o k x n (rk_ [.bool] (F79 [64] T ((i+1:Nat):Int)) (n36 k x n (tkp T i))))):=by
 have w:∀(s:Ab)(A:Ag),(T7 s&&(br s==0))=true->(kt s).2=some (s.drop 1)->Ac T D (s::A) i o->F80 T (i:Int)=some ([.agg .named ⟨s.drop 1,tkp T i⟩],rd T (i+1))/\Ac T D A (i+1) o:=λs A hs hx c=>by
  obtain⟨t,ht,_,hb,_,e,c⟩:=A0T tw c hs h0 h1 hD;rw[(A3V hb).2 _ hx]at e;unfold tkp;rw[ht];exact⟨e,c⟩
 have iS:∀(s:Ab)(A B:Ag),(T7 s&&(br s==0))=true->(kt s).2=some (s.drop 1)->(Ac T D (s::A) i o\/Ac T D (s::B) i o)->F80 T (i:Int)=some ([.agg .named ⟨s.drop 1,tkp T i⟩],rd T (i+1))/\(Ac T D A (i+1) o\/Ac T D B (i+1) o):=λs A B hs hx c=>by
  rcases c with c|c
  ·obtain⟨a,b⟩:=w s A hs hx c;exact⟨a,.inl b⟩
  ·obtain⟨a,b⟩:=w s B hs hx c;exact⟨a,.inr b⟩
 have cs:(Ac T D (A13::D7::A1a::st) i o\/Ac T D (A13::A57::st) i o)\/(Ac T D (A1k::C2::D7::st) i o\/Ac T D (A1k::C2::M5::D7::st) i o)\/(Ac T D (A1G::C2::A1C::D7::T8::st) i o\/Ac T D (A1G::C2::A1h::st) i o)
   \/(Ac T D (A1o::C2::A1C::D7::T8::st) i o\/Ac T D (A1o::C2::A1h::st) i o)\/(Ac T D (A1p::C2::D7::A26::st) i o\/Ac T D (A1p::C2::A7d::st) i o)\/(Ac T D (A1j::C2::D7::A2l::st) i o\/Ac T D (A1j::C2::A7j::st) i o)
   \/(Ac T D (A1M::C2::D7::A2R::st) i o\/Ac T D (A1M::C2::A6w::st) i o)\/Ac T D (A86::R8::C2::A2x::A6j::A7P::A39::A4K::A3u::st) i o:=by
  rcases c with c|c
  ·obtain⟨t,ht,hk,hl,c1,c2⟩:=c.rl tw (by kernel_rfl);rw[C8t]at c1 c2;cases b1:Bt t A13<;>rw[b1]at c1 c2;cases b2:Bt t A1k<;>rw[b2]at c1 c2;cases b3:Bt t A1G<;>rw[b3]at c1 c2;cases b4:Bt t A1o<;>rw[b4]at c1 c2;cases b5:Bt t A1p<;>rw[b5]at c1 c2;cases b6:Bt t A1j<;>rw[b6]at c1 c2;cases b7:Bt t A1M<;>rw[b7]at c1 c2;cases b8:Bt t A86<;>rw[b8]at c1 c2
   ·cases c1
   ·exact .inr (.inr (.inr (.inr (.inr (.inr (.inr c2))))))
   ·exact .inr (.inr (.inr (.inr (.inr (.inr (.inl (.inl c2)))))))
   ·exact .inr (.inr (.inr (.inr (.inr (.inl (.inl c2))))))
   ·exact .inr (.inr (.inr (.inr (.inl (.inl c2)))))
   ·exact .inr (.inr (.inr (.inl (.inl c2))))
   ·exact .inr (.inr (.inl (.inl c2)))
   ·exact .inr (.inl (.inl c2))
   ·exact .inl (.inl c2)
  ·obtain⟨t,ht,hk,hl,c1,c2⟩:=c.rl tw (by kernel_rfl);rw[D68]at c1 c2;cases b1:Bt t A13<;>rw[b1]at c1 c2;cases b2:Bt t A1k<;>rw[b2]at c1 c2;cases b3:Bt t A1G<;>rw[b3]at c1 c2;cases b4:Bt t A1o<;>rw[b4]at c1 c2;cases b5:Bt t A1p<;>rw[b5]at c1 c2;cases b6:Bt t A1j<;>rw[b6]at c1 c2;cases b7:Bt t A1M<;>rw[b7]at c1 c2
   ·cases c1
   ·exact .inr (.inr (.inr (.inr (.inr (.inr (.inl (.inr c2)))))))
   ·exact .inr (.inr (.inr (.inr (.inr (.inl (.inr c2))))))
   ·exact .inr (.inr (.inr (.inr (.inl (.inr c2)))))
   ·exact .inr (.inr (.inr (.inl (.inr c2))))
   ·exact .inr (.inr (.inl (.inr c2)))
   ·exact .inr (.inl (.inr c2))
   ·exact .inl (.inr c2)
 rcases cs with c|c|c|c|c|c|c|c
 ·obtain⟨e,c⟩:=iS _ _ _ (by kernel_rfl) (by kernel_rfl) c;exact⟨_,1,e,by kernel_rfl,.inl ⟨rfl,D8k (pos:=tkp T i) tw hD h0 h1 gn c⟩⟩
 ·obtain⟨e,c⟩:=iS _ _ _ (by kernel_rfl) (by kernel_rfl) c;exact⟨_,2,e,by kernel_rfl,.inl ⟨rfl,C86 (pos:=tkp T i) tw hD h0 h1 gn c⟩⟩
 ·obtain⟨e,c⟩:=iS _ _ _ (by kernel_rfl) (by kernel_rfl) c;exact⟨_,3,e,by kernel_rfl,.inl ⟨rfl,B7B (.inl rfl) (pos:=tkp T i) tw hD h0 h1 gn c⟩⟩
 ·obtain⟨e,c⟩:=iS _ _ _ (by kernel_rfl) (by kernel_rfl) c;exact⟨_,4,e,by kernel_rfl,.inl ⟨rfl,B7B (.inr rfl) (pos:=tkp T i) tw hD h0 h1 gn c⟩⟩
 ·obtain⟨e,c⟩:=iS _ _ _ (by kernel_rfl) (by kernel_rfl) c;exact⟨_,5,e,by kernel_rfl,.inl ⟨rfl,D0H (pos:=tkp T i) tw hD h0 h1 gn c⟩⟩
 ·obtain⟨e,c⟩:=iS _ _ _ (by kernel_rfl) (by kernel_rfl) c;exact⟨_,6,e,by kernel_rfl,.inl ⟨rfl,D43 (pos:=tkp T i) tw hD h0 h1 gn c⟩⟩
 ·obtain⟨e,c⟩:=iS _ _ _ (by kernel_rfl) (by kernel_rfl) c;exact⟨_,7,e,by kernel_rfl,.inl ⟨rfl,D6q (pos:=tkp T i) tw hD h0 h1 gn c⟩⟩
 ·obtain⟨e,c⟩:=w _ _ (by kernel_rfl) (by kernel_rfl) c;exact⟨_,8,e,by kernel_rfl,.inr ⟨rfl,D4A (pos:=tkp T i) tw hD h0 h1 gn c⟩⟩
theorem C5J(k:Int):(hdW k).length<=11:=by
 unfold hdW;cases k==1<;>cases k==2<;>cases k==3<;>cases k==4<;>cases k==5<;>cases k==6<;>cases k==7<;>decide
theorem D2Q(tw:TW T)(hD:D<=200)(h0:0<=o)(h1:o<=D)(c:Ac T D (K9::st) i o):
  ∃d j,F36 T (i:Int)=some ([.agg .sys d],rd T j)/\Ac T D st j o/\i<j/\O9 d/\lq ((U9 d).length+2) i j:=by
 have hd:∃n i1 x i2,F78 T (i:Int)=some ([.agg .note n],rd T i1)/\F79 [101,120,116,101,110,100] T (i1:Int)=some ([.bool x],rd T i2)/\i<=i1/\i1<=i2/\P2 n/\lq (I1 n [10]).length i i1/\(Ac T D (A0Q::st) i2 o\/Ac T D (A6o::st) i2 o):=by
  obtain⟨t,ht,hk,hl,c1,c2⟩:=c.rl tw (by kernel_rfl);rw[C5Y]at c1 c2;obtain⟨n,e,g1,g2,g3⟩:=B5B tw ht;have nx:∀i,Ac T D (A0Q::st) i o->F79 [101,120,116,101,110,100] T (i:Int)=some ([.bool false],rd T i):=λi c=>by
   have ht:=Bl c.lt;rw[O5 tw B85 ht,B4b tw c (by kernel_rfl) h0 (by omega) ht];rfl
  have nl:Bt t L5=false->lq (I1 n [10]).length i i:=λh=>by unfold I1;rw[g3,h];exact lq.nil (Bi _)
  cases hb:Bt t L5 with
  |true=>
   rw[hb]at c2 e;obtain⟨_,_,_,_,_,_,c3⟩:=A0T tw c2 (by kernel_rfl) h0 h1 hD;exact⟨n,i+1,false,i+1,e,nx _ c3,by omega,Bi _,⟨g1,g2⟩,lq.tok (by omega) (B7x ⟨g1,g2⟩ (by decide)),.inl c3⟩
  |false=>
   rw[hb]at c1 c2 e;cases hc:bg (Bt t) 9 [A0Q]with
   |true=>rw[hc]at c2;exact⟨n,i,false,i,e,nx _ c2,Bi _,Bi _,⟨g1,g2⟩,nl hb,.inl c2⟩
   |false=>
    rw[hc]at c1 c2;cases hx:Bt t A8Q with
    |false=>rw[hx]at c1;cases c1
    |true=>
     rw[hx]at c2;obtain⟨_,_,_,_,_,_,c3⟩:=A0T tw c2 (by kernel_rfl) h0 h1 hD;exact⟨n,i,true,i+1,e,by rw[O5 tw B85 ht,hx];rfl,Bi _,Ce _,⟨g1,g2⟩,nl hb,.inr c3⟩
 obtain⟨n,i1,x,i2,e1,e2,l1,l2,gn,ln,c⟩:=hd;obtain⟨t,k,e3,e4,hr⟩:=C7a (x:=x) tw hD h0 h1 gn c;have hr:Res T D st (i2+1) o k x n (bif k==8 then rk_ [.bool] (F79 [64] T ((i2+1:Nat):Int)) (n36 k x n (tkp T i2))else n36 k x n (tkp T i2) T ((i2+1:Nat):Int)):=by
  rcases hr with⟨h,r⟩|⟨h,r⟩<;>rw[h]<;>exact r
 obtain⟨d,j,e5,c,hj,qJ,hk,hn,hx,lt⟩:=hr;refine⟨d,j,?_,c,by omega,qJ,(ln.comp ((lq.tok (n:=20) (by omega:i1<i2+1) (by omega)).comp lt)).le ?_⟩
 ·simp only[F36,rk_,kT,gd,e1,ko,qo,e2,kb,qb,e3,kn,qn,rd0,rd1,e4,oI,gI,Ap];exact e5
 ·have h1:=C5J d.kind;have h2:(bif d.extd then A2T else []).length<=7:=by cases d.extd<;>decide
  unfold U9;rw[hn];simp only[Aw];omega
theorem ks(x:A6):okB [.agg .sys] [[.sl .tok none,.int .i64]] (some ([.agg .sys x],rd T i))=true:=rfl
theorem qs(y:A6)(x:Ao):C4r (gB (some ([.agg .sys y],x)) 0)=y:=rfl
theorem C4u(tw:TW T)(hD:D<=200)(h0:0<=D){R:Type}{a0:Aa}{a1:Int}{k2:List A6->Bool->Ah->Int->Option R}{i0:Nat}:∀(n i:Nat)(ds:List A6),Rg O9 U9 ds i0 i->(Ac T D [R7,M8] i 0\/Ac T D [K9,R7,M8] i 0)->T.length<n+i->
  ∃(fO:List A6)(j:Nat),A2v NN a0 a1 n ds T (i:Int) k2=k2 fO false T (j:Int)/\j<T.length/\Rg O9 U9 fO i0 j
 |0,i,ds,_,c,hn=>by
  have:i<T.length:=c.elim Ac.lt Ac.lt;omega
 |n+1,i,ds,hi,c,hn=>by
  have kz:=tw.len;have go:Ac T D [K9,R7,M8] i 0->∃(fO:List A6)(j:Nat),A2v NN a0 a1 (n+1) ds T (i:Int) k2=k2 fO false T (j:Int)/\j<T.length/\Rg O9 U9 fO i0 j:=λc=>by
   have hl:=c.lt;have ht:T[i]?=some T[i]:=Bl hl;have hb:=B4b (z:=M8) tw c (by kernel_rfl) (Fh 0) (by omega) ht;have hk:(T[i].kind !=0)=true:=by
    have:Bt T[i] M8=(T[i].kind==0):=rfl;rw[this]at hb;rw[bne,hb];rfl
   obtain⟨d,j,e,c1,h2,h3,h4⟩:=D2Q tw hD (Fh 0) h0 c;obtain⟨fO,j',e',h5⟩:=C4u tw hD h0 (a0:=a0) (a1:=a1) (k2:=k2) (i0:=i0) n j (ds++[d]) (hi.add h3 h2 h4) (.inl c1) (by omega);refine⟨fO,j',?_,h5⟩;rw[<-e'];have hr:A2 (Bg ds+1) 272=true:=hi.rm (by omega) (by omega)
   conv=>lhs;unfold A2v
   simp only[B3s,E1,ht,hk,gd,e,ks,qs,rd0,rd1,hr,Ap]
  rcases c with c|c
  ·obtain⟨t,ht,hk,hl,c1,c2⟩:=c.rl tw (by kernel_rfl);rw[C8w]at c1 c2;cases hb:bg (Bt t) 9 [K9,R7]with
   |true=>rw[hb]at c2;exact go (by simpa using c2)
   |false=>
    rw[hb]at c2;obtain⟨t',dF,aY,_⟩:=Ac.term (s:=M8) (st:=[]) (by simpa using c2) (by kernel_rfl) (by decide);rw[ht]at dF;cases dF;have hk:(t.kind !=0)=false:=by
     have h0:Bt t M8=(t.kind==0):=rfl;rw[h0]at aY;rw[bne,aY];rfl
    refine⟨ds,i,?_,hl,hi⟩;unfold A2v;simp only[B3s,E1,ht,hk,Aq]
  ·exact go c
theorem D6h(tw:TW T){a0:Aa}{a1:Int}(qL:F24 a0=some (.one (.sl .tok T (some 1)))):∃(l:List A6)(n:Ak)(f:A0F),F11 a0 a1=some (.tup [.sl .sys l n,.agg .fault f])/\(f.kind=0->GL O9 l/\lq (sl U9 l) 0 1100000):=by
 have kz:=tw.len;obtain⟨D,h0,hD,hF⟩:∃D:Int,0<=D/\D<=200/\F11 a0 a1=gd (okR [.int .i64,.agg .pos] (F33 RU [68,79,67] T D)) (bif(lI (gL (F33 RU [68,79,67] T D) 0) !=0)then some (.tup [.sl .sys [] none,.agg .fault (⟨lI (gL (F33 RU [68,79,67] T D) 0),[B7O (gL (F33 RU [68,79,67] T D) 1)],[]⟩:A0F)])
   else(A2v NN a0 a1 NN [] T ((0:Nat):Int) (λz6 z7 z8 z9=>some (.tup [.sl .sys z6 (some 1),.agg .fault (⟨0,[],[]⟩:A0F)])))):=by
  have g1:okR [.sl .tok (some 1)] (some (.one (.sl .tok T (some 1))):Ad)=true:=rfl;have g2:A4U (gL (some (.one (.sl .tok T (some 1))):Ad) 0)=T:=rfl;have g3:okR [.sl .str (some 1)] F35=true:=by kernel_rfl
  have g4:okR [.sl .rule (some 1)] (some (.one (.sl .rule RU (some 1))):Ad)=true:=rfl;have g5:C3c (gL (some (.one (.sl .rule RU (some 1))):Ad) 0)=RU:=rfl;by_cases h1:a1<0
  ·refine⟨0,by omega,by omega,?_⟩;simp only[F11,A8v,d11,c11,Ar h1,Ap,Aq,qL,g1,g2,g3,B3F,g4,g5,gd];rfl
  ·by_cases h2:a1>200
   ·refine⟨200,by omega,by omega,?_⟩;simp only[F11,A8v,d11,c11,As h1,Ar h2,Ap,Aq,qL,g1,g2,g3,B3F,g4,g5,gd];rfl
   ·refine⟨a1,by omega,by omega,?_⟩;simp only[F11,A8v,d11,c11,As h1,As h2,Ap,Aq,qL,g1,g2,g3,B3F,g4,g5,gd];rfl
 obtain⟨k,p,um,hk⟩:=D3u (D:=D) tw;have um:F33 RU [68,79,67] T D=some (.tup [.int .i64 k,.agg .pos p]):=um;rw[hF,um];by_cases jf:k=0
 ·subst jf;have c:=hk rfl;obtain⟨t,ht,_,hl,c1,c2⟩:=c.rl tw (by kernel_rfl);rw[D3B]at c1 c2;cases hb:bg (Bt t) 9 [K9,R7,M8]with
  |false=>rw[hb]at c1;cases c1
  |true=>
   rw[hb]at c2;obtain⟨ds,j,e,hj,g⟩:=C4u tw hD h0 (R:=E6) (a0:=a0) (a1:=a1) (k2:=λz6 z7 z8 z9=>some (.tup [.sl .sys z6 (some 1),.agg .fault (⟨0,[],[]⟩:A0F)])) (i0:=0) NN 0 [] Rg.nil (.inr (by simpa using c2)) (by rw[NNv];omega);refine⟨ds,some 1,⟨0,[],[]⟩,e,λ_=>⟨g.gl (by omega),(g.2.2.comp (lq.nil (by omega:j<=1100000))).le (Bi _)⟩⟩
 ·refine⟨[],none,⟨k,[p],[]⟩,?_,λh=>absurd h jf⟩;have:(k !=0)=true:=by simpa using jf
  show gd true (bif(k !=0)then _ else _)=_;rw[this];rfl
end
def F7:Ad:=some (.one (.bool true))
def S7:S1T
 |[]=>pR [.bool] F7
 |_=>none
end Go.Aev
namespace Go.Aev
open Go.Proofs
def E4:Env Ty6 A4:=mkE [(7,S7),(11,S11),(12,S12),(13,S13)] [] noD 25 [6] 0 [] []
def F4(a0:Aa)(a1:Int):Ad:=gd (okR [.bool] F7) (bif(!(lB (gL F7 0)))then(some (.one (.bool false)))else(gd (okR [.slc .sys,.agg .fault] (F11 a0 a1)) (let z1:=(C1v (gL (F11 a0 a1) 0));bif(((C0o (gL (F11 a0 a1) 1)).kind) !=0)==false then(gd (okR [.str] (F12 z1)) (gd (okR [.str] (F13 z1)) (some (.one (.bool ((lS (gL (F12 z1) 0))==(lS (gL (F13 z1) 0))))))))else(some (.one (.bool true))))))
theorem ev4{a0:Aa}{a1:Int}:A3 E4 NN Tryz.f4 [.sl .u8 a0 none,.int .i64 a1]=F4 a0 a1:=by kernel_rfl
def S4:S1T
 |[.sl .u8 a0 none,.int .i64 a1]=>pR [.bool] (F4 a0 a1)
 |_=>none
end Go.Aev
namespace Go.Aev
section
variable {R:Type}{b b0:Aa}{d:A6}
theorem C4n{α:Type}{l:List α}(f:α->PartT)(Lf:Nat->Nat->Al->Option R)(K:Al->Option R)(eo:∀n x,Lf (n+1) l.length x=K x)
  (hs:∀n i x y,l[i]?=some y->i<l.length->x.length<=4400000->Lf (n+1) i x=Lf n (i+1) (x++[f y])):∀(n i:Nat)(x:Al),i<=l.length->l.length<n+i->x.length+l.length<=4400000+i->Lf n i x=K (x++(l.drop i).map f)
 |0,i,x,h1,h2,h3=>by omega
 |n+1,i,x,h1,h2,h3=>by
  by_cases hi:i<l.length
  ·have hd:l.drop i=l[i]::l.drop (i+1):=Dg hi;rw[hd,hs n i x l[i] (Bl hi) hi (by omega),C4n f Lf K eo hs n (i+1) _ (by omega) (by omega) (by rw[Aw,Cf];omega)];rw[Dv,Be];rfl
  ·have bJ:i=l.length:=by omega
   subst bJ;rw[Df,eo];simp
theorem bl{α:Type}{l:List α}(f:α->PartT)(Lf:Nat->Nat->Al->Option R)(K:Al->Option R)(x:Al)(hx:x.length+l.length<=4400000)(eo:∀n x,Lf (n+1) l.length x=K x)
 (hs:∀n i x y,l[i]?=some y->i<l.length->x.length<=4400000->Lf (n+1) i x=Lf n (i+1) (x++[f y])):Lf NN 0 x=K (x++l.map f):=C4n f Lf K eo hs NN 0 x (Bw _) (by rw[NNv];omega) hx
theorem A9A{m:Nat}(h:m<=4400000):A2 (m+1) 16=true:=by
 unfold A2;apply Ar;omega
def A0O(d:A6):Al:=d.roots.map .root++d.fields.map .field++d.values.map .value++(if d.kind=7 then d.inputs.map .input else [])
theorem p89(h:O9 d):F89 d=some (.one (.sl .part (A0O d) (some 1))):=by
 have l1:=h.rds.1;have l2:=h.fds.1;have l3:=h.vals.1;have l4:=h.ivs.1;show A32 NN d NN [] d.roots (d.roots.length:Int) ((0:Nat):Int) _=_;rw[bl (l:=d.roots) .root (λn i x=>A32 NN d n x d.roots (d.roots.length:Int) (i:Int) _) (λx=>_) [] (by simp;omega) (λn x=>by unfold A32;simp only[B33,dge,Aq];rfl) (λn i x y hy hi hx=>by
  conv=>lhs;unfold A32
  simp only[B33,dlt hi,Ap,E1,hy,A9A hx,gd,N6 l1 hi])]
 rw[Bo];show A35 NN d NN _ d.fields (d.fields.length:Int) ((0:Nat):Int) _=_;rw[bl (l:=d.fields) .field (λn i x=>A35 NN d n x d.fields (d.fields.length:Int) (i:Int) _) (λx=>_) _ (by simp;omega) (λn x=>by unfold A35;simp only[B43,dge,Aq];rfl) (λn i x y hy hi hx=>by
  conv=>lhs;unfold A35
  simp only[B43,dlt hi,Ap,E1,hy,A9A hx,gd,N6 l2 hi])]
 show A4f NN d NN _ d.values (d.values.length:Int) ((0:Nat):Int) _=_;rw[bl (l:=d.values) .value (λn i x=>A4f NN d n x d.values (d.values.length:Int) (i:Int) _) (λx=>_) _ (by simp;omega) (λn x=>by unfold A4f;simp only[B5j,dge,Aq];rfl) (λn i x y hy hi hx=>by
  conv=>lhs;unfold A4f
  simp only[B5j,dlt hi,Ap,E1,hy,A9A hx,gd,N6 l3 hi])]
 unfold A0O;by_cases h7:d.kind=7
 ·have qK:(d.kind==7)=true:=by simpa using h7
  rw[Au h7,qK,Ap];show A3U NN d NN _ d.inputs (d.inputs.length:Int) ((0:Nat):Int) _=_;rw[bl (l:=d.inputs) .input (λn i x=>A3U NN d n x d.inputs (d.inputs.length:Int) (i:Int) _) (λx=>_) _ (by simp;omega) (λn x=>by unfold A3U;simp only[B48,dge,Aq];rfl) (λn i x y hy hi hx=>by
   conv=>lhs;unfold A3U
   simp only[B48,dlt hi,Ap,E1,hy,A9A hx,gd,N6 l4 hi])]
 ·have qK:(d.kind==7)=false:=by simpa using h7
  rw[At h7,qK,Aq,Az]
theorem D5W(h:O9 d):(A0O d).length<=4400000/\∀x∈A0O d,GP x:=by
 have l1:=h.rds.1;have l2:=h.fds.1;have l3:=h.vals.1;have l4:=h.ivs.1;unfold A0O;constructor
 ·simp only[Aw,Cg];split
  ·simp only[Cg];omega
  ·simp only[Ay];omega
 ·intro x hx;simp only[Ca,Ct]at hx;rcases hx with((⟨r,hr,e⟩|⟨r,hr,e⟩)|⟨r,hr,e⟩)|hx
  ·rw[<-e];exact h.rds.2 r hr
  ·rw[<-e];exact h.fds.2 r hr
  ·rw[<-e];exact h.vals.2 r hr
  ·split at hx
   ·obtain⟨r,hr,e⟩:=Ct.1 hx;rw[<-e];exact h.ivs.2 r hr
   ·cases hx
theorem C6F(h:O9 d):prB (A0O d)=R3 d:=by
 have e:(A0O d).map prP=lns d:=by
  unfold A0O lns;simp only[List.map_append,Er];split
  ·simp only[Er];rfl
  ·rfl
 unfold prB R3;rw[<-e,Dz];simp only[List.map_eq_nil_iff]
theorem B4h(lead m:Ab){l:List E2}(h:l≠[]):nms lead m l=lead++nms [] m l:=by
 cases l with
 |nil=>exact absurd rfl h
 |cons x r=>simp[nms]
theorem C5a{α:Type}{l:List α}:decide ((Bg l:Int)>0)= !l.isEmpty:=by
 cases l with
 |nil=>rfl
 |cons x r=>exact Ar (by rw[Ax];omega)
theorem B5O(h:O9 d)(hb:wOk b (R3 d)):j38 d b=some ([],B9 (b++bI (R3 d))):=by
 have e1:okR [.sl .part (some 1)] (some (.one (.sl .part (A0O d) (some 1))):Ad)=true:=rfl;have e2:B5e (gL (some (.one (.sl .part (A0O d) (some 1))):Ad) 0)=A0O d:=rfl;rw[<-C6F h]at hb ⊢;unfold j38;rw[p89 h];simp only[gd,e1,e2,p63 (D5W h) hb,J1,F3,Ap]
theorem A5r(h:O9 d)(hb:wOk b (J5 d.dirs++(nms [32,61,32] [32,124,32] d.members++R3 d))):t38 d b=some ([],B9 (b++bI (J5 d.dirs++(nms [32,61,32] [32,124,32] d.members++R3 d)))):=by
 have em:∀z,d.members≠[]->wOk z (nms [32,61,32] [32,124,32] d.members++R3 d)->m38 d z=some ([],B9 (z++bI (nms [32,61,32] [32,124,32] d.members++R3 d))):=λz hm hb=>by
  have mG:=λb hb=>p87 (b:=b) (m:=[124]) h.mbs rfl hb;simp only[Cn,Bo]at mG;rw[B4h _ _ hm]at hb ⊢;simp only[wOk,Aw,Ax,Ay]at hb;unfold m38;simp(disch:=first|assumption|decide|(simp only[wOk,Aw,B7,Bb,Ba,Az,Ax,Ay];omega))only[gd,p27,mG,B5O h,J1,F3,Ap,Be,C9,Bb,Ba,Az]
 unfold t38;simp only[wOk,Aw,Ax,Ay]at hb;by_cases h5:d.kind=5
 ·have rQ:(d.kind==5)=true:=by simpa using h5
  by_cases hm:d.members=[]
  ·have ee:nms [32,61,32] [32,124,32] d.members=[]:=by rw[hm];rfl
   have e0:decide ((Bg d.members:Int)>0)=false:=by rw[hm];rfl
   rw[ee]at hb ⊢;simp(disch:=first|assumption|decide|(simp only[wOk,Aw,B7,Bb,Ba,Az,Ax,Ay];omega))only[rQ,e0,gd,p68 h.ds,B5O h,J1,F3,Ap,Aq,beq_self_eq_true,Bo,Be,C9,Bb,Ba,Az]
  ·have e0:decide ((Bg d.members:Int)>0)=true:=by
    rw[C5a];cases hh:d.members with
    |nil=>exact absurd hh hm
    |cons x r=>rfl
   have em:=λz hb=>em z hm hb;simp(disch:=first|assumption|decide|(simp only[wOk,Aw,B7,Bb,Ba,Az,Ax,Ay];omega))only[rQ,e0,gd,p68 h.ds,em,J1,F3,Ap,beq_self_eq_true,Be,C9,Bb,Ba,Az]
 ·have rQ:(d.kind==5)=false:=by simpa using h5
  have ee:nms [32,61,32] [32,124,32] d.members=[]:=by rw[h.k5 h5];rfl
  rw[ee]at hb ⊢;simp(disch:=first|assumption|decide|(simp only[wOk,Aw,B7,Bb,Ba,Az,Ax,Ay];omega))only[rQ,gd,p68 h.ds,B5O h,J1,F3,Ap,Aq,Bo,show(false==true)=false from rfl,Be,C9,Bb,Ba,Az]
theorem B8P(h:O9 d)(hb:wOk b (nms A4m [32,38,32] d.ifaces++(J5 d.dirs++(nms [32,61,32] [32,124,32] d.members++R3 d)))):i38 d b=some ([],B9 (b++bI (nms A4m [32,38,32] d.ifaces++(J5 d.dirs++(nms [32,61,32] [32,124,32] d.members++R3 d))))):=by
 unfold i38;by_cases hm:d.ifaces=[]
 ·have ee:nms A4m [32,38,32] d.ifaces=[]:=by rw[hm];rfl
  have e0:decide ((Bg d.ifaces:Int)>0)=false:=by rw[hm];rfl
  rw[ee]at hb ⊢;rw[e0,Aq];exact A5r h hb
 ·have e0:decide ((Bg d.ifaces:Int)>0)=true:=by
   rw[C5a];cases hh:d.ifaces with
   |nil=>exact absurd hh hm
   |cons x r=>rfl
  have mG:=λb hb=>p87 (b:=b) (m:=[38]) h.ifs rfl hb;simp only[Cn,Bo]at mG;rw[B4h _ _ hm]at hb ⊢;simp only[wOk,Aw,Ax,Ay]at hb;simp(disch:=first|assumption|decide|(simp only[wOk,Aw,B7,Bb,Ba,Az,Ax,Ay];omega))only[e0,gd,p27,mG,A5r h,J1,F3,Ap,Be,C9,Bb,Ba,Az]
theorem C0T{s:Ag}{f:Aa->Af}{x:Ab}(hs:s.length<=1000)(hb:wOk b (s.flatten++x))(hf:∀b,wOk b x->f b=some ([],B9 (b++bI x))):w38 s f b=some ([],B9 (b++bI (s.flatten++x))):=by
 simp only[wOk,Aw,Ax,Ay]at hb;unfold w38;simp(disch:=first|assumption|decide|(simp only[wOk,Aw,B7,Bb,Ba,Az,Ax,Ay];omega))only[gd,p27,hf,J1,F3,Ap];simp only[C9,Be]
theorem A4p{a nm:Ab}{f:Aa->Af}{x:Ab}(hb:wOk b (a++nm++x))(hf:∀b,wOk b x->f b=some ([],B9 (b++bI x))):w38 [a,nm] f b=some ([],B9 (b++bI (a++nm++x))):=by
 have e:([a,nm]:Ag).flatten=a++nm:=by simp
 have:=C0T (s:=[a,nm]) (f:=f) (x:=x) (b:=b) (by show 2<=1000;omega) (by rw[e];exact hb) hf;rw[e]at this;exact this
theorem B5N{a:Ab}{f:Aa->Af}{x:Ab}(hb:wOk b (a++x))(hf:∀b,wOk b x->f b=some ([],B9 (b++bI x))):w38 [a] f b=some ([],B9 (b++bI (a++x))):=by
 have e:([a]:Ag).flatten=a:=by simp
 have:=C0T (s:=[a]) (f:=f) (x:=x) (b:=b) (by show 1<=1000;omega) (by rw[e];exact hb) hf;rw[e]at this;exact this
theorem p38(h:O9 d)(hb:wOk b (hdW d.kind++d.name++T1 d)):F38 d b=some ([],B9 (b++bI (hdW d.kind++d.name++T1 d))):=by
 have hk:=h.kd;have ti:d.kind≠8->T1 d=nms A4m [32,38,32] d.ifaces++(J5 d.dirs++(nms [32,61,32] [32,124,32] d.members++R3 d)):=λh8=>by
  unfold T1;rw[At h8];simp only[Be]
 have tt:d.kind≠8->d.kind≠3->d.kind≠4->T1 d=J5 d.dirs++(nms [32,61,32] [32,124,32] d.members++R3 d):=λh8 h3 h4=>by
  rw[ti h8,h.k34 h3 h4];rfl
 have hk:d.kind=1\/d.kind=2\/d.kind=3\/d.kind=4\/d.kind=5\/d.kind=6\/d.kind=7\/d.kind=8:=by omega
 rcases hk with hk|hk|hk|hk|hk|hk|hk|hk
 ·have e:F38 d b=w38 [hdW d.kind] (t38 d) b:=by unfold F38;rw[hk];rfl
  rw[tt (by omega) (by omega) (by omega),h.k1 hk,Az]at hb ⊢;rw[e];exact B5N hb λb hb=>A5r h hb
 ·have e:F38 d b=w38 [hdW d.kind,d.name] (t38 d) b:=by unfold F38;rw[hk];rfl
  rw[tt (by omega) (by omega) (by omega)]at hb ⊢;rw[e];exact A4p hb λb hb=>A5r h hb
 ·have e:F38 d b=w38 [hdW d.kind,d.name] (i38 d) b:=by unfold F38 o38;rw[hk];rfl
  rw[ti (by omega)]at hb ⊢;rw[e];exact A4p hb λb hb=>B8P h hb
 ·have e:F38 d b=w38 [hdW d.kind,d.name] (i38 d) b:=by unfold F38 o38;rw[hk];rfl
  rw[ti (by omega)]at hb ⊢;rw[e];exact A4p hb λb hb=>B8P h hb
 ·have e:F38 d b=w38 [hdW d.kind,d.name] (t38 d) b:=by unfold F38 o38;rw[hk];rfl
  rw[tt (by omega) (by omega) (by omega)]at hb ⊢;rw[e];exact A4p hb λb hb=>A5r h hb
 ·have e:F38 d b=w38 [hdW d.kind,d.name] (t38 d) b:=by unfold F38 o38;rw[hk];rfl
  rw[tt (by omega) (by omega) (by omega)]at hb ⊢;rw[e];exact A4p hb λb hb=>A5r h hb
 ·have e:F38 d b=w38 [hdW d.kind,d.name] (t38 d) b:=by unfold F38 o38;rw[hk];rfl
  rw[tt (by omega) (by omega) (by omega)]at hb ⊢;rw[e];exact A4p hb λb hb=>A5r h hb
 ·have e:F38 d b=w38 [hdW d.kind,d.name] (λz=>let r:=F88 d.inputs z;gd (okB [] kP r) (bif d.repeatable then w38 [A29] (q38 d) (A3H (gC r 0 1))else q38 d (A3H (gC r 0 1)))) b:=by unfold F38 o38;rw[hk];rfl
  rw[e];refine A4p hb λb hb=>?_;unfold T1 at hb ⊢;rw[Au hk]at hb ⊢;have mG:=λb hb=>p87 (b:=b) (m:=[124]) h.pls rfl hb;simp only[Cn,Bo]at mG;have eq:∀z,wOk z (nms [32,111,110,32] [32,124,32] d.places)->q38 d z=some ([],B9 (z++bI (nms [32,111,110,32] [32,124,32] d.places))):=λz hb=>by
   rw[B4h _ _ (h.k8 hk)]at hb ⊢;unfold q38;refine B5N hb λb hb=>?_;simp only[gd,mG b hb,J1,F3,Ap]
  cases hr:d.repeatable<;>rw[hr]at hb<;>simp only[Ap,Aq]at hb
  ·simp only[wOk,Aw,Ax,Ay]at hb;simp(disch:=first|assumption|decide|(simp only[wOk,Aw,B7,Bb,Ba,Az,Ax,Ay];omega))only[gd,p88 h.ivs,eq,J1,F3,Ap,Aq,Az,Be,C9,Bb,Ba,Az]
  ·simp only[wOk,Aw,Ax,Ay]at hb;have ew:∀z,wOk z (A29++nms [32,111,110,32] [32,124,32] d.places)->w38 [A29] (q38 d) z=some ([],B9 (z++bI (A29++nms [32,111,110,32] [32,124,32] d.places))):=λz hb=>B5N hb eq;simp(disch:=first|assumption|decide|(simp only[wOk,Aw,B7,Bb,Ba,Az,Ax,Ay];omega))only[gd,p88 h.ivs,ew,J1,F3,Ap,Be,C9,Bb,Ba,Az]
def A1B(l:List A6):Ab:=pcs (λi x=>(if i=0 then []else [10])++(U9 x++[10])) 0 l
theorem p12{l:List A6}(hl:GL O9 l)(hb:wOk [] (A1B l)):F12 l=some (.one (.str (A1B l))):=by
 have bG:∀(k2:Int->Int->Bool->Aa->Ad),A1n NN l NN (l.length:Int) ((0:Nat):Int) [] k2=k2 (l.length:Int) (l.length:Int) false ([]++bI (A1B l)):=λk2=>by
  unfold A1B at hb ⊢;refine wl _ (λn i buf=>A1n NN l n (l.length:Int) (i:Int) buf k2) (λbuf=>k2 (l.length:Int) (l.length:Int) false buf) hl.1 (λn buf=>?_) (λn i x buf hx hi hm hb=>?_) hb
  ·show A1n NN l (n+1) (l.length:Int) (l.length:Int) buf k2=_;unfold A1n;simp only[B0O,dge,Aq]
  ·have hg:=hl.2 x hm;have hn:=hg.nt;have ex:∀b,F38 (⟨x.kind,x.extd,⟨x.note.has,x.note.block,x.note.text⟩,x.name,x.ifaces,x.dirs,x.fields,x.inputs,x.members,x.values,x.roots,x.repeatable,x.places,⟨x.pos.line,x.pos.col⟩⟩:A6) b=F38 x b:=λb=>rfl;have en:∀g b,F37 (⟨x.note.has,x.note.block,x.note.text⟩:G3) g b=F37 x.note g b:=λg b=>rfl;unfold U9 A2T at hb ⊢;by_cases h0:i=0
   ·have hz:decide (((i:Nat):Int)>0)=false:=As (by omega);rw[Au h0]at hb ⊢;cases du:x.extd<;>rw[du]at hb<;>simp only[du]at ex<;>simp only[Ap,Aq]at hb<;>simp only[wOk,Aw,Ax,Ay]at hb<;>(conv=>lhs;unfold A1n)<;>simp(disch:=first|assumption|decide|(simp only[wOk,Aw,B7,Bb,Ba,Az,Ax,Ay];omega))only[B0O,A2T,gd,dlt hi,hz,du,E1,hx,Ap,Aq,en,ex,p37 hn,p27,p38 hg,J1,F3,N6 hl.1 hi,Bo,Be,C9,Bb,Ba,Az]
   ·have hz:decide (((i:Nat):Int)>0)=true:=Ar (by omega);rw[At h0]at hb ⊢;cases du:x.extd<;>rw[du]at hb<;>simp only[du]at ex<;>simp only[Ap,Aq]at hb<;>simp only[wOk,Aw,Ax,Ay]at hb<;>(conv=>lhs;unfold A1n)<;>simp(disch:=first|assumption|decide|(simp only[wOk,Aw,B7,Bb,Ba,Az,Ax,Ay];omega))only[B0O,A2T,gd,dlt hi,hz,du,E1,hx,Ap,Aq,en,ex,p37 hn,p27,p38 hg,J1,F3,N6 hl.1 hi,Bo,Be,C9,Bb,Ba,Az]
 refine(bG _).trans ?_;rw[Bo];have yT:F29 (bI (A1B l))=some ([.str (A1B l)],B9 (bI (A1B l))):=by
  unfold F29;rw[Ar (by unfold wOk MB at hb;rw[B7];simp at hb;omega),C1F];rfl
 rw[yT];rfl
theorem B9C:∀(l:List A6)(i:Nat),(pcs (λi x=>(if i=0 then []else [10])++(U9 x++[10])) i l).length<=sl U9 l
 |[],_=>Bw _
 |x::r,i=>by
  have h1:=B9C r (i+1);have h2:(if i=0 then []else([10]:Ab)).length<=1:=by split<;>decide
  unfold sl at*;simp only[pcs,sw,Aw,Ax,Ay]at*;omega
theorem D6F{a0:Aa}(hB:isB a0=true)(hl:a0.length<=1048576)(a1:Int):F4 a0 a1=some (.one (.bool true)):=by
 obtain⟨T,qL,tw⟩:=D47 hB hl;obtain⟨l,n,f,yU,hf⟩:=D6h tw (a1:=a1) qL;have e7:okR [.bool] F7=true:=rfl;have yV:(!(lB (gL F7 0)))=false:=rfl;have yW:okR [.slc .sys,.agg .fault] (some (.tup [.sl .sys l n,.agg .fault f]):Ad)=true:=rfl;have g0:C1v (gL (some (.tup [.sl .sys l n,.agg .fault f]):Ad) 0)=l:=rfl;have g1:C0o (gL (some (.tup [.sl .sys l n,.agg .fault f]):Ad) 1)=f:=rfl;unfold F4;simp only[gd,e7,yV,yU,yW,g0,g1,Ap,Aq];by_cases hk:f.kind=0
 ·obtain⟨h1,h2⟩:=hf hk;have h3:=B9C l 0;have hb:wOk [] (A1B l):=by
   unfold lq at h2;have:KB=120000000:=rfl;unfold wOk MB A1B;rw[this]at h2;simp only[Ay];omega
  have tG:=p12 h1 hb;have yX:F13 l=some (.one (.str (A1B l))):=o13 h1 hb;have:(f.kind !=0)=false:=by rw[hk];rfl
  simp only[this,tG,yX,oS1,gS1,Ap,beq_self_eq_true]
 ·have:(f.kind !=0)=true:=by simpa using hk
  simp only[this];rfl
end
end Go.Aev
namespace Go.Aev
open Go.Proofs
section
variable {I:Inv}
def A3A(I:Inv):List (Cc×S1T)->Prop
 |[]=>True
 |p::r=>Sound Bf U6 I p.1 (sG p.2)/\A3A I r
def A3m(I:Inv):List (Cc×S2T)->Prop
 |[]=>True
 |p::r=>D4 Bf U6 I p.1 (sGB p.2)/\A3m I r
theorem A9z{f:Cc}{ls:Ae}{r:E6}:∀{T:List (Cc×S1T)},A3A I T->lkT T f ls=some (true,r)->(∀args w,(Ch f args).run Bf w=.ok (.enter f args) w)/\A1U Bf U6 I f ls r
 |[],_,h=>by cases h
 |(g,S)::T,hT,h=>by
  obtain⟨h1,h2⟩:=hT;unfold lkT at h;cases hb:Bu f g with
  |true=>rw[hb]at h;cases El hb;exact C9d h1 h
  |false=>rw[hb]at h;exact A9z h2 h
theorem B0F{f:Cc}{ls:Ae}{cs:Ao}{rs:Ae}{aR:Ao}:∀{T:List (Cc×S2T)},A3m I T->M9 (lkB T f ls cs)=some (rs,aR)->(∀args w,(Ch f args).run Bf w=.ok (.enter f args) w)/\Z1 Bf U6 I f ls cs rs aR
 |[],_,h=>by cases h
 |(g,S)::T,hT,h=>by
  obtain⟨h1,h2⟩:=hT;unfold lkB at h;cases hb:Bu f g with
  |true=>rw[hb]at h;cases El hb;exact D8j h1 h
  |false=>rw[hb]at h;exact B0F h2 h
variable {T:List (Cc×S1T)}{TB:List (Cc×S2T)}{dr:Nat->Aj}{nt:Nat}{mb:Aj}{np:Nat}{oz:Aj}{bn:List (Nat×Nat)}{f:Cc}{fn:Func}
theorem B3h(hb:HB I)(hT:A3A I T)(hB:A3m I TB):EnvI Bf (mkE T TB dr nt mb np oz bn) I:=
 ⟨u6_ok,A6v,A6B,λ_ _ _ h=>A9z hT h,λ_ _ _ _ _ h=>B0F hB h,λ_ _ _ _ _ _ _ _ h=>(by cases h),λf ls cs rs h=>(by cases h),hb.mono,B0g,λ_ _ _ h=>(by cases h)⟩
theorem F2(E:Env Ty6 A4)(hb:HB I)(hE:E=mkE T TB dr nt mb np oz bn)(hT:A3A I T)(hB:A3m I TB)(hf:Tryz.prog.funcs[f]?=some fn)(cZ:nt=fn.ntmps)(he:∀args w,(Ch f args).run Bf w=.ok (.enter f args) w)
  {S:Ae->Ad}(hS:∀ls r,S ls=some r->A3 E NN fn ls=some r):Sound Bf U6 I f S:=
 by subst hE;exact A9j (B3h hb hT hB) hf cZ he λls r h=>⟨NN,hS ls r h⟩
theorem G2(E:Env Ty6 A4)(hb:HB I)(hE:E=mkE T TB dr nt mb np oz bn)(hT:A3A I T)(hB:A3m I TB)(hf:Tryz.prog.funcs[f]?=some fn)(cZ:nt=fn.ntmps)(he:∀args w,(Ch f args).run Bf w=.ok (.enter f args) w){ps:Aj}
  {S:Ae->Ao->Option (Ae×Ao)}(hS:∀ls cs r,S ls cs=some r->C8 E NN fn ps ls cs=some r):D4 Bf U6 I f S:=
 by subst hE;exact B2J (B3h hb hT hB) hf cZ he λls cs r h=>⟨NN,hS ls cs r h⟩
theorem D4J{ti:String->Ae->Ao->Option (Bool×Ae×Ao)}{bi:String->Aj}(E:Env Ty6 A4)(hb:HB I)(hE:E={mkE T TB dr nt mb np oz bn with TIg:=ti,bi:=bi})(hT:A3A I T)(hB:A3m I TB)
  (hi:∀(w:World)(m:Nat->Nat),I w m->∀(nm:String)(ls:Ae)(cs:Ao)(rs:Ae)(aR:Ao),M9 (ti nm ls cs)=some (rs,aR)->A49 Bf U6 ⟨w,m,λ_=>False,0,λ_=>undef⟩ nm ls cs rs aR)
  (hf:Tryz.prog.funcs[f]?=some fn) (cZ:nt=fn.ntmps) (he:∀args w,(Ch f args).run Bf w=.ok (.enter f args) w) {ps:Aj}
  {S:Ae->Ao->Option (Ae×Ao)} (hS:∀ls cs r,S ls cs=some r->C8 E NN fn ps ls cs=some r):D4 Bf U6 I f S:=by
 subst hE;have hI:EnvI Bf {mkE T TB dr nt mb np oz bn with TIg:=ti,bi:=bi} I:=⟨u6_ok,A6v,A6B,λ_ _ _ h=>A9z hT h,λ_ _ _ _ _ h=>B0F hB h,hi,λf ls cs rs h=>(by cases h),hb.mono,B0g,λ_ _ _ h=>(by cases h)⟩;exact B2J hI hf cZ he λls cs r h=>⟨NN,hS ls cs r h⟩
theorem A53(E:Env Ty6 A4)(hb:HB I)(hE:E=mkE T TB dr nt mb np oz bn)(hT:A3A I T)(hB:A3m I TB)(hf:Tryz.prog.funcs[f]?=some fn)(cZ:nt=fn.ntmps)(he:∀args w,(Ch f args).run Bf w=.ok (.enter f args) w)
  {S:Ae->Ad}(hS:∀ls r,S ls=some r->∃r0,A3 E NN fn ls=some r0/\r=A1c r0/\(∀d ls,r0≠ .bx d ls)/\∀ls,r0≠ .st ls):Sound Bf U6 I f S:=
 by subst hE;exact Sound.close (S0:=A3 (mkE T TB dr nt mb np oz bn) NN fn) (A9j (B3h hb hT hB) hf cZ he λls r h=>⟨NN,h⟩) hS
end
end Go.Aev
section
namespace Go.Aev
open Go.Proofs
theorem A1u{P:Cz}{T f:Nat}{ie:TypeInfo}{me:Method}{v v1 v2:Value}{w:World}(hi:P.info? T=some ie)(hm:ie.methods= #[me])(hn:me.name= "pergola/printer.print")(hp:me.path= #[])(hf:me.func=some (f,false))
  (hu:(match P.underlying T with|some (.struct _)=>true|_=>false)=true)(hc:∀args w,(Ch f args).run P w=.ok (.enter f args) w):
  (invoke (.fn (.method "pergola/printer.print") #[]) #[.iface T v,v1,v2]).run P w=.ok (.enter f #[v,v1,v2]) w:=by
 have hd:∃n,P.types.size+Dr=n+1:=⟨P.types.size+Dr - 1,by unfold Dr;omega⟩;obtain⟨n,jI⟩:=hd;split at hu
 ·rename_i fs bN;simp[invoke,callMethod,jI,method,typeInfo,hi,hm,hn,hp,hf,follow,receiverAt,run_underlying bN,Place.get,hc]
 ·cases hu
end Go.Aev
namespace Go.Aev
open Go.Proofs
theorem A1I{I:Inv}(hb:HB I){w:World}{m:Nat->Nat}(hI:I w m){x:PartT}{T f:Nat}{t:Ty6}{y:A4 t}{a2:Int}{cs:Ao}{rs:Ae}{aR:Ao}
  (hx:A0M .part x=[.ifc T t y])(af:∀v v1 v2 w,(invoke (.fn (.method "pergola/printer.print") #[]) #[.iface T v,v1,v2]).run Bf w=.ok (.enter f #[v,v1,v2]) w)
  (hc:Z1 Bf U6 I f [.agg t y,.ptr 900000 0,.int .i64 a2] cs rs aR):
  A49 Bf U6 ⟨w,m,λ_=>False,0,λ_=>undef⟩ "pergola/printer.print" [.one1 .part x,.ptr 900000 0,.int .i64 a2] cs rs aR:=by
 intro w1 g1 vs hl
 match vs,hl with
 |[v0,v1,v2],hl=>
  obtain⟨h0,h1,h2,_⟩:=hl;have fh:=h0.1;cases fh with
  |one1 _ _ lf _ ck eF=>
   have dc:lf=.ifc T t y:=by
    have:[lf]=[Leaf.ifc T t y]:=by rw[<-hx];exact ck.symm
    exact(List.cons.inj this).1
   subst dc;cases eF with
   |ifc _ _ _ v' da=>
    refine⟨f,[.agg t y,.ptr 900000 0,.int .i64 a2],[v',v1,v2],af v' v1 v2 w1,⟨⟨da,λ_ _ _ e=>(by cases e),λ_ _ e=>(by cases e)⟩,h1,h2,trivial⟩,λlf dc d hd=>?_,?_⟩
    ·simp only[Dd,List.not_mem_nil,or_false]at dc;rcases dc with rfl|rfl|rfl
     ·cases hd
     ·exact⟨.ptr 900000 0,by simp,hd⟩
     ·cases hd
    ·intro w2 g2 jP un du;exact hc w2 g2 jP un (hb.mono _ _ _ _ hI du)
 |[],hl=>exact hl.elim
 |[_],hl=>exact hl.2.elim
 |[_,_],hl=>exact hl.2.2.elim
 |_::_::_::_::_,hl=>exact hl.2.2.2.elim
end Go.Aev
end
namespace Go.Aev
section
variable {P:Cz}{ops:Array Oper}{Q:Exit->Act->World->Prop}{S:World->Prop}{L:Nat}
def A0J(P:Cz)(ops:Array Oper)(Q:Exit->Act->World->Prop)(S:World->Prop)(L:Nat):Nat->Array Bool->Act->World->Prop
 |0,listed,a,w=>Cb .any ops listed=[]/\Q .normal a w
 |fuel+1,listed,a,w=>
  (Cb .any ops listed=[]->Q .normal a w)/\
  ∀i∈Cb .any ops listed,wpOp P ops Q i (λa' w'=>(i≠L->S w')/\A0J P ops Q S L fuel (listed.setIfInBounds i true) a' w') a w
theorem B8Y:∀(fuel:Nat)(listed:Array Bool)(a:Act)(w:World),A0J P ops Q S L fuel listed a w->wpAny P .any ops Q fuel listed a w
 |0,_,_,_,h=>h
 |fuel+1,_,_,_,h=>⟨h.1,λi hi=>wpOp_mono (λa' w' h'=>B8Y fuel _ a' w' h'.2) (h.2 i hi)⟩
def B0X(ops:Array Oper)(L i:Nat):Bool:=match ops[L]? with
 |some o=>o.after.any λe=>Dm .any e&&Bu e.on i
 |none=>false
theorem D8B{i:Nat}{oi:Oper}{v:Value}(hi:ops[i]?=some oi)(eg:∀(j:Nat)(o:Oper) cs b,ops[j]?=some o->o.op≠ .select cs b)
  (hQ:∀c a w,Q (.panic c) (a.put oi.dst v) w->Q (.panic c) a w)(hL:B0X ops L i=true):
  ∀(fuel:Nat)(listed:Array Bool)(a:Act)(w:World),
   (∀j oj,ops[j]?=some oj->j≠i->listed.getD j true=false->(∀e∈oj.after,Dm .any e=true->e.on≠i)->oi.apart ops oj=true)->
   i∈Cb .any ops listed->i≠L->YieldsIf P ops S oi v a->S w->
   A0J P ops Q S L fuel (listed.setIfInBounds i true) (a.put oi.dst v) w->A0J P ops Q S L (fuel+1) listed a w:=by
 intro fuel
 induction fuel with
 |zero=>
  intro listed a w _ hr nY hy hS H;refine⟨λh=>(by rw[h]at hr;cases hr),λj hj=>?_⟩;by_cases dP:j=i
  ·subst dP;exact hy.wpOp hi hS ⟨λ_=>hS,H⟩
  ·have:=Di hj dP;rw[H.1]at this;cases this
 |succ fuel ih=>
  intro listed a w ft hr nY hy hS H;refine⟨λh=>(by rw[h]at hr;cases hr),λj hj=>?_⟩;by_cases dP:j=i
  ·subst dP;exact hy.wpOp hi hS ⟨λ_=>hS,H⟩
  have h1:=H.2 j (Di hj dP);obtain⟨qM,oj,gi,bQ⟩:=mem_ready.1 hj;have eK:∀e∈oj.after,Dm .any e=true->e.on≠i:=λe he hb bN=>by
   have k1:=bQ e he hb;have k0:=(mem_ready.1 hr).1;rw[bN]at k1;rcases Ej i listed.size with h'|h'
   ·simp[h']at k0 k1;rw[k0]at k1;cases k1
   ·simp[Fk h']at k1
  have yY:j≠L:=λe=>by
   subst e;unfold B0X at hL;rw[gi]at hL;simp only[Array.any_eq_true',Bj]at hL;obtain⟨e,he,hb,yZ⟩:=hL;exact eK e he hb ((F6 _ _).1 yZ)
  have h2:=wpOp_putIf gi (ft j oj gi dP qM eK) (λcs b=>eg i oi cs b hi) (λcs b=>eg j oj cs b gi) hQ hy h1;refine wpOp_mono (λa' w' h3=>⟨h3.2.1,ih (listed.setIfInBounds j true) a' w' (λk ok hk za gg cY=>ft k ok hk za ?_ cY) (Di hr (Dn dP)) nY h3.1 (h3.2.1 yY) ?_⟩) h2
  ·by_cases wu:j=k
   ·subst wu;exact qM
   ·rw[getD_set_ne true wu]at gg;exact gg
  ·rw[Array.setIfInBounds_comm _ _ dP];exact h3.2.2
variable {a:Act}{w w':World}{c:Code}{n:Nat}{fr:List (Nat×Value)}{o:Oper}{K:Act->World->Prop}
theorem B84{S:World->Prop}(L:Nat)(hm:P.follows .mixedOrders=true)(id m:Nat)(h:c=.region id (A1w c) true)(hs:(A1w c).size=m)
  (hw:A0J P (A1w c) (L7 Q) S L m (Array.replicate m false) a {w with drawn:=w.drawn+1}):c.wp P Q a w:=by
 rw[h];refine Code.wp_mono (Q:=L7 Q) (λe a w h=>by cases e<;>first|exact h|exact h.elim) ?_;subst hs;exact wp_region_any hm (B8Y _ _ _ _ hw)
theorem D8A{listed:Array Bool}{fuel i d:Nat}{v:Value}(tm:Tm a n fr)(hi:ops[i]?=some o)(hs:Dk ops=true)(hf:Dl .any ops listed i=true)
  (hr:(Cb .any ops listed).contains i=true)(hL:B0X ops L i=true)(nY:Bu i L=false)(hg:o.guard=none)(aO:o.dst=some d)(hd:Bq d n=true)(hS:S w)(af:∀w,S w->(Cp a.eval o).run P w=.ok (.value v) w)
  (hk:∀a',Tm a' n ((d,v)::fr)->A0J P ops (L7 Q) S L fuel (listed.setIfInBounds i true) a' w):A0J P ops (L7 Q) S L (fuel+1) listed a w:=by
 refine D8B hi (Region.noSelect_spec hs) (λ_ _ _ h=>h.elim) hL fuel listed a w (Region.free_spec hi hf) (by simpa using hr) (λe=>by rw[(F6 _ _).2 e]at nY;cases nY) (.inl ⟨by simp[Ef,hg],af⟩) hS ?_;rw[aO];exact hk _ (tm.put hd)
theorem A3K{listed:Array Bool}{fuel i:Nat}(hr:Cb .any ops listed=[i])(hi:ops[i]?=some o)(hg:o.guard=none)
  (h:∀K:Act->World->Prop,(∀a' w',(i≠L->S w')->A0J P ops (L7 Q) S L fuel (listed.setIfInBounds i true) a' w'->K a' w')->o.wp P a w K (L7 Q)):A0J P ops (L7 Q) S L (fuel+1) listed a w:=by
 refine⟨λh0=>(by rw[hr]at h0;cases h0),λj hj=>?_⟩;rw[hr]at hj;rcases Dc.1 hj with rfl
 unfold Go.wpOp;simp only[hi];rw[Au (by simp[Ef,hg])];exact .inl (h _ λa' w' h1 h2=>⟨h1,h2⟩)
theorem B9I{listed:Array Bool}(hr:Cb .any ops listed=[])(h:Q .normal a w):∀(fuel:Nat),A0J P ops (L7 Q) S L fuel listed a w
 |0=>⟨hr,h⟩
 |_+1=>⟨λ_=>h,by rw[hr];simp⟩
end
theorem A7o(q:Aj):∀(p:Aj)(c:Code),nav c (p++q)=nav (nav c p) q:=by
 intro p
 induction p with
 |nil=>intro c;cases c<;>rfl
 |cons i p ih=>
  intro c;cases c with
  |seq a b=>cases i<;>exact ih _
  |cond o a b=>cases i<;>exact ih _
  |block _ c=>exact ih c
  |loop c=>exact ih c
  |_=>cases q<;>rfl
theorem B2h(c:Code):nav c []=c:=by cases c<;>rfl
def D3a:Code->Bool
 | .seq _ _=>true
 |_=>false
def cnO:Code->Option Cr
 | .cond o _ _=>some o
 |_=>none
def blO:Code->Ak
 | .block i _=>some i
 |_=>none
def D7q:Code->Bool
 | .loop _=>true
 |_=>false
def A5Q(n:Nat)(o:Oper):Ak:=match o.guard,o.dst with
 |none,some d=>bif Bq d n then some d else none
 |_,_=>none
def C0R(n:Nat)(fr:List (Nat×Value))(ops:Array Oper)(o:Oper)(j g:Nat):Ak:=match o.guard,o.dst,(ops[j]?).bind (·.dst),X1 fr g with
 |some (i,aM),some d,some k,some (.bool b)=>bif(Bu i j&&Bu k g)&&(Bq g n&&(Bq d n&&(b==aM)))then some d else none
 |_,_,_,_=>none
section
variable {P:Cz}{a:Act}{n:Nat}{fr:List (Nat×Value)}{w w':World}{o:Oper}{Q:Exit->Act->World->Prop}{f:Func}{p:Aj}
theorem wsq(h:D3a (A1 f p)=true)(hx:(A1 f (p++[0])).wp P (Exit.then ((A1 f (p++[1])).wp P Q) Q) a w):(A1 f p).wp P Q a w:=by
 unfold A1 at*;rw[A7o,A7o]at hx;generalize nav (body f) p=c at*;cases c<;>first|(cases h;done)|skip
 simp only[nav,B2h]at hx;exact wp_seq hx
theorem wcn(tm:Tm a n fr){o:Cr}(h:cnO (A1 f p)=some o)(b:Bool)(hv:evV fr o=some (.bool b))(hx:(if b then A1 f (p++[0])else A1 f (p++[1])).wp P Q a w):(A1 f p).wp P Q a w:=by
 unfold A1 at*;rw[A7o,A7o]at hx;generalize nav (body f) p=c at*;cases c<;>first|(cases h;done)|skip
 cases h;simp only[nav,B2h]at hx;exact wp_cond (tm.ev hv) hx
theorem wbl(id:Nat)(h:blO (A1 f p)=some id)(hx:(A1 f (p++[0])).wp P (Exit.inBlock id Q) a w):(A1 f p).wp P Q a w:=by
 unfold A1 at*;rw[A7o]at hx;generalize nav (body f) p=c at*;cases c<;>first|(cases h;done)|skip
 cases h;simp only[nav,B2h]at hx;exact wp_block hx
theorem wlp(h:D7q (A1 f p)=true)(I:Nat->Act->World->Prop)(n₀:Nat)(h₀:I n₀ a w)
  (kB:∀n a w,I n a w->(A1 f (p++[0])).wp P (Exit.then (λa' w'=>∃n',n'<n/\I n' a' w') Q) a w):(A1 f p).wp P Q a w:=by
 unfold A1 at*;rw[A7o]at kB;generalize nav (body f) p=c at*;cases c<;>first|(cases h;done)|skip
 simp only[nav,B2h]at kB;exact wp_loop_ghost I n₀ h₀ kB
theorem Wn{ops:Array Oper}{c:Code}{Q1:Exit->Act->World->Prop}(h:c.wp P Q1 a w):Bx P ops (Exit.then (c.wp P Q1) Q) [] a w:=h
theorem B57{d:Nat}(h:A5Q n o=some d):o.guard=none/\o.dst=some d/\Bq d n=true:=by
 unfold A5Q at h;split at h
 ·rename_i d' h1 h2;cases hb:Bq d' n with
  |false=>rw[hb]at h;cases h
  |true=>rw[hb]at h;cases h;exact⟨h1,h2,hb⟩
 ·cases h
theorem Pv{ops:Array Oper}{anq:List Oper}(tm:Tm a n fr){d:Nat}{v:Value}(af:(Cp a.eval o).run P w=.ok (.value v) w')(hk:∀a',Tm a' n ((d,v)::fr)->Bx P ops Q anq a' w')(hd:A5Q n o=some d:=by rfl):Bx P ops Q (o::anq) a w:=by
 obtain⟨h1,h2,h3⟩:=B57 hd;exact wpList_plain h1 λK hK=>A5d tm h2 h3 af λa tm=>hK _ _ (hk a tm)
theorem Pg{ops:Array Oper}{anq:List Oper}(tm:Tm a n fr)(j g:Nat){d:Nat}{v:Value}(af:(Cp a.eval o).run P w=.ok (.value v) w')(hk:∀a',Tm a' n ((d,v)::fr)->Bx P ops Q anq a' w')(hd:C0R n fr ops o j g=some d:=by rfl):Bx P ops Q (o::anq) a w:=by
 unfold C0R at hd;split at hd
 ·rename_i i aM d' k b h1 h2 h3 h4;cases hb:((Bu i j&&Bu k g)&&(Bq g n&&(Bq d' n&&(b==aM))))with
  |false=>rw[hb]at hd;cases hd
  |true=>
   rw[hb]at hd;cases hd;simp only[Bj,F6]at hb;obtain⟨⟨rfl,rfl⟩,e3,e4,e5⟩:=hb;cases eq_of_beq e5;exact D3L tm h1 h3 e3 h4 λK hK=>A5d tm h2 e4 af λa tm=>hK _ _ (hk a tm)
 ·cases hd
theorem Ps{ops:Array Oper}{anq:List Oper}(tm:Tm a n fr){t:TypeId}{x y:Cr}{b off sz fu:Nat}{zc us:Ai}{v:Value}(bJ:R4 P t=some (sz,fu,some zc))(cO:(storeCells ⟨b,off,none⟩ us).run P w=.ok () w')(hk:Bx P ops Q anq a w')
  (hg:o.guard=none:=by rfl)(aO:o.dst=none:=by rfl)(ag:o.op=.store t x y:=by rfl)(hx:evV fr x=some (.pointer (some ⟨b,off,none⟩)):=by rfl)(hy:evV fr y=some v:=by rfl)(hv:v.cells=us.toArray:=by rfl)(hl:us.length=sz:=by rfl):Bx P ops Q (o::anq) a w:=
 wpList_plain hg λK hK=>A8g tm bJ aO ag hx hy hv hl cO (hK _ _ hk)
theorem Pm{ops:Array Oper}{anq:List Oper}(tm:Tm a n fr){d:Nat}{v:Value}{x:Cr}(hk:∀a',Tm a' n ((d,v)::fr)->Bx P ops Q anq a' w)(ag:o.op=.move x:=by rfl)(hx:evV fr x=some v:=by rfl)(hd:A5Q n o=some d:=by rfl):Bx P ops Q (o::anq) a w:=Pv tm (A2u tm ag hx) hk hd
theorem Pa{ops:Array Oper}{anq:List Oper}(tm:Tm a n fr){d:Nat}{v:Value}{x:Cr}(hk:∀a',Tm a' n ((d,v)::fr)->Bx P ops Q anq a' w)(ag:o.op=.assign x:=by rfl)(hx:evV fr x=some v:=by rfl)(hd:A5Q n o=some d:=by rfl):Bx P ops Q (o::anq) a w:=Pv tm (B01 tm ag hx) hk hd
theorem Dt{ops:Array Oper}{S:World->Prop}{listed:Array Bool}{fuel d:Nat}{v:Value}(tm:Tm a n fr)(i:Nat)(hi:ops[i]?=some o)(hS:S w)(af:∀w,S w->(Cp a.eval o).run P w=.ok (.value v) w)
  (hk:∀a',Tm a' n ((d,v)::fr)->wpAnyH P .any ops (L7 Q) S fuel (listed.setIfInBounds i true) a' w)(hs:Dk ops=true:=by kernel_rfl)(hf:Dl .any ops listed i=true:=by kernel_rfl)
  (hr:(Cb .any ops listed).contains i=true:=by kernel_rfl) (hd:A5Q n o=some d:=by rfl):wpAnyH P .any ops (L7 Q) S (fuel+1) listed a w:=by
 obtain⟨h1,h2,h3⟩:=B57 hd;exact C9V tm hi hs hf hr h1 h2 h3 hS af hk
theorem Lt{ops:Array Oper}{L:Nat}{S:World->Prop}{listed:Array Bool}{fuel d:Nat}{v:Value}(tm:Tm a n fr)(i:Nat)(hi:ops[i]?=some o)(hS:S w)(af:∀w,S w->(Cp a.eval o).run P w=.ok (.value v) w)
  (hk:∀a',Tm a' n ((d,v)::fr)->A0J P ops (L7 Q) S L fuel (listed.setIfInBounds i true) a' w)(hs:Dk ops=true:=by kernel_rfl)(hf:Dl .any ops listed i=true:=by kernel_rfl)
  (hr:(Cb .any ops listed).contains i=true:=by kernel_rfl) (hL:B0X ops L i=true:=by kernel_rfl) (nY:Bu i L=false:=by kernel_rfl) (hd:A5Q n o=some d:=by rfl):A0J P ops (L7 Q) S L (fuel+1) listed a w:=by
 obtain⟨h1,h2,h3⟩:=B57 hd;exact D8A tm hi hs hf hr hL nY h1 h2 h3 hS af hk
inductive Pk (fr:List (Nat×Value)):Aj->List (Nat×Value)->Prop where
 |nil:Pk fr [] []
 |cons {i:Nat} {v:Value} {is:Aj} {r:List (Nat×Value)} (h:X1 fr i=some v) (t:Pk fr is r):Pk fr (i::is) ((i,v)::r)
theorem Pk.all{is:Aj}{r:List (Nat×Value)}(h:Pk fr is r):B6i fr r:=by
 induction h with
 |nil=>trivial
 |cons h _ ih=>exact⟨h,ih⟩
theorem Tm.keep(tm:Tm a n fr)(is:Aj){r:List (Nat×Value)}(h:Pk fr is r:=by repeat' constructor):Tm a n r:=tm.sub h.all
end
end Go.Aev
namespace Go.Aev
open Go.Proofs
def A6n(n:Nat):Bool:=Nat.ble n 1099511627776
def Z7(s:Ab):Bool:=(s==[40])||((s==[91])||(s==[123]))
def A1Y(s:Ab):Bool:=(s==[41])||((s==[93])||(s==[125]))
def B0Y(s:Ab):Bool:=s==[101,110,100]
def setTok(N:List G1)(n:Nat)(nd:G1)(at_:Nat):List G1:=N.set n {nd with tok:=(at_:Int)}
def A88(N:List G1)(n:Nat)(nd:G1)(r:Ag):List G1:=
 N.set n {nd with kids:=(Db r.length).map λi=>((N.length+i:Nat):Int)}++r.map λs=>⟨s,[],0⟩
def A4b(toks:Ah)(depth:Int):Nat->List G1->Aj->Nat->Int->Option (A2f×Nat×Int)
 |0,_,_,_,_=>none
 |_+1,N,[],_,_=>some (⟨N,toks⟩,0,0)
 |f+1,N,n::anq,at_,op=>
  match N[n]? with
  |none=>none
  |some nd=>
  match toks[at_]? with
  |none=>none
  |some t=>
   bif okR [.bool] (F56 nd.sym)then
    bif lB (gL (F56 nd.sym) 0)then
     bif okR [.bool] (F58 nd.sym t)then
      bif lB (gL (F58 nd.sym t) 0)then
       bif Z7 nd.sym then
        bif decide (depth<Bh .i64 (op+1))then some (⟨[],[]⟩,at_,71)
        else A4b toks depth f (setTok N n nd at_) anq (bif B0Y nd.sym then at_ else at_+1) (Bh .i64 (op+1))
       else A4b toks depth f (setTok N n nd at_) anq (bif B0Y nd.sym then at_ else at_+1) (bif A1Y nd.sym then Bh .i64 (op - 1)else op)
      else some (⟨[],[]⟩,at_,70)
     else none
    else
     match nd.kids with
     |[]=>
      bif okR [.sl .str none] (F57 nd.sym t)then
       bif A6n (N.length+(anq.length+(H8 (gL (F57 nd.sym t) 0)).length))then
        A4b toks depth f (A88 N n nd (H8 (gL (F57 nd.sym t) 0))) ((Db (H8 (gL (F57 nd.sym t) 0)).length).map (λi=>N.length+i)++anq) at_ op
       else none
      else none
     |_::_=>none
   else none
def A0Z:Ab:=[68,111,99,117,109,101,110,116]
def F25(a0:Ah)(a1:Int):Ad:=
 bif A6n a0.length then
  match A4b a0 a1 NN [⟨A0Z,[],0⟩] [0] 0 0 with
  |some (d,at_,k)=>some (.tup [.agg .tree d,.int .i64 (at_:Int),.int .i64 k])
  |none=>none
 else none
def S25:Ae->Option (Bool×E6)
 |[.sl .tok a0 none,.int .i64 a1]=>some (okR [.agg .tree,.int .i64,.int .i64] (F25 a0 a1),M1 [.agg .tree,.int .i64,.int .i64] (F25 a0 a1))
 |_=>none
theorem B28:A4M Bf 102 1=some (1,1+1):=by kernel_rfl
theorem C7P:A4M Bf 153 0=some (0,0+1):=by kernel_rfl
theorem C5q:A4M Bf 153 1=some (1,0+1):=by kernel_rfl
theorem D5a:A4M Bf 153 2=some (2,0+1):=by kernel_rfl
theorem A4T:A4M Bf 97 0=some (0,0+1):=by kernel_rfl
theorem D5z:A5c Bf 151=true:=by kernel_rfl
theorem pl3:A5c Bf 3=true:=by kernel_rfl
theorem pl9:A5c Bf 9=true:=by kernel_rfl
theorem A7x:A5c Bf 95=true:=by kernel_rfl
theorem A7v:A5R Bf 102=true:=by kernel_rfl
theorem A9o:A5R Bf 44=true:=by kernel_rfl
theorem B7F:A5R Bf 97=true:=by kernel_rfl
theorem A0C:R4 Bf 102=some (7,72,some [.int .i64 0,.int .i64 0,.int .i64 0,.int .i64 0,.int .i64 0,.string ⟨[].toArray⟩,.string ⟨[].toArray⟩]):=by kernel_rfl
theorem D8K:R4 Bf 151=some (1,24,some [.slice none 0 0]):=by kernel_rfl
theorem A5Y:R4 Bf 153=some (3,48,some [.string ⟨[].toArray⟩,.slice none 0 0,.int .i64 0]):=by kernel_rfl
theorem tz3:R4 Bf 3=some (1,8,some [.int .i64 0]):=by kernel_rfl
theorem A2Q:R4 Bf 44=some (2,16,some [.int .i64 0,.int .i64 0]):=by kernel_rfl
theorem tz9:R4 Bf 9=some (1,16,some [.string ⟨[].toArray⟩]):=by kernel_rfl
theorem D7b:R4 Bf 95=some (1,24,some [.slice none 0 0]):=by kernel_rfl
theorem A3F:R4 Bf 97=some (2,48,some [.slice none 0 0,.slice none 0 0]):=by kernel_rfl
theorem X8:Cy Bf 122=some (.slice 9):=by kernel_rfl
theorem A0E:Cy Bf 151=some (.slice 3):=by kernel_rfl
theorem B3x:Cy Bf 93=some (.slice 102):=by kernel_rfl
theorem A2L:Cy Bf 95=some (.slice 153):=by kernel_rfl
theorem C0E{w:World}{m:Nat->Nat}{t:Ty6}{l:List (A4 t)}{o:Ak}{v:Value}(h:CRep U6 w m (.sl t l o) v){i:Nat}{x:A4 t}(hi:l[i]?=some x):
  ∃(b off cap:Nat)(us:Ai),v=.slice (some ⟨b,off,none⟩) l.length cap/\l.length<=cap/\us.length=U6.size t/\(∀(j:Nat)(u:Value),us[j]?=some u->w.cell? ⟨b,off+i*U6.size t+j,none⟩=some u)/\CRep U6 w m (.agg t x) (.agg us.toArray):=by
 have jr:=I7 hi;rcases h.sl_cells u6_ok with⟨rfl,_⟩|⟨b,off,cap,cs,hv,aT,aX,hc,eF⟩
 ·simp at jr
 have aL:∀(j:Nat) lf,(U6.cells t x)[j]?=some lf->(flat U6 t l)[i*U6.size t+j]?=some lf:=λj lf hj=>by
  have bA:=I7 hj;rw[u6_ok.len]at bA;rw[flat_get u6_ok t l i x j hi bA];exact hj
 have ck:=u6_ok.len t x;refine⟨b,off,cap,(Db (U6.size t)).map λj=>cs (i*U6.size t+j),hv,aT,by simp,λj u hj=>?_,?_⟩
 ·have bA:j<U6.size t:=by have:=I7 hj;simpa using this
  rw[Cv,Ev bA]at hj;cases hj;have:=hc (i*U6.size t+j) _ (aL j _ (Bl (by omega)));rw[Nat.add_assoc];exact this
 ·refine .agg t x _ (by simp) (λj=>cs (i*U6.size t+j)) (λj lf hj=>?_) (λj lf hj=>eF _ lf (aL j lf hj));have bA:=I7 hj;rw[ck]at bA;rw[Cv,Ev bA];rfl
theorem B9G{w:World}{m:Nat->Nat}:∀(ls:Ae)(vs:Ai),ls.length=vs.length->(∀(j:Nat) lf,ls[j]?=some lf->∃u,vs[j]?=some u/\CRep U6 w m lf u)->LsC U6 w m ls vs
 |[],[],_,_=>trivial
 |l::ls,v::vs,hl,h=>by
  refine⟨?_,B9G ls vs (by simpa using hl) λj lf hj=>?_⟩
  ·obtain⟨u,h1,h2⟩:=h 0 l rfl;cases h1;exact h2
  ·obtain⟨u,h1,h2⟩:=h (j+1) lf (by simpa using hj);exact⟨u,by simpa using h1,h2⟩
 |[],_::_,hl,_=>by cases hl
 |_::_,[],hl,_=>by cases hl
theorem B7n{w:World}{m:Nat->Nat}{t:Ty6}{x:A4 t}{v:Value}(h:CRep U6 w m (.agg t x) v):∃vs:Ai,v=.agg vs.toArray/\LsC U6 w m (U6.cells t x) vs:=by
 obtain⟨vs,hv,hl,cs,h1,h2⟩:=A9b h;exact⟨vs,hv,B9G _ _ (by rw[u6_ok.len,hl]) λj lf hj=>⟨_,h1 j lf hj,h2 j lf hj⟩⟩
theorem A9K{w:World}{m:Nat->Nat}{t:Ty6}{x:A4 t}{vs:Ai}(h:LsC U6 w m (U6.cells t x) vs):CRep U6 w m (.agg t x) (.agg vs.toArray):=by
 have hl:=h.len;rw[u6_ok.len]at hl;refine .agg t x vs hl.symm (λj=>vs.getD j undef) (λj lf hj=>?_) λj lf hj=>?_
 ·obtain⟨u,h1,h2⟩:=h.get j lf hj;rw[Dy,h1];rfl
 ·obtain⟨u,h1,h2⟩:=h.get j lf hj;rw[Dy,h1];exact h2
def G8(s:Ab):Value:=.string ⟨s.toArray⟩
def L1(p:A7):Ai:=[.int .i64 p.line,.int .i64 p.col]
def U4(t:A0):Ai:=[.int .i64 t.kind,.int .i64 t.pos.line,.int .i64 t.pos.col,.int .i64 t.from_,.int .i64 t.to_,G8 t.text,G8 t.value]
def exV:L6->Option Value
 | .int k n=>some (.int k n)
 | .bool b=>some (.bool b)
 | .str s=>some (G8 s)
 |_=>none
def A9v:Ae->Option Ai
 |[]=>some []
 |l::ls=>match exV l,A9v ls with
  |some v,some vs=>some (v::vs)
  |_,_=>none
theorem D0B{w:World}{m:Nat->Nat}{l:L6}{v u:Value}(h:CRep U6 w m l v)(he:exV l=some u):v=u:=by
 cases l<;>simp only[exV,Eg]at he<;>first
  |(cases he;done)
  |(subst he;exact CRep.int_inv h)
  |(subst he;exact CRep.bool_inv h)
  |(subst he;exact CRep.str_inv h)
theorem B9Y{w:World}{m:Nat->Nat}:∀{ls:Ae}{vs us:Ai},LsC U6 w m ls vs->A9v ls=some us->vs=us
 |[],[],us,_,he=>by simp only[A9v,Eg]at he;exact he
 |l::ls,v::vs,us,h,he=>by
  simp only[A9v]at he;split at he
  ·rename_i v' ox h1 h2;cases he;rw[D0B h.1 h1,B9Y h.2 h2]
  ·cases he
 |[],_::_,_,h,_=>h.elim
 |_::_,[],_,h,_=>h.elim
theorem D7i{w:World}{m:Nat->Nat}{t:A0}{v:Value}(h:CRep U6 w m (.agg .tok t) v):v=.agg (U4 t).toArray:=by
 obtain⟨vs,hv,hs⟩:=B7n h;rw[hv,B9Y hs (us:=U4 t) rfl]
theorem B0K{w:World}{m:Nat->Nat}(t:A0):CRep U6 w m (.agg .tok t) (.agg (U4 t).toArray):=A9K ⟨.int _ _,.int _ _,.int _ _,.int _ _,.int _ _,.str _,.str _,trivial⟩
theorem C5U{w:World}{m:Nat->Nat}(t:A7):CRep U6 w m (.agg .pos t) (.agg (L1 t).toArray):=A9K ⟨.int _ _,.int _ _,trivial⟩
theorem B3G{w:World}{m:Nat->Nat}{l:Ah}{v:Value}(h:CRep U6 w m (.sl .tok l none) v){i:Nat}{t:A0}(hi:l[i]?=some t):
  ∃b off cap,v=.slice (some ⟨b,off,none⟩) l.length cap/\∀(j:Nat) u,(U4 t)[j]?=some u->w.cell? ⟨b,off+i*7+j,none⟩=some u:=by
 obtain⟨b,off,cap,us,hv,_,hl,hc,hr⟩:=C0E h hi;have h1:=D7i hr;have:us=U4 t:=by
  simp only[Ee]at h1;have:=congrArg Fj h1;simpa using this
 subst this;exact⟨b,off,cap,hv,hc⟩
theorem C1P{w:World}{m:Nat->Nat}{l:Ag}{v:Value}(h:CRep U6 w m (.sl .str l none) v){i:Nat}{t:Ab}(hi:l[i]?=some t):
  ∃b off cap,v=.slice (some ⟨b,off,none⟩) l.length cap/\w.cell? ⟨b,off+i*1,none⟩=some (G8 t):=by
 obtain⟨b,off,cap,us,hv,_,hl,hc,hr⟩:=C0E (t:=.str) h hi;obtain⟨vs,h1,h2⟩:=B7n hr;have:us=vs:=by
  simp only[Ee]at h1;have:=congrArg Fj h1;simpa using this
 subst this
 match us,h2 with
 |[u],⟨h3,_⟩=>
  have:=CRep.str_inv h3;subst this;exact⟨b,off,cap,hv,hc 0 _ rfl⟩
theorem C7x{w:World}{m:Nat->Nat}{l:Ag}{v:Value}(h:CRep U6 w m (.sl .str l none) v){i:Nat}{t:Ab}(hi:l[i]?=some t):
  ∃b off cap,v=.slice (some ⟨b,off,none⟩) l.length cap/\w.cell? ⟨b,off+i*1,none⟩=some (G8 t)/\off+i*1<m b:=by
 have jr:=I7 hi;obtain⟨b,off,cap,hv,hc⟩:=C1P h hi;refine⟨b,off,cap,hv,hc,?_⟩;rcases h.sl_cells u6_ok with⟨rfl,_⟩|⟨b',jc,eZ,cs,da,aT,aX,_⟩
 ·simp at jr
 ·rw[hv]at da;cases da;have:off+l.length*1<=m b:=aX;omega
theorem A3o{S:Ae->Option (Bool×E6)}{ls:Ae}{b:Bool}{r:E6}(h:S ls=some (b,r))(hb:b=true):sG S ls=some r:=by
 subst hb;unfold sG;rw[h];rfl
theorem A18{n:Int}(h1: -9223372036854775808<=n)(h2:n<9223372036854775808):Bh .i64 n=n:=by
 exact Go.IntWalk.i64_in n ⟨h1,by omega⟩
theorem A9r{n:Nat}(h:n<4611686018427387904):Bh .i64 ((n:Int)+1)=((n+1:Nat):Int):=by
 have h1:=A18 (n:=(n:Int)+1) (by omega) (by omega);rw[h1];omega
theorem C0r{w0 w':World}{m0 m':Nat->Nat}{M BM:Nat->Prop}{np:Nat}{pv:Nat->Value}(k:KM w0 m0 w' m' M)(hM:∀b,M b->BM b){ls:Ae}{vs:Ai}(h:LsC U6 w' m' ls vs)(hc:ls.all clL=true)(g:Gh)(hg:g.wm=m'):
  Post U6 ⟨w0,m0,BM,np,pv⟩ g (.tup ls) (.tuple vs.toArray) w':=by
 have cY:∀d,(Ent.tup ls:E6).has d=true->False:=λd hd=>by
  simp only[Ent.has,By]at hd;obtain⟨lf,h1,h2⟩:=hd;rw[B2y ((Bm.1 hc) lf h1)]at h2;cases h2
 exact{os:=k.os,tape:=k.tape,output:=k.output,size:=k.size,frame:=λb hb hn=>by rw[hg];exact k.heap b hb λe=>hn (hM b e),ext:=by rw[hg];exact k.ext,zero:=by rw[hg];exact k.zero,rep:=⟨vs,rfl,h.rep hg hc⟩,nit:=rfl,tip:=λd hd=>(cY d hd).elim,disj:=λd _ _ hd=>(cY d hd).elim,mine:=λd _ hd=>(cY d hd).elim}
def D2(n:Nat):Value:=.int .i64 (n:Int)
def N5(s:Ab):Ai:=[G8 s,.slice none 0 0,.int .i64 0]
structure NodR(w:World)(m:Nat->Nat)(xs:Ai)(N:List G1)(ex:Ak):Prop where
 len:xs.length=N.length*3
 sym:∀(i:Nat) nd,N[i]?=some nd->xs[i*3]?=some (G8 nd.sym)
 tok:∀(i:Nat) nd,N[i]?=some nd->xs[i*3+2]?=some (.int .i64 nd.tok)
 kid:∀(i:Nat) nd,N[i]?=some nd->ex≠some i->∃kv,xs[i*3+1]?=some kv/\CRep U6 w m (.sl .i64 nd.kids none) kv/\(nd.kids=[]->kv=.slice none 0 0)
section
variable {w w':World}{m m':Nat->Nat}{xs:Ai}{N:List G1}{ex:Ak}{S:Nat->Prop}
theorem NodR.keep(h:NodR w m xs N ex)(k:KM w m w' m' S):NodR w' m' xs N ex:=
 ⟨h.len,h.sym,h.tok,λi nd hi he=>by obtain⟨kv,h1,h2,h3⟩:=h.kid i nd hi he;exact⟨kv,h1,h2.mono u6_ok k.ext,h3⟩⟩
theorem A00{α:Type}{l:List α}{i:Nat}{x:α}(h:l[i]?=some x):i<l.length:=(Cj.1 h).1
theorem NodR.setTok(h:NodR w m xs N ex){n:Nat}{nd:G1}(hn:N[n]?=some nd)(at_:Nat):NodR w m (xs.set (n*3+2) (D2 at_)) (setTok N n nd at_) ex:=by
 have lk:=A00 hn;have vh:n*3+2<xs.length:=by rw[h.len];omega
 have bG:∀(i:Nat) x,(Aev.setTok N n nd at_)[i]?=some x->(i=n/\x={nd with tok:=(at_:Int)})\/(i≠n/\N[i]?=some x):=λi x hx=>by
  unfold Aev.setTok at hx;rw[Eu]at hx;by_cases hi:n=i
  ·rw[Au hi,Au lk]at hx;cases hx;exact .inl ⟨hi.symm,rfl⟩
  ·rw[At hi]at hx;exact .inr ⟨Dn hi,hx⟩
 refine⟨by rw[De,h.len];unfold Aev.setTok;rw[De],λi x hx=>?_,λi x hx=>?_,λi x hx he=>?_⟩
 ·rw[Cm (by omega)];rcases bG i x hx with⟨rfl,rfl⟩|⟨_,h1⟩
  ·exact h.sym _ nd hn
  ·exact h.sym i x h1
 ·rcases bG i x hx with⟨rfl,rfl⟩|⟨h0,h1⟩
  ·rw[List.getElem?_set_self vh];rfl
  ·rw[Cm (by omega)];exact h.tok i x h1
 ·rw[Cm (by omega)];rcases bG i x hx with⟨rfl,rfl⟩|⟨h0,h1⟩
  ·exact h.kid _ nd hn he
  ·exact h.kid i x h1 he
theorem NodR.push(h:NodR w m xs N ex)(s:Ab)(fk:∀i,ex=some i->i<N.length):NodR w m (xs++N5 s) (N++[⟨s,[],0⟩]) ex:=by
 have hl:=h.len;have bG:∀(i:Nat) x,(N++[(⟨s,[],0⟩:G1)])[i]?=some x->(i=N.length/\x=⟨s,[],0⟩)\/(i<N.length/\N[i]?=some x):=λi x hx=>by
  by_cases hi:i<N.length
  ·rw[Dx hi]at hx;exact .inr ⟨hi,hx⟩
  ·have h2:=A00 hx;rw[Aw,Cf]at h2;have h3:i=N.length:=by omega
   subst h3;rw[Ew (Bi _),Nat.sub_self]at hx;cases hx;exact .inl ⟨rfl,rfl⟩
 have uo:∀j,j<N.length*3->(xs++N5 s)[j]?=xs[j]? :=λj hj=>Dx (by omega);have new:∀j,(xs++N5 s)[N.length*3+j]?=(N5 s)[j]? :=λj=>by rw[Ew (by omega),hl];congr 1;omega
 refine⟨by rw[Aw,Aw,hl,Cf,Nat.add_mul];rfl,λi x hx=>?_,λi x hx=>?_,λi x hx he=>?_⟩
 ·rcases bG i x hx with⟨rfl,rfl⟩|⟨h0,h1⟩
  ·exact new 0
  ·rw[uo _ (by omega)];exact h.sym i x h1
 ·rcases bG i x hx with⟨rfl,rfl⟩|⟨h0,h1⟩
  ·exact new 2
  ·rw[uo _ (by omega)];exact h.tok i x h1
 ·rcases bG i x hx with⟨rfl,rfl⟩|⟨h0,h1⟩
  ·exact⟨_,new 1,.nil _ _ _ _,λ_=>rfl⟩
  ·rw[uo _ (by omega)];exact h.kid i x h1 he
theorem NodR.setKid{n:Nat}(h:NodR w m xs N (some n))(kv:Value):NodR w m (xs.set (n*3+1) kv) N (some n):=by
 refine⟨by rw[De];exact h.len,λi x hx=>?_,λi x hx=>?_,λi x hx he=>?_⟩
 ·rw[Cm (by omega)];exact h.sym i x hx
 ·rw[Cm (by omega)];exact h.tok i x hx
 ·have:n≠i:=λe=>he (by rw[e]);rw[Cm (by omega)];exact h.kid i x hx he
theorem NodR.open(h:NodR w m xs N none)(n:Nat):NodR w m xs N (some n):=⟨h.len,h.sym,h.tok,λi nd hi _=>h.kid i nd hi (λe=>by cases e)⟩
theorem NodR.shut{n:Nat}{nd:G1}{K:Aa}(h:NodR w m xs N (some n))(hn:N[n]?=some nd){kv:Value}(hx:xs[n*3+1]?=some kv)(hk:CRep U6 w m (.sl .i64 K none) kv)(a7:K=[]->kv=.slice none 0 0):NodR w m xs (N.set n {nd with kids:=K}) none:=by
 have lk:=A00 hn;have bG:∀(i:Nat) x,(N.set n {nd with kids:=K})[i]?=some x->(i=n/\x={nd with kids:=K})\/(i≠n/\N[i]?=some x):=λi x hx=>by
  rw[Eu]at hx;by_cases hi:n=i
  ·rw[Au hi,Au lk]at hx;cases hx;exact .inl ⟨hi.symm,rfl⟩
  ·rw[At hi]at hx;exact .inr ⟨Dn hi,hx⟩
 refine⟨by rw[De];exact h.len,λi x hx=>?_,λi x hx=>?_,λi x du he=>?_⟩
 ·rcases bG i x hx with⟨rfl,rfl⟩|⟨h0,h1⟩
  ·exact h.sym _ nd hn
  ·exact h.sym i x h1
 ·rcases bG i x hx with⟨rfl,rfl⟩|⟨h0,h1⟩
  ·exact h.tok _ nd hn
  ·exact h.tok i x h1
 ·rcases bG i x du with⟨rfl,rfl⟩|⟨h0,h1⟩
  ·exact⟨kv,hx,hk,a7⟩
  ·exact h.kid i x h1 (λe=>h0 (by cases e;rfl))
theorem B8w{t:Ty6}{l:List (A4 t)}{j:Nat}{lf:L6}(h:(flat U6 t l)[j]?=some lf):∃x,l[j / U6.size t]?=some x/\(U6.cells t x)[j % U6.size t]?=some lf:=by
 have bV:=u6_ok.pos t;have bA:=A00 h;rw[A0S u6_ok]at bA;have jJ:j / U6.size t<l.length:=(Nat.div_lt_iff_lt_mul bV).2 bA;refine⟨_,Bl jJ,?_⟩;rw[<-flat_get u6_ok t l (j / U6.size t) _ (j % U6.size t) (Bl jJ) (Nat.mod_lt j bV),Em j (U6.size t)];exact h
theorem NodR.flat(h:NodR w m xs N none):∀(j:Nat)(lf:L6),(Aev.flat U6 .node N)[j]?=some lf->∃u:Value,xs[j]?=some u/\CRep U6 w m lf u:=λj lf hj=>by
 obtain⟨x,h1,h2⟩:=B8w (t:=.node) hj;have hs:U6.size .node=3:=rfl;rw[hs]at h1 h2;have hd:=Em j 3;have hm:=Nat.mod_lt j (show 3>0 by decide);generalize j % 3=r at h2 hd hm
 match r,h2,hm with
 |0,h2,_=>cases h2;rw[<-hd];exact⟨_,h.sym _ _ h1,.str _⟩
 |1,h2,_=>
  cases h2;rw[<-hd];obtain⟨kv,q1,q2,_⟩:=h.kid _ _ h1 (λe=>by cases e);exact⟨kv,q1,q2⟩
 |2,h2,_=>cases h2;rw[<-hd];exact⟨_,h.tok _ _ h1,.int _ _⟩
end
structure DerI(w0:World)(m0:Nat->Nat)(w:World)(m:Nat->Nat)(ρ:Nat->Nat)(N:List G1)(ex:Ak)(stk:Aj)(nv sv vt:Value)(xs:Ai)(bd bz:Nat):Prop where
 sys:Sys w0 m0 (λ_=>False) w m ρ
 arr:ArrN w 3 nv N.length xs
 ar:∀b,H5 nv=some b->ρ b=4
 rep:NodR w m xs N ex
 stk:ArrN w 1 sv stk.length (stk.reverse.map D2)
 sr:∀b,H5 sv=some b->ρ b=3
 d:Bk w bd [nv,vt]
 dr:ρ bd=2
 z:Bk w bz [.slice none 0 0,.slice none 0 0]
 zr:ρ bz=1
section
variable {w0 w w':World}{m0 m m' ρ:Nat->Nat}{N:List G1}{ex:Ak}{stk:Aj}{nv sv vt:Value}{xs:Ai}{bd bz:Nat}{S:Nat->Prop}
theorem DerI.z0(h:DerI w0 m0 w m ρ N ex stk nv sv vt xs bd bz):∀b,w.heap.size<=b->m b=0:=h.sys.z
theorem DerI.step(h:DerI w0 m0 w m ρ N ex stk nv sv vt xs bd bz)(k:KM w m w' m' S)(hS:∀b,b<w.heap.size->S b->5<=ρ b)(hm:(∀b, ¬S b)\/m'=m)(r:Nat)(hr:r≠0->m'=m):DerI w0 m0 w' m' (H2 ρ w.heap.size r) N ex stk nv sv vt xs bd bz:=by
 have no:∀b,b<w.heap.size->ρ b<5->¬S b:=λb hb ap hs=>by have:=hS b hb hs;omega
 have dS:∀b,H5 nv=some b->¬S b:=λb hb=>no b (h.arr.lt hb) (by rw[h.ar b hb];decide);have jK:∀b,H5 sv=some b->¬S b:=λb hb=>no b (h.stk.lt hb) (by rw[h.sr b hb];decide);refine⟨h.sys.step k (λb hb hs=>by have:=hS b hb hs;omega) (λb hb hs=>?_) r (λh0 b hb=>by rw[hr h0];exact h.z0 b hb),k.arr h.arr dS,λb hb=>?_,h.rep.keep k,k.arr h.stk jK,λb hb=>?_,k.bk h.d (no _ h.d.lt (by rw[h.dr];decide)),?_,k.bk h.z (no _ h.z.lt (by rw[h.zr];decide)),?_⟩
 ·rcases hm with h1|h1
  ·exact absurd hs (h1 b)
  ·rw[h1];exact h.sys.zr b (by have:=hS b hb hs;omega)
 ·rw[J2 (h.arr.lt hb)];exact h.ar b hb
 ·rw[J2 (h.stk.lt hb)];exact h.sr b hb
 ·rw[J2 h.d.lt];exact h.dr
 ·rw[J2 h.z.lt];exact h.zr
theorem DerI.shut(h:DerI w0 m0 w m ρ N ex stk nv sv vt xs bd bz)(k:KM w m w m' S)(hS:∀b,b<w.heap.size->S b->5<=ρ b):∃ρ':Nat->Nat,DerI w0 m0 w m' ρ' N ex stk nv sv vt xs bd bz:=by
 classical
 have no:∀b,b<w.heap.size->ρ b<5->¬S b:=λb hb ap hs=>by have:=hS b hb hs;omega
 have bG:∀b,b<w.heap.size->ρ b<5->(if S b then 0 else ρ b)=ρ b:=λb hb ap=>At (no b hb ap);refine⟨λb=>if S b then 0 else ρ b,h.sys.close k (λb hb hs=>by have:=hS b hb hs;omega) (λb hb=>?_),h.arr,λb hb=>?_,h.rep.keep k,h.stk,λb hb=>?_,h.d,?_,h.z,?_⟩
 ·by_cases hs:S b
  ·rw[Au hs]at hb;exact absurd rfl hb
  ·rw[At hs]at hb;exact⟨hb,hs⟩
 ·rw[bG b (h.arr.lt hb) (by rw[h.ar b hb];decide)];exact h.ar b hb
 ·rw[bG b (h.stk.lt hb) (by rw[h.sr b hb];decide)];exact h.sr b hb
 ·rw[bG bd h.d.lt (by rw[h.dr];decide)];exact h.dr
 ·rw[bG bz h.z.lt (by rw[h.zr];decide)];exact h.zr
theorem DerI.newStk(h:DerI w0 m0 w m ρ N ex stk nv sv vt xs bd bz){mH:Value}{stk':Aj}(k:KM w m w' m S)(hS:∀b,b<w.heap.size->S b->ρ b=3)(cw:ArrN w' 1 mH stk'.length (stk'.reverse.map D2))(hb:∀b,H5 mH=some b->H5 sv=some b\/w.heap.size<=b):
  DerI w0 m0 w' m (H2 ρ w.heap.size 3) N ex stk' nv mH vt xs bd bz:=by
 have no:∀b,b<w.heap.size->ρ b≠3->¬S b:=λb hb av hs=>av (hS b hb hs);refine⟨h.sys.stepM k (λb hb hs=>by rw[hS b hb hs];decide) 3,k.arr h.arr λb hb=>no b (h.arr.lt hb) (by rw[h.ar b hb];decide),λb hb=>?_,h.rep.keep k,cw,λb h1=>?_,k.bk h.d (no _ h.d.lt (by rw[h.dr];decide)),?_,k.bk h.z (no _ h.z.lt (by rw[h.zr];decide)),?_⟩
 ·rw[J2 (h.arr.lt hb)];exact h.ar b hb
 ·rcases hb b h1 with h2|h2
  ·rw[J2 (h.stk.lt h2)];exact h.sr b h2
  ·exact A0H h2
 ·rw[J2 h.d.lt];exact h.dr
 ·rw[J2 h.z.lt];exact h.zr
theorem DerI.newArr(h:DerI w0 m0 w m ρ N ex stk nv sv vt xs bd bz){hC:Value}{N':List G1}{jG:Ai}{qO:Ak}{w1:World}(k:KM w m w1 m S)(hS:∀b,b<w.heap.size->S b->ρ b=4)(hb:∀b,H5 hC=some b->H5 nv=some b\/w.heap.size<=b)
  (cw:ArrN w1 3 hC N'.length jG)(ak:NodR w1 m jG N' qO)(k2:KM w1 m w' m (λb=>b=bd))(hd:Bk w' bd [hC,vt]):
  DerI w0 m0 w' m (H2 ρ w.heap.size 4) N' qO stk hC sv vt jG bd bz:=by
 have no:∀b,b<w.heap.size->ρ b≠4->¬S b:=λb hb av hs=>av (hS b hb hs);have dX:=h.sys.stepM k (λb hb hs=>by rw[hS b hb hs];decide) 4;have iP:H2 ρ w.heap.size 4 bd=2:=by rw[J2 h.d.lt];exact h.dr
 have wv:∀b,H5 hC=some b->H2 ρ w.heap.size 4 b=4:=λb h1=>by
  rcases hb b h1 with h2|h2
  ·rw[J2 (h.arr.lt h2)];exact h.ar b h2
  ·exact A0H h2
 have cO:=k.arr h.stk λb hb=>no b (h.stk.lt hb) (by rw[h.sr b hb];decide);have ww:∀b,H5 sv=some b->H2 ρ w.heap.size 4 b=3:=λb hb=>by rw[J2 (h.stk.lt hb)];exact h.sr b hb
 have hz:=k.bk h.z (no _ h.z.lt (by rw[h.zr];decide));have uq:H2 ρ w.heap.size 4 bz=1:=by rw[J2 h.z.lt];exact h.zr
 refine⟨dX.stay k2 (λb _ hs=>by rw[hs,iP];decide),k2.arr cw λb hb hs=>?_,wv,ak.keep k2,k2.arr cO λb hb hs=>?_,ww,hd,iP,k2.bk hz λhs=>?_,uq⟩
 ·have:=wv b hb;rw[hs,iP]at this;cases this
 ·have:=ww b hb;rw[hs,iP]at this;cases this
 ·rw[hs,iP]at uq;cases uq
theorem DerI.setArr(h:DerI w0 m0 w m ρ N ex stk nv sv vt xs bd bz){N':List G1}{jG:Ai}{qO:Ak}{b0:Nat}(mz:H5 nv=some b0)(k:KM w m w' m (λb=>b=b0))(hl:N'.length=N.length)(cw:ArrN w' 3 nv N.length jG)(ak:NodR w m jG N' qO):
  DerI w0 m0 w' m ρ N' qO stk nv sv vt jG bd bz:=by
 have h4:=h.ar b0 mz;refine⟨h.sys.stay k (λb _ hs=>by rw[hs,h4];decide),by rw[hl];exact cw,h.ar,ak.keep k,k.arr h.stk λb hb hs=>?_,h.sr,k.bk h.d λhs=>?_,h.dr,k.bk h.z λhs=>?_,h.zr⟩
 ·have:=h.sr b hb;rw[hs,h4]at this;cases this
 ·have:=h.dr;rw[hs,h4]at this;cases this
 ·have:=h.zr;rw[hs,h4]at this;cases this
end
end Go.Aev
namespace Go.Aev
open Go.Proofs
variable {I:Inv}
theorem A8z(hb:HB I):Sound Bf U6 I 56 (sG S56):=F2 E56 hb rfl trivial trivial Tryz.func56 rfl Tryz.call56 (λls r h=>by
 unfold sG S56 at h;split at h
 ·exact D8 B2E rfl h
 ·cases h)
theorem B63(hb:HB I):Sound Bf U6 I 129 (sG A77):=F2 B8O hb rfl trivial trivial Tryz.func129 rfl Tryz.call129 (λls r h=>by
 unfold sG A77 at h;split at h
 ·exact D8 D3h rfl h
 ·cases h)
theorem A98(hb:HB I):Sound Bf U6 I 131 (sG A6F):=F2 B7J hb rfl trivial trivial Tryz.func131 rfl Tryz.call131 (λls r h=>by
 unfold sG A6F at h;split at h
 ·exact D8 C8Y rfl h
 ·cases h)
theorem B3y(hb:HB I):Sound Bf U6 I 183 (sG A8S):=F2 C4d hb rfl ⟨(A98 hb),trivial⟩ trivial Tryz.func183 rfl Tryz.call183 (λls r h=>by
 unfold sG A8S at h;split at h
 ·exact D8 D09 rfl h
 ·cases h)
theorem C5M(hb:HB I):Sound Bf U6 I 126 (sG B6J):=A53 B79 hb rfl ⟨(B63 hb),(A98 hb),(B3y hb),trivial⟩ trivial Tryz.func126 rfl Tryz.call126 (λls r h=>by
 unfold sG B6J at h;split at h
 ·exact A6L D6N rfl h
 ·cases h)
theorem C7C(hb:HB I):Sound Bf U6 I 127 (sG B5o):=A53 B96 hb rfl ⟨(B63 hb),(B3y hb),trivial⟩ trivial Tryz.func127 rfl Tryz.call127 (λls r h=>by
 unfold sG B5o at h;split at h
 ·exact A6L C56 rfl h
 ·cases h)
theorem D04(hb:HB I):Sound Bf U6 I 128 (sG B7b):=A53 C2w hb rfl ⟨(A98 hb),(B3y hb),trivial⟩ trivial Tryz.func128 rfl Tryz.call128 (λls r h=>by
 unfold sG B7b at h;split at h
 ·exact A6L D27 rfl h
 ·cases h)
theorem B9Z(hb:HB I):Sound Bf U6 I 57 (sG S57):=F2 E57 hb rfl ⟨(C5M hb),(C7C hb),(D04 hb),trivial⟩ trivial Tryz.func57 rfl Tryz.call57 (λls r h=>by
 unfold sG S57 at h;split at h
 ·exact D8 D7I rfl h
 ·cases h)
theorem C9e(hb:HB I):Sound Bf U6 I 130 (sG B66):=F2 C44 hb rfl trivial trivial Tryz.func130 rfl Tryz.call130 (λls r h=>by
 unfold sG B66 at h;split at h
 ·exact D8 D2w rfl h
 ·cases h)
end Go.Aev
namespace Go.Aev
open Go.Proofs
variable {I:Inv}
theorem C2T(hb:HB I):Sound Bf U6 I 58 (sG S58):=F2 E58 hb rfl ⟨(B63 hb),(C9e hb),(A98 hb),trivial⟩ trivial Tryz.func58 rfl Tryz.call58 (λls r h=>by
 unfold sG S58 at h;split at h
 ·exact D8 D17 rfl h
 ·cases h)
theorem B00(hb:HB I):Sound Bf U6 I 73 (sG S73):=F2 E73 hb rfl trivial trivial Tryz.func73 rfl Tryz.call73 (λls r h=>by
 unfold sG S73 at h;split at h
 ·exact D8 D5U rfl h
 ·cases h)
theorem B2s(hb:HB I):Sound Bf U6 I 146 (sG A8P):=A53 A4V hb rfl trivial trivial Tryz.func146 rfl Tryz.call146 (λls r h=>by
 unfold sG A8P at h;split at h
 ·exact A6L (C52 NN) rfl h
 ·cases h)
theorem B7a(hb:HB I):Sound Bf U6 I 77 (sG S77):=F2 E77 hb rfl trivial trivial Tryz.func77 rfl Tryz.call77 (λls r h=>by
 unfold sG S77 at h;split at h
 ·exact D8 (D52 NN) rfl h
 ·cases h)
theorem D31(hb:HB I):Sound Bf U6 I 149 (sG B4y):=F2 A5m hb rfl ⟨(B7a hb),trivial⟩ trivial Tryz.func149 rfl Tryz.call149 (λls r h=>by
 unfold sG B4y at h;split at h
 ·exact D8 (D63 NN) rfl h
 ·cases h)
theorem B4t(hb:HB I):Sound Bf U6 I 75 (sG S75):=F2 E75 hb rfl ⟨(D31 hb),trivial⟩ trivial Tryz.func75 rfl Tryz.call75 (λls r h=>by
 unfold sG S75 at h;split at h
 ·exact D8 D5E rfl h
 ·cases h)
end Go.Aev
