/- Proved here: the given statement Rows.PrinterLitsUptoCardSaid (the text of every literal and of every type reference that a source is read as). Conditions: those that the constant itself states, the bound on the argument's bulk among them; none beside it. -/
import Derived.Test.YtolabkginnkhgaaGreatDoorRows
import Derived.WalkKit
import Derived.ProofKit
import Derived.OpenShut
import Derived.ChangeMaps5
import Derived.Deep.Matrix
import Derived.Deep.DeepHandedRow
import Derived.SizedLaws
import Derived.Carry
import Derived.PinnedBridge
import Derived.Lib.LaidU8T
import Derived.Lib.LaidTab
import Derived.Test.YtolabkginnkhgaaGreatDoorCards
import Derived.Test.YtolabkginnkhgaaGreatDoorTie
import Derived.Test.YtolabkginnkhgaaGreatDoorX4
set_option maxRecDepth 100000
set_option linter.unusedVariables false
set_option linter.unusedSimpArgs false
open Go.Proofs.Tryz renaming prog→Ai,f5→Bf,checked→Bm,underlying3→Bu,underlying22→Bw,params5→Bx,func5→By
open List renaming getElem?_eq_getElem→Ba,length_map→Bd,mem_append→Bp,getElem?_map→Bq,mem_cons_self→Cb,mem_cons→Cc,length_take→Cd,getElem_mem→Ce
open Go.IntKind renaming wrap→Bb
open Go renaming TypeId→Be,laidMetH→Bh,trodAll_cons_mk→Bj
open Nat renaming le_refl→Bg,le_trans→Bn,le_succ_of_le→Bo
open Go.Value renaming int→Bi,okWide→Br,cells→Bt
open Go.World renaming holding→Bl
open Option.some renaming inj→Bz
open Option renaming getD_some→Ca
open Go.Lib.laidMet renaming reads→Cf
open Go.DataW renaming TrodAll→Cg,Trod→Ch
open Bool renaming and_eq_true→Ci
namespace Go.Aev
theorem B3e{s:List Int}{a b:Nat}(h1:a≤b)(h2:b≤s.length):∃ l,sub s (a:Int) (b:Int)=some l∧l.length=b - a:=by
 unfold sub;rw[decide_eq_true (by omega),decide_eq_true (by omega),decide_eq_true (by omega)];refine⟨_,rfl,?_⟩;simp only[Int.toNat_natCast,Cd,List.length_drop];omega
theorem B90(o:Option (List Int)):(A4d o).1.length≤4*(o.getD []).length:=by
 cases o with
 |none=>simp[A4d]
 |some cs=>
  unfold A4d I4;simp only[Ca];split
  ·exact A9o cs
  ·simp
theorem C1V(l:List Int):(X1 l).1.length≤4*l.length:=by
 unfold X1;have h:=B90 (A1v l);cases hq:A1v l with
 |none=>rw[hq]at h;simpa using Bn h (by simp)
 |some cs=>
  rw[hq]at h;have:=(Bv.quotedL_valid l.length l cs (Bg _) hq).2;simp only[Ca]at h;omega
def One(i M:Nat)(o:Option E6):Prop:=∃(j:Nat)(k:Int)(v:List UInt8),o=some (.tup [.int .i64 (j:Int),.int .i64 k,.str v])∧i≤j∧j≤M∧v.length≤8400000∧(k=7→(btF v).2=true)∧((k=0∨k=1)∨(2≤k∧k≤7∧i<j))
section
variable {s:List Int}{M:Nat}
theorem oSI(t:List UInt8)(b:Int):okR [.str,.int .i64] (some (.tup [.str t,.int .i64 b]):Option E6)=true:=rfl
theorem B1p(t:List UInt8)(r:List L6):lS (gL (some (.tup (.str t::r)):Option E6) 0)=t:=rfl
theorem C1b(hs:Stp s M){i:Nat}(hi:i<M):One i M (A0t s (i:Int)):=by
 have aC:=hs.sz;obtain⟨x,hx,_⟩:=hs.x;have hM:=A1T hx;have fm:One i M (some (.tup [.int .i64 (i:Int),.int .i64 1,.str []])):=⟨i,1,[],rfl,Bg _,by omega,by simp,fun h=>by omega,.inl (by omega)⟩;obtain⟨b,e,hb⟩:=A9p hs (Nat.le_of_lt hi) (c:=34) (by decide);simp only[A0t,gd,kC,kP,kO,e,oB1,gB1,cond_true];refine F4 (P:=One i M) (fun hc=>?_) (fun hc=>?_)
 ·have h3:=hb hc;obtain⟨j,e2,hj⟩:=C2D hs h3;simp only[e2,oI,gI,cond_true];refine F4 (P:=One i M) (fun _=>fm) (fun az=>?_);have ee:j≠i:=fun h=>by rw[h]at az;simp at az
  obtain⟨h6,rD⟩:=hj.resolve_left ee;have w1:Bb .i64 ((i:Int)+3)=((i+3:Nat):Int):=V2 (k:=3) (by omega);have w2:Bb .i64 ((j:Int) - 3)=((j - 3:Nat):Int):=by rw[N3 (by omega) (by omega)];omega
  obtain⟨l,e3,hl⟩:=B3e (s:=s) (a:=i+3) (b:=j - 3) (by omega) (by omega);have cq:smL l=true:=by unfold smL;exact decide_eq_true (by omega)
  have e4:A14 l=some (.tup [.str (W1 l).1,.int .i64 (W1 l).2]):=by unfold A14;rw[cq];rfl
  simp only[w1,w2,e3,e4,oSI,B1p,A4j,cond_true];refine F4 (P:=One i M) (fun _=>fm) (fun hz=>?_);have mP:(W1 l).2=0:=by simpa using hz
  obtain⟨q1,_,q3⟩:=Bv.block_again mP;exact⟨j,7,(W1 l).1,rfl,by omega,rD,by omega,fun _=>q1,.inr ⟨by omega,by omega,by omega⟩⟩
 ·obtain⟨j,e2,hj⟩:=C8N hs hi;simp only[e2,oI,gI,cond_true];refine F4 (P:=One i M) (fun _=>fm) (fun az=>?_);have ee:j≠i:=fun h=>by rw[h]at az;simp at az
  obtain⟨h6,rD⟩:=hj.resolve_left ee;have w1:Bb .i64 ((i:Int)+1)=((i+1:Nat):Int):=V2 (k:=1) (by omega);have w2:Bb .i64 ((j:Int) - 1)=((j - 1:Nat):Int):=by rw[N3 (by omega) (by omega)];omega
  obtain⟨l,e3,hl⟩:=B3e (s:=s) (a:=i+1) (b:=j - 1) (by omega) (by omega);have cq:D0 l=true:=by unfold D0 A3;exact decide_eq_true (by omega)
  have e4:A1M l=some (.tup [.str (X1 l).1,.int .i64 (X1 l).2]):=by unfold A1M;rw[cq];rfl
  simp only[w1,w2,e3,e4,oSI,B1p,A4j,cond_true];refine F4 (P:=One i M) (fun _=>fm) (fun hz=>?_);have:=C1V l;exact⟨j,6,(X1 l).1,rfl,by omega,rD,by omega,fun h=>by omega,.inr ⟨by omega,by omega,by omega⟩⟩
theorem C84(a b:Int)(t:List UInt8):okR [.int .i64,.int .i64,.str] (some (.tup [.int .i64 a,.int .i64 b,.str t]):Option E6)=true:=rfl
theorem C2N(l l':L6)(t:List UInt8)(r:List L6):lS (gL (some (.tup (l::l'::.str t::r)):Option E6) 2)=t:=rfl
theorem o2i(a b:Int):okR [.int .i64,.int .i64] (some (.tup [.int .i64 a,.int .i64 b]):Option E6)=true:=rfl
theorem C4Y(hs:Stp s M){i:Nat}(hi:i≤M):One i M (A2O s (i:Int)):=by
 obtain⟨y,hy,hp,hn⟩:=hs.at hi;have fm:∀ k:Int,(k=0∨k=1)→One i M (some (.tup [.int .i64 (i:Int),.int .i64 k,.str []])):=fun k hk=>⟨i,k,[],rfl,Bg _,hi,by simp,fun h=>by omega,.inl hk⟩;obtain⟨j,e1,h1,h2,h3⟩:=D1n hs hi;obtain⟨j2,k2,e2,h4,h5,h6⟩:=C2Y hs hi;obtain⟨j4,e4,h8,h9⟩:=C5s hs hi;simp only[A2O,gd,kC,kP,kO,L3,hy,C75,C7L,oB1,gB1,cond_true,e1,oI,gI,e2,o2i,B3G,A4j,e4];refine F4 (P:=One i M) (fun _=>fm 0 (by decide)) (fun _=>?_);refine F4 (P:=One i M) (fun hc=>?_) (fun _=>?_)
 ·exact⟨j,3,[],rfl,h1,h2,by simp,fun h=>by omega,.inr ⟨by omega,by omega,h3 y hy hc⟩⟩
 have zM:One i M (some (.tup [.int .i64 (j2:Int),.int .i64 k2,.str []])):=by
  rcases h6 with h6|⟨h6,h7⟩
  ·exact⟨j2,k2,[],rfl,h4,h5,by simp,fun h=>by omega,.inl (by omega)⟩
  ·exact⟨j2,k2,[],rfl,h4,h5,by simp,fun h=>by omega,.inr ⟨by omega,by omega,h7⟩⟩
 have am:One i M (bif y==34 then(bif okR [.int .i64,.int .i64,.str] (A0t s (i:Int))then some (.tup [.int .i64 (lI (gL (A0t s (i:Int)) 0)),.int .i64 (lI (gL (A0t s (i:Int)) 1)),.str (lS (gL (A0t s (i:Int)) 2))])else none)
   else bif decide ((j4:Int)>(i:Int))then some (.tup [.int .i64 (j4:Int),.int .i64 2,.str []])else some (.tup [.int .i64 (i:Int),.int .i64 1,.str []])):=by
  refine F4 (P:=One i M) (fun hc=>?_) (fun hc=>?_)
  ·have wV:y=34:=by simpa using hc
   obtain⟨j3,k3,v3,e3,am⟩:=C1b hs (hp (by omega));rw[e3];exact⟨j3,k3,v3,rfl,am⟩
  ·refine F4 (P:=One i M) (fun hc=>?_) (fun hc=>fm 1 (by decide));have:=of_decide_eq_true hc;exact⟨j4,2,[],rfl,h8,h9,by simp,fun h=>by omega,.inr ⟨by omega,by omega,by omega⟩⟩
 repeat' (first|exact zM|exact am|refine F4 (P:=One i M) (fun _=>?_) (fun _=>?_))
end
section
variable {s:List Int}{M:Nat}
theorem oT1(t:A1):okR [.agg .tok] (some (.one (.agg .tok t)):Option E6)=true:=rfl
theorem gT1(t:A1):B7r (gL (some (.one (.agg .tok t)):Option E6) 0)=t:=rfl
theorem oSb(t:List UInt8)(b:Bool):okR [.str,.bool] (some (.tup [.str t,.bool b]):Option E6)=true:=rfl
theorem C9p(hs:Stp s M){ps:List C2}(eu:M<ps.length){i:Nat}(hi:i≤M):∃ t:A1,F55 s ps (i:Int)=some (.one (.agg .tok t))∧A5N t∧∃ j:Nat,t.to_=(j:Int)∧j≤M∧((t.kind=0∨t.kind=1)∨(2≤t.kind∧t.kind≤7∧i<j)):=by
 have aC:=hs.sz;obtain⟨x,hx,_⟩:=hs.x;have hM:=A1T hx;obtain⟨a,e1,a1,a2⟩:=D0Z hs hi;obtain⟨j,k,v,e2,b1,b2,b3,b4,b5⟩:=C4Y hs a2;obtain⟨l,e3,hl⟩:=B3e (s:=s) (a:=a) (b:=j) b1 (by omega);obtain⟨t,b,e4,ht⟩:=C7i (l:=l) (by omega);have hp:ps[a]?=some ps[a]:=Ba (by omega);simp only[F55,gd,kC,kP,kO,e1,oI,gI,e2,C84,B3G,A4j,C2N,e3,e4,oSb,B1p,cond_true,L3,hp];refine⟨_,rfl,⟨by show t.length≤_;omega,b3,b4⟩,j,rfl,b2,?_⟩;rcases b5 with h|⟨h1,h2,h3⟩
 ·exact .inl h
 ·exact .inr ⟨h1,h2,by omega⟩
theorem l24{R:Type}{P:Option R→Prop}{nn:Nat}{a0:List Int}{k1:List A1→Option R}(hs:Stp s M){ps:List C2}(eu:M<ps.length)(h1:∀ ts,TW ts→P (k1 ts)):
  ∀(n i:Nat)(x7:List A1),i≤M→M<n+i→x7.length≤i→(∀ t∈x7,A5N t∧2≤t.kind)→P (A3n nn a0 n s ps x7 (i:Int) k1)
 |0,i,x7,a1,a2,_,_=>by omega
 |n+1,i,x7,a1,a2,a3,a4=>by
  have aC:=hs.sz;obtain⟨t,e,ht,j,hj,rD,hk⟩:=C9p hs eu a1;have hr:A3 (x7.length+1) 72=true:=by unfold A3;exact decide_eq_true (by omega)
  unfold A3n;simp only[F24,A7d,B1V,gd,kC,kP,kO,e,oT1,gT1,hr,cond_true,hj];have fin:P (k1 (x7++[t]))∨¬(t.kind=0∨t.kind=1):=by
   by_cases h:t.kind=0∨t.kind=1
   ·left
    refine h1 _ ⟨by simp,by simp;omega,fun t' im=>?_,fun i' t' wX ga=>?_⟩
    ·rcases Bp.1 im with h'|h'
     ·exact(a4 t' h').1
     ·have:t'=t:=by simpa using h'
      rw[this];exact ht
    ·have aB:=A1T wX;rcases Nat.lt_or_ge (i'+1) (x7++[t]).length with h'|h'
     ·exact h'
     ·exfalso;have:i'=x7.length:=by simp at h' aB;omega
      subst this;have:t'=t:=by simpa using wX.symm
      subst this;omega
   ·exact .inr h
  have next:¬(t.kind=0∨t.kind=1)→P (A3n nn a0 n s ps (x7++[t]) (j:Int) k1):=fun h=>by
   obtain⟨q1,q2,q3⟩:=hk.resolve_left h;refine l24 hs eu h1 n j (x7++[t]) rD (by omega) (by simp;omega) fun t' im=>?_;rcases Bp.1 im with h'|h'
   ·exact a4 t' h'
   ·have:t'=t:=by simpa using h'
    rw[this];exact⟨ht,q1⟩
  refine F4 (P:=P) (fun hc=>?_) (fun hc=>?_)
  ·have h0:(t.kind==0)=false:=beqF.mp hc;have zL:t.kind≠0:=by simpa using h0
   refine F4 (P:=P) (fun hc=>?_) (fun hc=>?_)
   ·have:t.kind=1:=by simpa using hc
    exact fin.resolve_right (fun h=>h (.inr this))
   ·have:t.kind≠1:=by simpa using hc
    exact next (fun h=>by omega)
  ·have h0:t.kind=0:=by
    cases h:(t.kind==0)with
    |true=>simpa using h
    |false=>rw[h]at hc;cases hc
   exact fin.resolve_right (fun h=>h (.inl h0))
end
structure Sts(st:List Int)(i:Nat):Prop where
 ex:∃ ns:List Nat,st=ns.map (fun(n:Nat)=>(n:Int))∧ns[0]?=some 0∧ns.Pairwise (· ≤ ·)∧∀ e∈ns,e≤i
 len:st.length≤i+1
theorem Sts.step{st:List Int}{i:Nat}(h:Sts st i):Sts st (i+1):=by
 obtain⟨ns,h1,h2,h3,h4⟩:=h.ex;exact⟨⟨ns,h1,h2,h3,fun e he=>Bo (h4 e he)⟩,Bo h.len⟩
theorem Sts.push{st:List Int}{i:Nat}(h:Sts st i):Sts (st++[((i+1:Nat):Int)]) (i+1):=by
 obtain⟨ns,h1,h2,h3,h4⟩:=h.ex;refine⟨⟨ns++[i+1],by rw[h1];simp,?_,?_,fun e he=>?_⟩,by simp;exact h.len⟩
 ·have:=A1T h2;rw[List.getElem?_append_left this];exact h2
 ·rw[List.pairwise_append];exact⟨h3,by simp,fun a ha b hb=>by
   have:b=i+1:=by simpa using hb
   have:=h4 a ha;omega⟩
 ·rcases Bp.1 he with h'|h'
  ·exact Bo (h4 e h')
  ·have:e=i+1:=by simpa using h'
   omega
section
variable {R:Type}{P:Option R→Prop}
theorem B3a{nn:Nat}{l:List Int}{k2:(List Int)→Int→Bool→Option R}(hs:l.length≤1048576)(h2:∀ st,Sts st l.length→P (k2 st (l.length:Int) false)):∀(n i:Nat)(st:List Int),i≤l.length→l.length<n+i→Sts st i→P (A2u nn l n st (i:Int) k2)
 |0,i,st,a1,a2,_=>by omega
 |n+1,i,st,a1,a2,a3=>by
  have au:=a3.len;have w1:Bb .i64 ((i:Int)+1)=((i+1:Nat):Int):=V2 (k:=1) (by omega);unfold A2u;by_cases hi:i<l.length
  ·have fg:l[i]?=some l[i]:=Ba hi;generalize l[i]=y at*;have aB:decide ((i:Int)<(l.length:Int))=true:=decide_eq_true (by omega);have hr:A3 (st.length+1) 8=true:=by unfold A3;exact decide_eq_true (by omega)
   have keep:P (A2u nn l n st ((i+1:Nat):Int) k2):=B3a hs h2 n (i+1) st (by omega) (by omega) a3.step;have push:P (A2u nn l n (st++[((i+1:Nat):Int)]) ((i+1:Nat):Int) k2):=B3a hs h2 n (i+1) _ (by omega) (by omega) a3.push;by_cases aT:i+1<l.length
   ·have ij:l[i+1]?=some l[i+1]:=Ba aT;generalize l[i+1]=z at*;simp only[A0V,A4Q,A6X,gd,kC,kP,kO,aB,cond_true,L3,fg,w1,hr,ij]
    repeat' (first|exact keep|exact push|refine F4 (P:=P) (fun _=>?_) (fun _=>?_))
   ·have itq:decide (((i+1:Nat):Int)<(l.length:Int))=false:=decide_eq_false (by omega);simp only[A0V,A4Q,A6X,gd,kC,kP,kO,aB,cond_true,L3,fg,w1,hr,itq]
    repeat' (first|exact keep|exact push|refine F4 (P:=P) (fun h=>?_) (fun _=>?_))
    all_goals exact absurd (by assumption:(false==true)=true) (by decide)
  ·have bR:i=l.length:=by omega
   have aB:decide ((i:Int)<(l.length:Int))=false:=decide_eq_false (by omega);simp only[A0V,A4Q,A6X,gd,kC,kP,kO,aB,cond_false];subst bR;exact h2 st a3
end
theorem D1m{l:List Int}(hs:l.length≤1048576):∃ st,A0V l=some (.one (.sl .i64 st (some 1)))∧Sts st l.length:=by
 let P:Option E6→Prop:=fun o=>∃ st,o=some (.one (.sl .i64 st (some 1)))∧Sts st l.length
 show P (A0V l);simp only[A0V,A4Q,A6X,gd,kC,kP,kO];refine B3a (P:=P) hs (fun st h=>⟨st,rfl,h⟩) NN 0 [0] (by omega) (by rw[NNv];omega) ⟨⟨[0],rfl,rfl,by simp,by simp⟩,by simp⟩
section
variable {R:Type}{P:Option R→Prop}
theorem B1C{nn:Nat}{l st:List Int}{i e:Nat}{z:Int}{k2:(List C2)→(List Int)→Int→Int→Int→Bool→Option R}(he:e≤2000000)(hz:st[i]?=some z)(h2:∀ ps:List C2,ps.length=e→P (k2 ps st (i:Int) (e:Int) (e:Int) false)):
  ∀(n j:Nat)(ps:List C2),j≤e→e<n+j→ps.length=j→P (A3d nn l n ps st (i:Int) (e:Int) (j:Int) k2)
 |0,j,ps,a1,a2,_=>by omega
 |n+1,j,ps,a1,a2,a3=>by
  unfold A3d;by_cases hj:j<e
  ·have aB:decide ((j:Int)<(e:Int))=true:=decide_eq_true (by omega);have hr:A3 (ps.length+1) 16=true:=by unfold A3;exact decide_eq_true (by omega)
   simp only[F54,A2q,A3p,A3K,gd,kC,kP,kO,aB,cond_true,L3,hz,hr,U9 (i:=j) (by omega)];exact B1C he hz h2 n (j+1) _ (by omega) (by omega) (by simp;omega)
  ·have zN:j=e:=by omega
   subst zN;have aB:decide ((j:Int)<(j:Int))=false:=decide_eq_false (by omega);simp only[F54,A2q,A3p,A3K,gd,kC,kP,kO,aB,cond_false];exact h2 ps a3
theorem B3d{nn:Nat}(lG:2000000<nn){l:List Int}{ns:List Nat}{k2:(List C2)→(List Int)→Int→Bool→Option R}(hs:l.length≤1048576)(hp:ns.Pairwise (· ≤ ·))(hm:∀ e∈ns,e≤l.length)(hl:ns.length≤1048577)
  (h2:∀ ps:List C2,ps.length=l.length+1→P (k2 ps (ns.map (fun(n:Nat)=>(n:Int))) (ns.length:Int) false)):
  ∀(n i:Nat)(ps:List C2),i≤ns.length→ns.length<n+i→(∀ a,ns[i]?=some a→ps.length=a)→(i=ns.length→ps.length=l.length+1)→P (A4L nn l n ps (ns.map (fun(n:Nat)=>(n:Int))) (i:Int) k2)
 |0,i,ps,a1,a2,_,_=>by omega
 |n+1,i,ps,a1,a2,a3,a4=>by
  unfold A4L;have w1:Bb .i64 ((i:Int)+1)=((i+1:Nat):Int):=V2 (k:=1) (by omega);have w2:Bb .i64 ((l.length:Int)+1)=((l.length+1:Nat):Int):=V2 (k:=1) (by omega);by_cases hi:i<ns.length
  ·have rP:ns[i]?=some ns[i]:=Ba hi;have aQ:=hm ns[i] (Ce hi);have au:=a3 _ rP;have bL:(ns.map (fun(n:Nat)=>(n:Int)))[i]?=some ((ns[i]:Nat):Int):=by rw[Bq,rP];rfl
   have aB:decide ((i:Int)<((ns.map (fun(n:Nat)=>(n:Int))).length:Int))=true:=decide_eq_true (by rw[Bd];omega);by_cases aT:i+1<ns.length
   ·have rE:ns[i+1]?=some ns[i+1]:=Ba aT;have gl:=hm ns[i+1] (Ce aT);have vh:ns[i]≤ns[i+1]:=List.pairwise_iff_getElem.1 hp i (i+1) hi aT (by omega);have vi:(ns.map (fun(n:Nat)=>(n:Int)))[i+1]?=some ((ns[i+1]:Nat):Int):=by rw[Bq,rE];rfl
    have itq:decide (((i+1:Nat):Int)<((ns.map (fun(n:Nat)=>(n:Int))).length:Int))=true:=decide_eq_true (by rw[Bd];omega);generalize ns[i]=a at*;generalize ns[i+1]=b at*;simp only[F54,A2q,A3p,A3K,gd,kC,kP,kO,aB,cond_true,L3,bL,vi,w1,w2,itq];refine B1C (e:=b) (by omega) bL (fun rF oP=>?_) nn a ps vh (by omega) au;simp only[w1];refine B3d lG hs hp hm hl h2 n (i+1) rF (by omega) (by omega) (fun a' nX=>?_) (fun h=>by omega);rw[rE]at nX;cases nX;exact oP
   ·have itq:decide (((i+1:Nat):Int)<((ns.map (fun(n:Nat)=>(n:Int))).length:Int))=false:=decide_eq_false (by rw[Bd];omega);generalize ns[i]=a at*;simp only[F54,A2q,A3p,A3K,gd,kC,kP,kO,aB,cond_true,cond_false,L3,bL,w1,w2,itq];refine B1C (e:=l.length+1) (by omega) bL (fun rF oP=>?_) nn a ps (by omega) (by omega) au;simp only[w1];refine B3d lG hs hp hm hl h2 n (i+1) rF (by omega) (by omega) (fun a' nX=>?_) (fun _=>oP);have:=A1T nX;omega
  ·have bR:i=ns.length:=by omega
   have aB:decide ((i:Int)<((ns.map (fun(n:Nat)=>(n:Int))).length:Int))=false:=decide_eq_false (by rw[Bd];omega);simp only[F54,A2q,A3p,A3K,gd,kC,kP,kO,aB,cond_false];subst bR;exact h2 ps (a4 rfl)
end
theorem C4c(l:List Int):okR [.sl .i64 (some 1)] (some (.one (.sl .i64 l (some 1))):Option E6)=true:=rfl
theorem D05(l:List Int):B1u (gL (some (.one (.sl .i64 l (some 1))):Option E6) 0)=l:=rfl
theorem C0W{l:List Int}(hs:l.length≤1048576):∃ ps:List C2,F54 l=some (.one (.sl .pos ps (some 1)))∧ps.length=l.length+1:=by
 let P:Option E6→Prop:=fun o=>∃ ps:List C2,o=some (.one (.sl .pos ps (some 1)))∧ps.length=l.length+1
 show P (F54 l);obtain⟨st,e,⟨ns,h1,h2,h3,h4⟩,au⟩:=D1m hs;have hl:ns.length≤l.length+1:=by rw[h1,Bd]at au;exact au
 have h0:=A1T h2;simp only[F54,A2q,A3p,A3K,gd,kC,kP,kO,e,C4c,D05,cond_true];rw[h1];refine B3d (P:=P) (by rw[NNv];decide) hs h3 h4 (by omega) (fun ps eu=>⟨ps,rfl,eu⟩) NN 0 [] (by omega) (by rw[NNv];omega) (fun a ha=>?_) (fun h=>by omega);rw[h2]at ha;cases ha;rfl
theorem B4K{s:List Int}:∀(n k:Nat)(x:Int),k≤n→s[k]?=some x→x<0→∃ M:Nat,M≤k∧(∃ y:Int,s[M]?=some y∧y<0)∧∀ j,j<M→∃ y:Int,s[j]?=some y∧0≤y
 |n,k,x,hn,hk,hx=>by
  by_cases h:∃ j,j<k∧∃ y:Int,s[j]?=some y∧y<0
  ·obtain⟨j,h1,y,h2,h3⟩:=h
   match n,hn with
   |0,hn=>omega
   |n+1,hn=>
    obtain⟨M,a1,a2,a3⟩:=B4K n j y (by omega) h2 h3;exact⟨M,by omega,a2,a3⟩
  ·refine⟨k,Bg _,⟨x,hk,hx⟩,fun j hj=>?_⟩;have hl:=A1T hk;refine⟨s[j],Ba (by omega),?_⟩;rcases Int.lt_or_le s[j] 0 with h'|h'
   ·exact absurd ⟨j,hj,_,Ba (by omega),h'⟩ h
   ·exact h'
theorem C3D(l:List Int)(n:Int):okR [.sl .i32 (some 1),.int .i64] (some (.tup [.sl .i32 l (some 1),.int .i64 n]):Option E6)=true:=rfl
theorem D04(l:List Int)(r:List L6):A4T (gL (some (.tup (.sl .i32 l (some 1)::r)):Option E6) 0)=l:=rfl
theorem C72(l:List Int):okR [.sl .i32 (some 1)] (some (.one (.sl .i32 l (some 1))):Option E6)=true:=rfl
theorem C5A(l:List Int):A4T (gL (some (.one (.sl .i32 l (some 1))):Option E6) 0)=l:=rfl
theorem C7h(l:List C2):okR [.sl .pos (some 1)] (some (.one (.sl .pos l (some 1))):Option E6)=true:=rfl
theorem C6g(l:List C2):B3I (gL (some (.one (.sl .pos l (some 1))):Option E6) 0)=l:=rfl
theorem C8Q{a0:List Int}(hB:isB a0=true)(hl:a0.length≤1048576):∃ ts,F24 a0=some (.one (.sl .tok ts (some 1)))∧TW ts:=by
 let P:Option E6→Prop:=fun o=>∃ ts,o=some (.one (.sl .tok ts (some 1)))∧TW ts
 show P (F24 a0);have cq:smL a0=true:=by unfold smL;exact decide_eq_true (by omega)
 have zO:F52 a0=some (.tup [.sl .i32 (C4 (toB a0)).1 (some 1),.int .i64 (((C4 (toB a0)).2:Nat):Int)]):=by unfold F52;rw[hB,cq];rfl
 have au:(C4 (toB a0)).1.length≤1048576:=by
  have:=B4h (toB a0);rw[Z0]at this;omega
 generalize (C4 (toB a0)).1=cs at*;generalize (((C4 (toB a0)).2:Nat):Int)=m at*;obtain⟨s,zP,dR,x,eI,zQ⟩:=B9W (l:=cs) (m==(a0.length:Int)) (by omega);obtain⟨ps,zR,eu⟩:=C0W au;obtain⟨M,m1,m2,m3⟩:=B4K cs.length cs.length x (Bg _) eI zQ;have zS:Stp s M:=⟨m2,m3,by omega⟩;simp only[F24,A7d,B1V,gd,kC,kP,kO,zO,C3D,D04,A4j,zP,C72,C5A,zR,C7h,C6g,cond_true];exact l24 (P:=P) zS (by omega) (fun ts h=>⟨ts,rfl,h⟩) NN 0 [] (by omega) (by rw[NNv];omega) (by simp) (fun t ht=>by cases ht)
theorem C6s{a0:List Int}(hB:isB a0=true)(hl:a0.length≤1048576)(a1:Int):F5 a0 a1=some (.one (.bool true)):=by
 obtain⟨ts,h1,h2⟩:=C8Q hB hl;exact C1c h1 h2 a1
end Go.Aev
namespace Go.Aev
open Go.Proofs Go.ChangeShapes Go.WideShapes Go.ChangeAt Go.RowKit Go.Deep Go.Proofs.YtolabkginnkhgaaGreatDoor
def wm0(W:World)(b:Nat):Nat:=match W.heap[b]? with|some (.cells c _ _)=>c.size|_=>0
theorem C0X(W:World)(b:Nat)(h:W.heap.size≤b):wm0 W b=0:=by
 unfold wm0;rw[Array.getElem?_eq_none h]
theorem B1b{W:World}{b off:Nat}{v:Value}(h:W.cell? ⟨b,off,none⟩=some v):off+1≤wm0 W b:=by
 unfold World.cell? at h;unfold wm0;dsimp only at h;split at h
 ·rename_i c t fr he;rw[he];simp at h;have:=(Array.getElem?_eq_some_iff.1 h).1;exact this
 ·cases h
theorem D0a:laidOutB Ai=true:=by kernel_rfl
theorem C7x:Tryz.prog.cellsOf 5=1:=by kernel_rfl
theorem B5z(l:List Int)(j:Nat)(lf:L6)(h:(flat U6 .u8 l)[j]?=some lf):∃ n,l[j]?=some n∧lf=.int .u8 n:=by
 have h1:flat U6 .u8 l=l.map fun n=>.int .u8 n:=A8q l;rw[h1,Bq]at h;obtain⟨n,hn,rfl⟩:=Option.map_eq_some_iff.1 h;exact⟨n,hn,rfl⟩
theorem C4E{W:World}{l:List Int}{b off C:Nat}{V:Nat→Int}(hl:l.length≤C)(aw:∀ c,c<C→W.cell? ⟨b,off+c,none⟩=some (.int .u8 (V c)))(hV:∀(j:Nat)(n:Int),l[j]?=some n→V j=n):
  CRep U6 W (wm0 W) (.sl .u8 l none) (.slice (some ⟨b,off,none⟩) l.length C):=by
 by_cases h0:l.length=0
 ·have:l=[]:=List.eq_nil_of_length_eq_zero h0;subst this;exact .nil _ _ _ _
 ·refine CRep.sl (U:=U6) (w:=W) (wm:=wm0 W) .u8 l none b off C (fun j=>.int .u8 (V j)) hl ?_ (fun j lf hj=>?_) (fun j lf hj=>?_)
  ·have:=B1b (aw (l.length - 1) (by omega));show off+l.length*1≤_;omega
  ·obtain⟨n,hn,rfl⟩:=B5z _ _ _ hj;have bQ:=(List.getElem?_eq_some_iff.1 hn).1;exact aw j (by omega)
  ·obtain⟨n,hn,rfl⟩:=B5z _ _ _ hj;rw[hV j n hn];exact .int _ _
theorem C4u{W:World}{A:Option Addr}{L C:Nat}{zs:List Int}(AH:L≤C)(hz:zs.length=C)(hA:A=none→C=0)(hc:∀ a',A=some a'→∀ c,c<C→W.cell? (a'.add c)=some (.int .u8 (zs.getD c 0))):
  CRep U6 W (wm0 W) (.sl .u8 (zs.take L) none) (.slice A L C):=by
 by_cases hL:L=0
 ·subst hL;exact .nil _ _ _ _
 cases A with
 |none=>have:=hA rfl;omega
 |some a=>
  obtain⟨b,off,vj⟩:=a;have h0:=hc _ rfl 0 (by omega);have hs:vj=none:=by
   have:=World.cell?_spot h0;unfold Addr.add at this;simpa using this
  subst hs;have au:(zs.take L).length=L:=by rw[Cd];omega
  have:=C4E (W:=W) (l:=zs.take L) (b:=b) (off:=off) (C:=C) (V:=fun c=>zs.getD c 0) (by omega) (fun c cC=>by rw[←add_plain];exact hc _ rfl c cC) (fun j n hn=>by
   rw[List.getElem?_take]at hn;split at hn
   ·rw[List.getD_eq_getElem?_getD,hn];rfl
   ·cases hn)
  rw[au]at this;exact this
theorem C9V{H:Type}(d:DataW H):1≤Rows.uptoBulk d:=by
 cases d with
 |lit l=>cases l<;>simp[Rows.uptoBulk]
 |nil=>simp[Rows.uptoBulk]
 |ptr d=>simp[Rows.uptoBulk]
 |slice wY spare=>simp[Rows.uptoBulk]
 |agg parts=>simp[Rows.uptoBulk]
 |iface t d=>simp[Rows.uptoBulk]
 |map sm=>simp[Rows.uptoBulk]
 |held h=>simp[Rows.uptoBulk]
theorem D1g{H:Type}{d:DataW H}{l:List (DataW H)}(h:d∈l):Rows.uptoBulk d≤Rows.uptoBulkAll l:=by
 induction l with
 |nil=>cases h
 |cons x r ih=>
  simp only[Rows.uptoBulkAll];cases Cc.1 h with
  |inl e=>subst e;omega
  |inr e=>have:=ih e;omega
theorem C9C{H:Type}(l:List (DataW H)):l.length≤Rows.uptoBulkAll l:=by
 induction l with
 |nil=>simp[Rows.uptoBulkAll]
 |cons x r ih=>have:=C9V x;simp only[Rows.uptoBulkAll,List.length_cons];omega
theorem C09{H:Type}{l:List (DataW H)}(hk:Rows.uptoSmall H l=true):Rows.uptoBulkAll l≤1048576:=of_decide_eq_true hk
section
variable {H:Type}{enc:Be×Value→H}{W:World}
theorem C9x{a0:Option Addr}{l0 c0:Nat}{d:DataW H}{ps:List MemPlace}(h:Ch enc Ai W 0 (fun _=>true) true 22 (.slice a0 l0 c0) d ps):
  ∃ l:List Int,CRep U6 W (wm0 W) (.sl .u8 l none) (.slice a0 l0 c0)∧isB l=true∧l.length≤Rows.uptoBulk d:=by
 obtain⟨fuel,hf⟩:=h;rcases open_ints Bw Tryz.underlying5 C7x hf with⟨cH,hx⟩|⟨a,len,cap,zs,cH,_,hl,hm,hz,hx,aw,zT⟩
 ·simp[Bt]at cH;obtain⟨rfl,rfl,rfl⟩:=cH;exact⟨[],.nil _ _ _ _,rfl,Nat.zero_le _⟩
 ·simp[Bt]at cH;obtain⟨rfl,rfl,rfl⟩:=cH;simp only[if_true]at hz;simp only[Prod.mk.injEq]at hx;obtain⟨rfl,rfl⟩:=hx;refine⟨zs.take l0,C4u hl hz (fun e=>by cases e) (fun a' ha c hc=>by cases ha;exact aw c (by omega)),List.all_eq_true.2 fun n hn=>?_,?_⟩
  ·have h1:=zT n (List.mem_of_mem_take hn);simp only[Lit.wf,Ci,decide_eq_true_eq]at h1;simp only[Ci,decide_eq_true_eq];exact h1
  have:=C9C (lits (H:=H) .u8 (zs.take l0));simp only[lits,Bd]at this;simp only[Rows.uptoBulk,lits];omega
end
theorem C9q:U8Extra Ai Tryz.lays260_ren:={n3:=by kernel_rfl,n4:=by kernel_rfl,y3:=by kernel_rfl,y4:=by kernel_rfl,c5:=by kernel_rfl,c119:=by kernel_rfl,c138:=by kernel_rfl}
theorem D01:Rows.laid_unicode_utf8_acceptRanges=Lib.acceptData:=by kernel_rfl
theorem C8e:Rows.laid_unicode_utf8_first=Lib.firstData:=Pinned.utf8First_eq
def laidL:List (String×DataW Unit):=[("unicode/utf8.acceptRanges",Rows.laid_unicode_utf8_acceptRanges),("unicode/utf8.first",Rows.laid_unicode_utf8_first)]
theorem C0L:(laidL.filter fun x=>x.2.handleName?.isSome)=[]:=by kernel_rfl
theorem C1L{W:World}(h:Bh Ai laidL W):laidMet Ai laidL W:=by
 unfold Bh at h;rw[C0L]at h;exact h
theorem C7w{W:World}(h:Bh Ai laidL W):Bv.IB W (wm0 W):=by
 have h1:=C1L h;have h2:=Cf h1 (n:= "unicode/utf8.acceptRanges") (d:=Rows.laid_unicode_utf8_acceptRanges) (by unfold laidL;exact Cb);have h3:=Cf h1 (n:= "unicode/utf8.first") (d:=Rows.laid_unicode_utf8_first) (by unfold laidL;exact List.mem_cons_of_mem _ Cb);rw[D01]at h2;rw[C8e]at h3;have h4:Lib.Utf8Tabs 1 2 W:=utf8Tabs_of_readsT (U8Types.of260 Tryz.lays260) C9q h3 h2;exact⟨h4,B1b (h4.1 255 (by decide)),B1b (h4.2 15 (by decide)).2⟩
def B8R(c:Array Value):Obj→Obj
 | .cells _ t frozen=>.cells c t frozen
 |o=>o
def B2S(W:World):World:=
 {W with heap:=(W.heap.modify 1 (B8R (Lib.firstTab.map fun z=>Bi .u8 z).toArray)).modify 2 (B8R ((List.range 16).flatMap fun i=>[Bi .u8 (Lib.accLo i:Int),Bi .u8 (Lib.accHi i:Int)]).toArray)}
theorem C4w(os:Os)(args:Array Value):laidMet Ai laidL ((B2S (Bl Ai os ⟨#[], #[],[]⟩)).forCall (fun _ _=>0) ⟨#[],args,[]⟩).memory:=
 laidMet_of_run' 8 (by kernel_rfl) (by kernel_rfl)
end Go.Aev
namespace Go.Proofs.YtolabkginnkhgaaGreatDoor.printerLits
open Go.ChangeShapes Go.ChangeMaps Go.WideShapes Go.ChangeAt Go.RowKit Go.Aev
theorem own:ownKnob Tryz.prog.godebug=none:=by kernel_rfl
theorem D09{H:Type}{enc:Be×Value→H}(W:World)(n:Int){a1:Option Addr}{l1 c1:Nat}{d':DataW H}{rF:List MemPlace}(hI:Bv.IB W (wm0 W))
  (h':Ch enc Ai W 0 (fun _=>true) true 22 (.slice a1 l1 c1) d' rF)(ga:Rows.uptoBulk d'≤1048576):
  Calls Ai 5 #[.slice a1 l1 c1,.int .i64 n] W fun e w'=>e=.returned (.bool true)∧Below W.heap.size W w':=by
 obtain⟨m,rH,hB,wU⟩:=C9x h';have hF:=C6s hB (Bn wU ga) n;have hc:=(C3N hbI).ok [.sl .u8 m none,.int .i64 n] (.one (.bool true)) (by
  show M1 (some (okR [.bool] (F5 m n),J4 [.bool] (F5 m n)))=_;rw[hF];rfl)
 have:=hc W ⟨wm0 W,fun _=>.int .i64 0,fun _=>0,fun _=>0⟩ [.slice a1 l1 c1,.int .i64 n] hI (C0X W) ⟨⟨rH,fun _ _ _ e=>(by cases e),fun _ _ e=>(by cases e)⟩,⟨.int _ _,fun _ _ _ e=>(by cases e),fun _ _ e=>(by cases e)⟩,trivial⟩ (fun e=>by cases e) (fun lf cz d hd=>by
  rcases Cc.1 cz with rfl|cz
  ·cases hd
  ·rcases List.mem_singleton.1 cz with rfl;cases hd)
 refine this.mono fun e w' ⟨v,g',he,hp⟩=>?_;have hv:v=.bool true:=CRep.bool_inv hp.rep.1;subst hv;exact⟨he,hp.os,hp.tape,hp.output,hp.size,fun b hb=>(hp.frame b hb (fun e=>by cases e.1)).1⟩
set_option maxRecDepth 100000 in
theorem D0K(H:Type)(enc:Be×Value→H)(W:World)(base:Nat)(args:Array Value)(ds gs:List (DataW H))(iI:List MemPlace)
  (rI:∀(j:Nat) t v,Tryz.f5.params[j]?=some t→args[j]?=some v→Br Ai W .any base t v)
  (hW:DataW.Whole enc Ai Tryz.f5.params.toList Rows.printerLitsSpec.vars false W args.toList ds gs iI)(hL:Bh Ai Rows.printerLitsUptoRow.laid W)(hk:Rows.uptoSmall H (ds++gs)=true):
  Calls Ai 5 args W fun e W'=>∃ v,e=.returned v∧Rows.printerLitsSpec.post enc Ai Bf false true false false W args v W':=by
 have aX:∀(j:Nat) t v,Tryz.f5.params[j]?=some t→args[j]?=some v→Br Ai W .any base t v:=rI;have wZ:=hW;obtain⟨p,q,zU,hV,rfl,ms,lN⟩:=hW;have hA:Cg enc Ai W 0 (fun _=>true) true Tryz.f5.params.toList args.toList ds p:=zU;rw[Bx]at hA aX;obtain⟨v0,AI,d0,o9,p0,q0,aE,rfl,rfl,h0,r0⟩:=trodAll_cons hA;obtain⟨v1,dE,d1,AJ,p1,q1,vk,rfl,rfl,h1,r1⟩:=trodAll_cons r0;obtain⟨rfl,rfl,rfl⟩:=trodAll_nil r1;obtain⟨rfl,rfl⟩:=trodVars_none hV;have oR:args= #[v0,v1]:=by
  cases args
  simp_all
 subst oR;obtain⟨a1,vl,qN,rfl⟩:=okWide_slice Bw (aX 0 22 v0 rfl rfl);obtain⟨n,rfl,rfl,rfl,rA⟩:=open_int Bu (aX 1 3 v1 rfl rfl) h1;have hb:=C09 hk;have tM:Rows.uptoBulk d0≤1048576:=Bn (D1g (by simp)) hb;have vm:∀ x∈p0,x.block<W.heap.size:=fun x hx=>wZ.lt x (by simp[hx]);refine(D09 W n (C7w hL) h0 tM).mono fun e W' ⟨he,hb⟩=>?_;subst he;refine⟨_,rfl,[d0,.lit (.int .i64 n)],[],(p0++([]++[]))++[],[],p0++([]++[]),[],wZ,?_,?_,?_,hb.frame _,fun h=>by cases h⟩
 ·exact Bj (shut_bool Tryz.underlying4 _) trodAll_mk0
 ·have:Cg enc Ai W' 0 (fun b=>decide (b<W.heap.size)) true [22,3] [.slice a1 vl qN,.int .i64 n] [d0,.lit (.int .i64 n)] (p0++([]++[])):=
   Bj (Below.trod D0a (by kernel_rfl) (of_decide_eq_true (by kernel_rfl)) h0 hb vm) (Bj (shut_int Bu rA) trodAll_mk0)
  exact this
 ·exact rfl
theorem reads(os:Os){H:Type}(enc:Be×Value→H):∃ places,DataW.whole enc Ai ((B2S (Bl Ai os ⟨#[], #[],[]⟩)).forCall (fun _ _=>0) ⟨#[], #[.slice none 0 0,.int .i64 0],[]⟩).memory Tryz.f5.params.toList Rows.printerLitsSpec.vars false #[Value.slice none 0 0,Bi .i64 0].toList 8=some ([.nil,.lit (.int .i64 0)],[],places):=
 ⟨[],by kernel_rfl⟩
set_option maxRecDepth 100000 in
theorem C0O(os:Os)(fW:os.Started)(H:Type)(enc:Be×Value→H)(F:Stop.Interp):
  ReturnsInHanded {} Bm os 5 .any ((Rows.OpenSpec.upto Rows.printerLitsSpec).preRow enc Ai Bf Rows.printerLitsUptoRow.domain false Rows.printerLitsUptoRow.laid) (((Rows.OpenSpec.upto Rows.printerLitsSpec).at F).post enc Ai Bf false true false false):=by
 obtain⟨places,hx⟩:=reads os enc;refine returnsInHanded_of_row (C:=Bm) (s:=Rows.OpenSpec.upto Rows.printerLitsSpec) own fW (by kernel_rfl) By
  (witness_row_at (enc:=enc) (C:=Bm) false (B2S (Bl Ai os ⟨#[], #[],[]⟩)) #[.slice none 0 0,.int .i64 0] rfl (by kernel_rfl) (by kernel_rfl) (by kernel_rfl)
   (OpenSpec.preRow_of_cond 8 hx (by kernel_rfl) (fun k hk=>by cases hk;kernel_rfl) (by kernel_rfl) (C4w os _))) ?_
 intro W base args ds gs iI aX hW _ rJ _ hL _ _;exact D0K H enc W base args ds gs iI aX hW hL (rJ _ rfl)
theorem C2k:Rows.PrinterLitsUptoSaid:=
 OpenClaim.holds_of_cond 5 Bf rfl rfl rfl rfl rfl rfl rfl ⟨rfl,rfl,rfl,rfl,rfl⟩ rfl rfl rfl rfl rfl (by kernel_rfl) By (by kernel_rfl)
  (of_decide_eq_true (by kernel_rfl)) (by unfold Func.isWrapper;first|(rw[if_pos (by decide+kernel)];kernel_rfl)|(rw[if_neg (by decide+kernel)];exact⟨rfl,rfl⟩))
  (fun os fW H enc _ F=>by rw[OpenClaim.pre_eq_preRow];exact C0O os fW H enc F)
theorem plain(f:FuncId)(fn:Func)(hf:Tryz.pinned.checked.prog.funcNamed "pergola/pergolalaw11.PrinterLits" =some f)(zV:Tryz.pinned.checked.prog.funcs[f]?=some fn):
  false=Tryz.pinned.checked.prog.looks []∧∀(j:Nat) t,fn.params[j]?=some t→Tryz.pinned.checked.prog.wantsStandIn t=false:=by
 obtain rfl:f=5:=Bz ((show Tryz.prog.funcNamed "pergola/pergolalaw11.PrinterLits" =some 5 by kernel_rfl).symm.trans hf)|>.symm
 obtain rfl:fn=Bf:=(Bz (Tryz.func5.symm.trans zV)).symm;refine⟨by kernel_rfl,fun j t ht=>?_⟩;rw[Bx]at ht;obtain h|h:t=22∨t=3:=by simpa using Array.mem_of_getElem? ht
 ·subst h;exact(show Tryz.prog.wantsStandIn 22=false by kernel_rfl)
 ·subst h;exact(show Tryz.prog.wantsStandIn 3=false by kernel_rfl)
theorem card:Rows.PrinterLitsUptoCardSaid:=
 Claim7.holds_tied_plain_at .later [] _ _ _ _ C2k (fun _ h=>by cases h) (by kernel_rfl) (fun _ h=>by cases h) printerLitsUpto_row_tie rfl ⟨rfl,rfl⟩ (by kernel_rfl) rfl plain (by kernel_rfl)
end Go.Proofs.YtolabkginnkhgaaGreatDoor.printerLits
