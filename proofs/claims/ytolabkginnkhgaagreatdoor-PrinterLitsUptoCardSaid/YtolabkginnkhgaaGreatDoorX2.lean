/- Proved here: lemmas that the claim's text uses. Conditions: those that each lemma states. -/
import Derived.IntWalk
import Derived.Lib.MapLaws
import Derived.Lib.TrimUEq
import Derived.Lib.QuoteLoop
import Derived.Lib.QuoteBits
import Derived.Test.YtolabkginnkhgaaGreatDoorX1
set_option maxRecDepth 100000
set_option linter.unusedVariables false
set_option linter.unusedSimpArgs false
open List renaming length→Ai,length_drop→Bi,drop→Bj,length_cons→Bl,drop_eq_nil_of_le→Bn,length_append→Br,getElem_mem→Bt,take_of_length_le→Bu,length_nil→Cb,drop_eq_getElem_cons→Cc,append_nil→Cd,flatMap_cons→Ce,all_cons→Cf,take_succ_eq_append_getElem→Cj,getElem?_eq_getElem→Ck,all_append→Cl,map_cons→Cn,map→Co,length_take→Cp,cons_append→Ct,all_eq_true→Cu,nil_append→Dd,length_pos_iff→De,drop_drop→Df,append_assoc→Eh,length_take_le→En,length_map→Eo,getElem?_drop→Ep,flatMap_append→Er,eq_nil_of_length_eq_zero→Es,take_append_drop→Ev,map_nil→Ew,getD_cons_zero→Ey,dropWhile_cons→Ez,nil_prefix→Fk,mem_cons→Fl,map_drop→Fm,getD_cons_succ→Fo,any_cons→Fp,take_zero→Gc,take_succ_cons→Ge,take_sublist→Gf,take_append_getElem→Gg,takeWhile_cons→Gi,reverse_reverse→Gj,reverse_append→Gk,mem_of_mem_drop→Gl,map_reverse→Gm,getElem?_eq_none→Gn,getElem?_cons_succ→Gp,drop_succ_cons→Gq,dropWhile_sublist→Gr,cons_beq_cons→Gt
open Go.IntKind renaming wrap→Ba,i32→Fa
open Go.Proofs.Tryz renaming prog→Bb,f234→Bo,f163→Bx,f155→By,f54→Ca,f122→Ch,f212→Cm,f123→Cs,f52→Cy,f243→Cz,f237→Da,f225→Db,f120→Dc,f242→Dk,f240→Dl,f233→Dm,f232→Dn,f226→Do,f223→Dp,f214→Dq,f202→Dr,f201→Ds,f199→Du,f198→Dv,f196→Dw,f193→Dx,f192→Dy,f190→Dz,f174→Ea,f173→Eb,f171→Ec,f164→Ed,f156→Ee,f125→Ef,f53→El,f178→Em,f239→Fe,f235→Ff,f218→Fg
open Prod.mk renaming injEq→Bd
open Option.some renaming injEq→Be,inj→Eg
open Go.Lib renaming decodeL→Bf,decodeL_width→Dg,decodeL_le→Eu,decodeGo→Gu
open Int renaming toNat→Bg,tmod→Cg,tdiv→Cq,toNat_natCast→Cv,tmod_eq_emod_of_nonneg→Ei,emod_nonneg→Ej,emod_lt_of_pos→Ek,tdiv_eq_ediv_of_nonneg→Fb,pow_succ→Fq,pow_pos→Gv
open Nat renaming lt_succ_self→Bh,zero_le→Bm,le_refl→Bz,beq→Ci,not_lt_zero→Fi,add_assoc→Fj,lt_or_ge→Fw,le_trans→Fx,eq_of_beq_eq_true→Fy,and_two_pow_sub_one_eq_mod→Fz,add_zero→Ga,add_sub_cancel→Gb
open Go renaming FuncId→Bp,callFunc→Cx
open List.cons renaming injEq→Bq
open Bool renaming and_eq_true→Bw,cond_decide→Cw,false_eq_true→Et,true_and→Ft,and_true→Gx
open Eq renaming trans→Cr
open Go.Utf8 renaming decode→Dh
open UInt8 renaming toNat→Di,ofNat→Dj
open BitVec renaming ofInt→Fc,toNat_and→Gy
open Prod renaming ext→Fh
open ByteArray renaming mk→Fs,size→Gw
open BEq renaming comm→Fu
open Go.RowKit.Below renaming refl→Fv
namespace Go.Aev.Bv
section
variable {Ty:Type}{den:Ty→Type}{R:Type}
def A1w(body:St Ty den→(Ex→St Ty den→Option R)→Option R)(m:Nat)(k:Ex→St Ty den→Option R):Ex→St Ty den→Option R
 | .normal,s=>C9 body m s k
 |e,s=>k e s
theorem B1W(body:St Ty den→(Ex→St Ty den→Option R)→Option R)(m:Nat)(s:St Ty den)(k:Ex→St Ty den→Option R):
  C9 body (m+1) s k=body s (A1w body m k):=by
 simp only[C9]
 congr 1
 funext e s'
 cases e<;>rfl
end
theorem G5{n b:Nat}:A3 n b=true↔n*b≤140737488355328:=by simp[A3]
theorem T2{l:List Int}:D0 l=true↔l.length*4≤140737488355328:=G5
theorem A3u{l:List Int}(h:D0 l=true):l.length≤35184372088832:=by have:=T2.1 h;omega
theorem A5u{l:List (List Int)}(h:M4 l=true):l.length*24≤140737488355328:=by
 simp only[M4,Bw]at h;exact G5.1 h.1
theorem A0n{l:List (List Int)}(h:M4 l=true){x:List Int}(hx:x∈l):D0 x=true:=by
 simp only[M4,Bw,Cu]at h;exact h.2 x hx
theorem P6{n:Int}(h: -9223372036854775808≤n)(h2:n≤9223372036854775807):Ba .i64 n=n:=Go.IntWalk.i64_in n ⟨h,h2⟩
theorem I2{i:Nat}(h:i<9223372036854775807):Ba .i64 ((i:Int)+1)=((i+1:Nat):Int):=by
 rw[P6 (by omega) (by omega)];omega
theorem C7l{i:Nat}(h:i<9223372036854775807):Ba .i64 (((i+1:Nat):Int) - 1)=(i:Int):=by
 rw[P6 (by omega) (by omega)];omega
theorem L3{α:Type}(l:List α)(i:Nat):idx l (i:Int)=l[i]? :=by simp[idx]
theorem D4{α:Type}{l:List α}{i:Nat}(h:i<l.length):idx l (i:Int)=some l[i]:=by rw[L3,Ck h]
section
variable {Ty:Type}{den:Ty→Type}{R:Type}
theorem H2{σ:Type}{body:St Ty den→(Ex→St Ty den→Option R)→Option R}{k:Ex→St Ty den→Option R}(st:σ→St Ty den)(I:σ→Prop)(μ:σ→Nat)(F:σ→Option R)
  (h:∀ x,I x→∀ K:Ex→St Ty den→Option R,(∀ i s,K (.exit i) s=k (.exit i) s)→(∀ s,K .ret s=k .ret s)→(∀ y,I y→μ y<μ x→K .normal (st y)=F y)→body (st x) K=F x):
  ∀ m x,I x→μ x<m→C9 body m (st x) k=F x:=by
 intro m
 induction m with
 |zero=>intro x _ hm;omega
 |succ m ih=>
  intro x hx hm;rw[B1W];exact h x hx _ (fun _ _=>rfl) (fun _=>rfl) (fun y hy aB=>ih y hy (by omega))
end
theorem A4w{α:Type}{l:List α}{lo hi:Nat}(h:lo≤hi)(h2:hi≤l.length):sub l (lo:Int) (hi:Int)=some ((l.drop lo).take (hi - lo)):=by
 unfold sub;have h3:(decide (0≤(lo:Int))&&(decide ((lo:Int)≤(hi:Int))&&decide ((hi:Int)≤(l.length:Int))))=true:=by simp;omega
 rw[h3];rfl
theorem A59{α:Type}{l:List α}{lo:Nat}(h:lo≤l.length):sub l (lo:Int) (l.length:Int)=some (l.drop lo):=by
 rw[A4w h (Bz _),Bu (by simp)]
theorem bT(b:Bool):(b==true)=b:=by cases b<;>rfl
theorem bF(b:Bool):(b==false)= !b:=by cases b<;>rfl
end Go.Aev.Bv
namespace Go.Aev.Bv
open Go.Proofs
theorem w32{n:Int}(h: -2147483648≤n)(h2:n≤2147483647):Ba .i32 n=n:=Go.IntWalk.i32_in n ⟨h,h2⟩
theorem w8{n:Int}(h:0≤n)(h2:n≤255):Ba .u8 n=n:=Go.IntWalk.u8_in n ⟨h,h2⟩
theorem B9x{n:Int}(h:0≤n)(h2:n≤4294967295):Ba .u32 n=n:=Go.IntWalk.u32_in n ⟨h,h2⟩
theorem B4C{c:Int}:B12 c=true↔48≤c∧c≤57:=by simp[B12]
theorem B0e(c:Int): -1≤O3 c∧O3 c≤15:=by
 unfold O3;split
 ·rename_i h;have:=B4C.1 h;omega
 ·split
  ·rename_i h;simp at h;omega
  ·split
   ·rename_i h;simp at h;omega
   ·omega
theorem C0j(a b:Int)(n:Nat):A2 E49 n Tryz.f244 [.int .i32 a,.int .i32 b]=some (.tup [.int .i32 (N5 a b).1,.bool (N5 a b).2]):=by
 rw[B1P];unfold N5;by_cases h1:a<55296
 ·simp[h1]
 ·by_cases h2:56320≤a
  ·have fL:56319<a:=by omega
   simp[h1,h2,fL]
  ·have fL:¬56319<a:=by omega
   by_cases h3:b<56320
   ·simp[h1,h2,h3,fL]
   ·by_cases h4:57344≤b
    ·have pS:57343<b:=by omega
     simp[h1,h2,h3,h4,fL,pS]
    ·have pS:¬57343<b:=by omega
     simp[h1,h2,h3,h4,fL,pS];rw[w32 (n:=a - 55296) (by omega) (by omega),w32 (n:=(a - 55296)*1024) (by omega) (by omega),w32 (n:=65536+_) (by omega) (by omega),w32 (n:=b - 56320) (by omega) (by omega),w32 (by omega) (by omega)]
theorem C8X(c:Int)(n:Nat):A2 E32 n Tryz.f191 [.int .i32 c]=some (.one (.bool (M8 c))):=by
 rw[A93];unfold M8;by_cases h:c<32
 ·cases h1:c==9<;>cases h2:c==10<;>simp[h,h1,h2]
 ·by_cases h1:c≤65535
  ·by_cases h2:c<55296<;>simp[h,h1,h2]
  ·simp[h,h1]
theorem C1e(c:Int)(n:Nat):A2 E44 n Tryz.f220 [.int .i32 c]=some (.one (.bool (D2 c))):=by
 rw[B1i];unfold D2;by_cases h1:0≤c
 ·by_cases h2:c<55296
  ·simp[h1,h2]
  ·by_cases h3:57343<c
   ·by_cases h4:c≤1114111<;>simp[h1,h2,h3,h4]
   ·simp[h1,h2,h3]
 ·have h3:¬57343<c:=by omega
  simp[h1,h3]
theorem C0q(c:Int)(n:Nat):A2 E61 n Tryz.f175 [.int .i32 c]=some (.one (.bool (D2 c))):=by
 rw[C5S];unfold D2;by_cases h1:55296≤c
 ·by_cases h2:c≤57343
  ·have h3:¬57343<c:=by omega
   have h4:¬c<55296:=by omega
   simp[h1,h2,h3,h4]
  ·have h3:57343<c:=by omega
   have h4:¬c<55296:=by omega
   have h5:0≤c:=by omega
   simp[h1,h2,h3,h4,h5]
 ·have h4:c<55296:=by omega
  have h3:¬57343<c:=by omega
  by_cases h5:0≤c
  ·have h6:c≤1114111:=by omega
   simp[h1,h4,h5,h6]
  ·simp[h1,h4,h5,h3]
theorem C7e(c:Int)(n:Nat):A2 E53 n Tryz.f121 [.int .i32 c]=some (.one (.bool (M8 c))):=by
 rw[B0V];unfold M8;by_cases h:c<32
 ·have e:inF c [9,10,13]=(c==9||(c==10||c==13)):=by
   simp only[inF,Fp,List.any_nil,Bool.or_false,show((9:UInt8).toNat:Int)=9 from rfl,show((10:UInt8).toNat:Int)=10 from rfl,show((13:UInt8).toNat:Int)=13 from rfl];rw[Fu (a:=9) (b:=c),Fu (a:=10) (b:=c),Fu (a:=13) (b:=c)]
  simp only[h,decide_true,cond_true,if_true];rw[e];rfl
 ·by_cases h1:c≤65535
  ·have h2:c<65536:=by omega
   have e:D2 c=(decide (c<55296)||decide (57344≤c)):=by
    unfold D2;rw[Bool.eq_iff_iff];simp;omega
   simp[h,h1,h2,e]
  ·have h2:¬c<65536:=by omega
   simp[h,h1,h2]
theorem A2g(b:UInt8):0≤(b.toNat:Int)∧(b.toNat:Int)≤255:=by have:=b.toNat_lt;omega
theorem C3Z(c:Int)(t:List UInt8)(hl:A3 t.length 1=true)(n:Nat)(hn:t.length<n):A2 E62 n Ea [.int .i32 c,.str t]=some (.one (.bool (inF c t))):=by
 have au:=G5.1 hl;rw[B3R];refine(H2 (fun i:Nat=>A7G c t i) (fun i=>i≤t.length) (fun i=>t.length - i) (fun i=>(some (.one (.bool (inF c (t.drop i)))):Option E6)) ?_ n 0 (Bm _) (by omega));intro i hi K aV bA aN;rw[C4x];by_cases h:i<t.length
 ·rw[decide_eq_true (by omega:(i:Int)<(t.length:Int)),cond_true,D4 h];dsimp only;have hb:=A2g t[i];rw[w32 (by omega) (by omega),Cc h];unfold inF;rw[Fp];cases hc:(t[i].toNat:Int)==c with
  |true=>rw[cond_true,Bool.true_or];exact(bA _).trans rfl
  |false=>
   rw[cond_false,I2 (by omega),aN (i+1) (by omega) (by omega)];simp[inF]
 ·rw[decide_eq_false (by omega:¬(i:Int)<(t.length:Int)),cond_false,aV,C6U,Bn (by omega)];rfl
def T48:T6:=fun f ls=>match f with
 |245=>S60 ls
 |_=>none
def E48:Env Ty6 A4:=mk6 T48 noC (lkE [(0,[4]),(1,[8,9,10,11,12,13,14,15,16,17,18,19,20,21,22,23,24,25,26]),(2,[0,1,27]),(3,[27]),(4,[28,29]),(5,[30,31,32]),(6,[34,35]),(7,[33,36,37,38,39,40]),(8,[41]),(9,[0,1,5,6,7,42]),(10,[7,42,43,44,45,46,47]),(11,[0,1,5,6,33,48])]) 49
def A8u(x0:List Int)(x1:Int)(x5:Int)(x6:Int):S6:=⟨[(0,.one (.sl .i32 x0 none)),(1,.one (.int .i64 x1)),(5,.one (.int .i32 x5)),(6,.one (.int .i64 x6))],[]⟩
theorem C13(n:Nat)(a0:List Int)(a1:Int):A2 E48 n Cz [.sl .i32 a0 none,.int .i64 a1]=
  bif(decide ((Ba .i64 (a1+6))>(Ai a0:Int)))==false then(match idx a0 a1 with|none=>none|some y1=>(bif(y1 !=92)==false then(match idx a0 (Ba .i64 (a1+1))with|none=>none|some y2=>(bif y2 !=117 then(some (.one (.int .i32 (-1))))else(C9 (lbC E48 (A0 Cz [1,1,1,0,1,0,0]) 10005 n) n (A8u a0 a1 0 (Ba .i64 (a1+2))) (A8 0 (B9 (B1 E48 n (A0 Cz [1,1,1,1])) (B2 E48 Tryz.f243.results.toList))))))else(some (.one (.int .i32 (-1))))))else(some (.one (.int .i32 (-1)))):=by
 kernel_rfl
theorem C0f(n:Nat)(x0:List Int)(x1:Int)(x5:Int)(x6:Int)(K:Ex→S6→Option E6):lbC E48 (A0 Cz [1,1,1,0,1,0,0]) 10005 n (A8u x0 x1 x5 x6) K=
  bif decide (x6<(Ba .i64 (x1+6)))then(match idx x0 x6 with|none=>none|some y3=>(bif decide ((O3 y3)<0)then(K .ret ⟨[(4,.one (.int .i32 (-1)))],[]⟩)else(K .normal (A8u x0 x1 (Ba .i32 ((Ba .i32 (x5*16))+(Ba .i32 (O3 y3)))) (Ba .i64 (x6+1))))))else(K (.exit 0) ⟨[(0,.one (.sl .i32 x0 none)),(1,.one (.int .i64 x1)),(5,.one (.int .i32 x5)),(6,.one (.int .i64 x6)),(33,.one (.bool (decide (x6<(Ba .i64 (x1+6))))))],[]⟩):=by
 kernel_rfl
theorem C2j(n:Nat)(x0:List Int)(x1:Int)(x5:Int)(x6:Int)(yj:Bool):(A8 0 (B9 (B1 E48 n (A0 Cz [1,1,1,1])) (B2 E48 Tryz.f243.results.toList))) (.exit 0) ⟨[(0,.one (.sl .i32 x0 none)),(1,.one (.int .i64 x1)),(5,.one (.int .i32 x5)),(6,.one (.int .i64 x6)),(33,.one (.bool yj))],[]⟩=
  some (.one (.int .i32 x5)):=by
 kernel_rfl
def E47:Env Ty6 A4:=mk6 noT noC (lkE [(0,[2]),(4,[6,7,8]),(5,[10,11,17]),(6,[9,12,13,14,15,16]),(7,[0,3,4,5,17,18,19,20,21]),(8,[0,3,4,5,9])]) 22
def A9w(x0:Int)(x3:List UInt8)(x4:List UInt8)(x5:Int):S6:=⟨[(0,.one (.int .i32 x0)),(3,.one (.str x3)),(4,.one (.str x4)),(5,.one (.int .i64 x5))],[]⟩
theorem C7z(n:Nat)(a0:Int):A2 E47 n Dk [.int .i32 a0]=
  C9 (lbC E47 (A0 Dk [1,1,1,0,1,0,0]) 10004 n) n (A9w a0 [34,92,47,98,102,110,114,116] [34,92,47,8,12,10,13,9] 0) (A8 0 (B9 (B1 E47 n (A0 Dk [1,1,1,1])) (B2 E47 Tryz.f242.results.toList))):=by
 kernel_rfl
theorem C3q(n:Nat)(x0:Int)(x3:List UInt8)(x4:List UInt8)(x5:Int)(K:Ex→S6→Option E6):lbC E47 (A0 Dk [1,1,1,0,1,0,0]) 10004 n (A9w x0 x3 x4 x5) K=
  bif decide (x5<(Ai x3:Int))then(match idx x3 x5 with|none=>none|some y1=>(bif(Ba .i32 (Di y1:Int))==x0 then(match idx x4 x5 with|none=>none|some y2=>(K .ret ⟨[(2,.one (.int .i32 (Ba .i32 (Di y2:Int))))],[]⟩))else(K .normal (A9w x0 x3 x4 (Ba .i64 (x5+1))))))else(K (.exit 0) ⟨[(0,.one (.int .i32 x0)),(3,.one (.str x3)),(4,.one (.str x4)),(5,.one (.int .i64 x5)),(9,.one (.bool (decide (x5<(Ai x3:Int)))))],[]⟩):=by
 kernel_rfl
theorem C9L(n:Nat)(x0:Int)(x3:List UInt8)(x4:List UInt8)(x5:Int)(x9:Bool):(A8 0 (B9 (B1 E47 n (A0 Dk [1,1,1,1])) (B2 E47 Tryz.f242.results.toList))) (.exit 0) ⟨[(0,.one (.int .i32 x0)),(3,.one (.str x3)),(4,.one (.str x4)),(5,.one (.int .i64 x5)),(9,.one (.bool x9))],[]⟩=
  some (.one (.int .i32 (-1))):=by
 kernel_rfl
def T46:T6:=fun f ls=>match f with
 |121=>S53 ls
 |_=>none
def E46:Env Ty6 A4:=mk6 T46 noC (lkE [(0,[2]),(1,[0,3,4,5,6,7,8,9,10,11,12,13,14,15,16,17,18,19,20])]) 21
theorem B22(n:Nat)(a0:Int):A2 E46 n Tryz.f241 [.int .i32 a0]=
  bif(M8 a0)==true then(bif(a0 !=34)==true then(bif(a0 !=92)==true then(bif(a0 !=10)==true then(some (.one (.bool (a0 !=13))))else(some (.one (.bool false))))else(some (.one (.bool false))))else(some (.one (.bool false))))else(some (.one (.bool false))):=by
 kernel_rfl
def T34:T6:=fun f ls=>match f with
 |241=>S46 ls
 |242=>S47 ls
 |243=>S48 ls
 |244=>S49 ls
 |_=>none
def E34:Env Ty6 A4:=mk6 T34 noC (lkE [(0,[4,5]),(1,[12,13,14,15,16]),(2,[6]),(3,[0,1,17,18,19,20,21]),(4,[17,22,23,24,25,26,27,28,29,30,31,32]),(5,[0,1,33]),(6,[33,34,35,36,37,38,39]),(7,[40]),(8,[0,1,7,41,42]),(9,[7,41,43,44,45]),(10,[47,48,49,50,51,52,53,54,55,56]),(11,[0,1,8,46]),(12,[46,58,59,60,61,62,63]),(13,[0,1,57,64,65,66,67]),(14,[8,9,68,69,70,71,72,73]),(15,[11,74]),(16,[10,75]),(17,[10,75,76]),(18,[0,1,8,57,77])]) 78
theorem B2b(n:Nat)(a0:List Int)(a1:Int):A2 E34 n Ff [.sl .i32 a0 none,.int .i64 a1]=
  match idx a0 a1 with|none=>none|some y1=>(bif Z6 y1 then(match idx a0 a1 with|none=>none|some y2=>(some (.tup [.int .i32 y2,.int .i64 1])))else(match idx a0 a1 with|none=>none|some y3=>(bif(y3 !=92)==false then(bif decide ((Ba .i64 (a1+1))≥(Ai a0:Int))then(some (.tup [.int .i32 0,.int .i64 0]))else(match idx a0 (Ba .i64 (a1+1))with|none=>none|some y4=>(bif decide ((O7 y4)≥0)then(some (.tup [.int .i32 (O7 y4),.int .i64 2]))else(bif D0 a0&&decide (0≤a1)&&decide (a1≤(Ai a0:Int)+12)then(bif(decide ((I8 (Bj (Bg a1) a0))<0))==false then(bif(decide ((I8 (Bj (Bg a1) a0))≥56320))==true then(bif decide ((I8 (Bj (Bg a1) a0))≤57343)then(some (.tup [.int .i32 0,.int .i64 0]))else(bif(decide ((I8 (Bj (Bg a1) a0))≥55296))==true then(bif decide ((I8 (Bj (Bg a1) a0))≤56319)then(bif D0 a0&&decide (0≤(Ba .i64 (a1+6)))&&decide ((Ba .i64 (a1+6))≤(Ai a0:Int)+12)then(bif !((N5 (I8 (Bj (Bg a1) a0)) (I8 (Bj (Bg (Ba .i64 (a1+6))) a0))).2)then(some (.tup [.int .i32 0,.int .i64 0]))else(some (.tup [.int .i32 ((N5 (I8 (Bj (Bg a1) a0)) (I8 (Bj (Bg (Ba .i64 (a1+6))) a0))).1),.int .i64 12])))else none)else(some (.tup [.int .i32 (I8 (Bj (Bg a1) a0)),.int .i64 6])))else(some (.tup [.int .i32 (I8 (Bj (Bg a1) a0)),.int .i64 6]))))else(bif(decide ((I8 (Bj (Bg a1) a0))≥55296))==true then(bif decide ((I8 (Bj (Bg a1) a0))≤56319)then(bif D0 a0&&decide (0≤(Ba .i64 (a1+6)))&&decide ((Ba .i64 (a1+6))≤(Ai a0:Int)+12)then(bif !((N5 (I8 (Bj (Bg a1) a0)) (I8 (Bj (Bg (Ba .i64 (a1+6))) a0))).2)then(some (.tup [.int .i32 0,.int .i64 0]))else(some (.tup [.int .i32 ((N5 (I8 (Bj (Bg a1) a0)) (I8 (Bj (Bg (Ba .i64 (a1+6))) a0))).1),.int .i64 12])))else none)else(some (.tup [.int .i32 (I8 (Bj (Bg a1) a0)),.int .i64 6])))else(some (.tup [.int .i32 (I8 (Bj (Bg a1) a0)),.int .i64 6]))))else(some (.tup [.int .i32 0,.int .i64 0])))else none))))else(some (.tup [.int .i32 0,.int .i64 0]))))):=by
 kernel_rfl
def T50:T6:=fun f ls=>match f with
 |175=>S61 ls
 |_=>none
def E50:Env Ty6 A4:=mk6 T50 noC (lkE [(0,[2]),(1,[6,7]),(2,[0,8]),(3,[8,9,10,11,12]),(4,[13,14,15,16,17]),(5,[18,19,20,21,22]),(6,[24,25]),(7,[0,3,4,5,23,26,27,28]),(8,[23,30,31]),(9,[0,3,4,5,29,32,33,34,35,36,37]),(10,[29,39,40]),(11,[0,3,4,5,38,41,42,43,44,45,46,47]),(12,[0,3,4,5,38,48,49,50,51,52,53,54,55])]) 56
theorem D0l(n:Nat)(a0:Int):A2 E50 n Tryz.f172 [.int .i32 a0]=
  bif !(D2 a0)then(some (.one (.sl .u8 [] (some 1))))else(bif decide (a0<128)then(some (.one (.sl .u8 [Ba .u8 a0] (some 1))))else(bif decide (a0<2048)then(some (.one (.sl .u8 [Ba .u8 (Ba .i32 (192+(Ba .i32 (Cq a0 64)))),Ba .u8 (Ba .i32 (128+(Cg a0 64)))] (some 1))))else(bif decide (a0<65536)then(some (.one (.sl .u8 [Ba .u8 (Ba .i32 (224+(Ba .i32 (Cq a0 4096)))),Ba .u8 (Ba .i32 (128+(Cg (Ba .i32 (Cq a0 64)) 64))),Ba .u8 (Ba .i32 (128+(Cg a0 64)))] (some 1))))else(some (.one (.sl .u8 [Ba .u8 (Ba .i32 (240+(Ba .i32 (Cq a0 262144)))),Ba .u8 (Ba .i32 (128+(Cg (Ba .i32 (Cq a0 4096)) 64))),Ba .u8 (Ba .i32 (128+(Cg (Ba .i32 (Cq a0 64)) 64))),Ba .u8 (Ba .i32 (128+(Cg a0 64)))] (some 1))))))):=by
 kernel_rfl
def T33:T6:=fun f ls=>match f with
 |220=>S44 ls
 |221=>S45 ls
 |_=>none
def C5N:Bp→Option Nat:=fun f=>match f with
 |221=>some 0
 |_=>none
def E33:Env Ty6 A4:=mk6 T33 C5N (lkE [(0,[2,3]),(2,[0]),(4,[10,11,12]),(5,[13,14]),(6,[4,6,7,8,9,15]),(7,[6,15,16,17,18]),(8,[19]),(9,[4,7,8,9,10,20,21])]) 22
def A85(x4:List Int)(x7:List Int)(x8:Int)(x9:Int):S6:=⟨[(4,.one (.sl .u8 x4 (some 104))),(7,.one (.sl .i32 x7 none)),(8,.one (.int .i64 x8)),(9,.one (.int .i64 x9))],[104]⟩
theorem C5h(n:Nat)(a0:List Int):A2 E33 n Dw [.sl .i32 a0 none]=
  C9 (lbC E33 (A0 Dw [1,1,0,1,0,0]) 10003 n) n (A85 [] a0 (Ai a0:Int) 0) (A8 0 (B9 (B1 E33 n (A0 Dw [1,1,1])) (B2 E33 Tryz.f196.results.toList))):=by
 kernel_rfl
theorem C3F(n:Nat)(x4:List Int)(x7:List Int)(x8:Int)(x9:Int)(K:Ex→S6→Option E6):lbC E33 (A0 Dw [1,1,0,1,0,0]) 10003 n (A85 x4 x7 x8 x9) K=
  bif decide (x9<x8)then(match idx x7 x9 with|none=>none|some y1=>(bif !(D2 y1)then(K .ret ⟨[(2,.one (.str [])),(3,.one (.bool false))],[]⟩)else(bif A3 (Ai x4+4) 1&&D2 y1 then(K .normal (A85 (K7 x4 (u8F y1)) x7 x8 (Ba .i64 (x9+1))))else none)))else(K (.exit 0) ⟨[(4,.one (.sl .u8 x4 (some 104))),(7,.one (.sl .i32 x7 none)),(8,.one (.int .i64 x8)),(9,.one (.int .i64 x9)),(10,.one (.bool (decide (x9<x8))))],[104]⟩):=by
 kernel_rfl
theorem C5k(n:Nat)(x4:List Int)(x7:List Int)(x8:Int)(x9:Int)(bC:Bool):(A8 0 (B9 (B1 E33 n (A0 Dw [1,1,1])) (B2 E33 Tryz.f196.results.toList))) (.exit 0) ⟨[(4,.one (.sl .u8 x4 (some 104))),(7,.one (.sl .i32 x7 none)),(8,.one (.int .i64 x8)),(9,.one (.int .i64 x9)),(10,.one (.bool bC))],[104]⟩=
  some (.tup [.str (Co (fun(n:Int)=>Dj n.toNat) x4),.bool true]):=by
 kernel_rfl
def T35:T6:=fun f ls=>match f with
 |172=>S50 ls
 |_=>none
def E35:Env Ty6 A4:=mk6 T35 noC (lkE [(0,[2,3]),(3,[7,8,9]),(4,[11,12]),(5,[10,13,14,15,16,17]),(6,[18,19]),(7,[0,4,5,6,20]),(8,[6,20,21,22,23]),(9,[0,4,5,10,24,25])]) 26
def A9P(x0:List Int)(x4:List Int)(x5:Int):S6:=⟨[(0,.one (.sl .i32 x0 none)),(4,.one (.sl .u8 x4 (some 104))),(5,.one (.int .i64 x5))],[104]⟩
theorem C5J(n:Nat)(a0:List Int):A2 E35 n Ef [.sl .i32 a0 none]=
  C9 (lbC E35 (A0 Ef [1,1,0,1,0,0]) 10003 n) n (A9P a0 [] 0) (A8 0 (B9 (B1 E35 n (A0 Ef [1,1,1])) (B2 E35 Tryz.f125.results.toList))):=by
 kernel_rfl
theorem C1o(n:Nat)(x0:List Int)(x4:List Int)(x5:Int)(K:Ex→S6→Option E6):lbC E35 (A0 Ef [1,1,0,1,0,0]) 10003 n (A9P x0 x4 x5) K=
  bif decide (x5<(Ai x0:Int))then(match idx x0 x5 with|none=>none|some y1=>(bif(Ai (P3 y1):Int)==0 then(K .ret ⟨[(2,.one (.str [])),(3,.one (.bool false))],[]⟩)else(bif A3 (Ai x4+Ai (P3 y1)) 1 then(K .normal (A9P x0 (x4++(P3 y1)) (Ba .i64 (x5+1))))else none)))else(K (.exit 0) ⟨[(0,.one (.sl .i32 x0 none)),(4,.one (.sl .u8 x4 (some 104))),(5,.one (.int .i64 x5)),(10,.one (.bool (decide (x5<(Ai x0:Int)))))],[104]⟩):=by
 kernel_rfl
theorem C5o(n:Nat)(x0:List Int)(x4:List Int)(x5:Int)(bC:Bool):(A8 0 (B9 (B1 E35 n (A0 Ef [1,1,1])) (B2 E35 Tryz.f125.results.toList))) (.exit 0) ⟨[(0,.one (.sl .i32 x0 none)),(4,.one (.sl .u8 x4 (some 104))),(5,.one (.int .i64 x5)),(10,.one (.bool bC))],[104]⟩=
  some (.tup [.str (Co (fun(n:Int)=>Dj n.toNat) x4),.bool true]):=by
 kernel_rfl
def T21:T6:=fun f ls=>match f with
 |125=>S35 ls
 |235=>S34 ls
 |_=>none
def E21:Env Ty6 A4:=mk6 T21 noC (lkE [(0,[2,3]),(3,[10,11,12]),(4,[13,14,15,16,17,18,19]),(5,[20]),(6,[0,4,5,6,7,21]),(7,[6,21,22,23,24,25]),(8,[7,26,27,28]),(9,[0,4,5,9,13,29,30,31,32,33]),(10,[8,34])]) 35
def A7C(x0:List Int)(x4:List Int)(x5:Int):S6:=⟨[(0,.one (.sl .i32 x0 none)),(4,.one (.sl .i32 x4 (some 104))),(5,.one (.int .i64 x5))],[104]⟩
theorem C0C(n:Nat)(a0:List Int):A2 E21 n Dq [.sl .i32 a0 none]=
  C9 (lbC E21 (A0 Dq [1,1,1,0,0,0]) 10003 n) n (A7C a0 [] 0) (A8 0 (B9 (B1 E21 n (A0 Dq [1,1,1,1])) (B2 E21 Tryz.f214.results.toList))):=by
 kernel_rfl
theorem B4D(n:Nat)(x0:List Int)(x4:List Int)(x5:Int)(K:Ex→S6→Option E6):lbC E21 (A0 Dq [1,1,1,0,0,0]) 10003 n (A7C x0 x4 x5) K=
  bif decide (x5<(Ai x0:Int))then(bif D0 x0&&decide (0≤x5)&&decide (x5<(Ai x0:Int))then(bif((I3 (Bj (Bg x5) x0)).2)==0 then(K .ret ⟨[(2,.one (.str [])),(3,.one (.int .i64 60))],[]⟩)else(bif A3 (Ai x4+1) 4 then(K .normal (A7C x0 (x4++[(I3 (Bj (Bg x5) x0)).1]) (Ba .i64 (x5+((I3 (Bj (Bg x5) x0)).2)))))else none))else none)else(K (.exit 0) ⟨[(0,.one (.sl .i32 x0 none)),(4,.one (.sl .i32 x4 (some 104))),(5,.one (.int .i64 x5)),(13,.one (.bool (decide (x5<(Ai x0:Int)))))],[104]⟩):=by
 kernel_rfl
theorem C9e(n:Nat)(x0:List Int)(x4:List Int)(x5:Int)(kt:Bool):(A8 0 (B9 (B1 E21 n (A0 Dq [1,1,1,1])) (B2 E21 Tryz.f214.results.toList))) (.exit 0) ⟨[(0,.one (.sl .i32 x0 none)),(4,.one (.sl .i32 x4 (some 104))),(5,.one (.int .i64 x5)),(13,.one (.bool kt))],[104]⟩=
  bif D0 x4 then(some (.tup [.str ((I4 x4).1),.int .i64 0]))else none:=by
 kernel_rfl
def A3H:List UInt8:=[48,49,50,51,52,53,54,55,56,57,97,98,99,100,101,102]
def A3q:List UInt8:=[48,49,50,51,52,53,54,55,56,57,65,66,67,68,69,70]
theorem C6R:∀ i:Fin 16,O3 ((A3H[i.1]'i.2).toNat:Int)=i.1∧O3 ((A3q[i.1]'i.2).toNat:Int)=i.1:=by decide
theorem C6m{c:Int}(h:0≤O3 c):∃ j:Nat,∃ hj:j<16,((A3H[j]'hj).toNat:Int)=c∨((A3q[j]'hj).toNat:Int)=c:=by
 have:(c=48∨c=49∨c=50∨c=51∨c=52∨c=53∨c=54∨c=55∨c=56∨c=57)∨(c=97∨c=98∨c=99∨c=100∨c=101∨c=102)∨(c=65∨c=66∨c=67∨c=68∨c=69∨c=70):=by
  unfold O3 at h;split at h
  ·rename_i h1;have:=B4C.1 h1;left;omega
  ·split at h
   ·rename_i h1;simp at h1;right;left;omega
   ·split at h
    ·rename_i h1;simp at h1;right;right;omega
    ·omega
 rcases this with(h|h|h|h|h|h|h|h|h|h)|(h|h|h|h|h|h)|(h|h|h|h|h|h)
 ·exact⟨0,by omega,.inl (by rw[h];rfl)⟩
 ·exact⟨1,by omega,.inl (by rw[h];rfl)⟩
 ·exact⟨2,by omega,.inl (by rw[h];rfl)⟩
 ·exact⟨3,by omega,.inl (by rw[h];rfl)⟩
 ·exact⟨4,by omega,.inl (by rw[h];rfl)⟩
 ·exact⟨5,by omega,.inl (by rw[h];rfl)⟩
 ·exact⟨6,by omega,.inl (by rw[h];rfl)⟩
 ·exact⟨7,by omega,.inl (by rw[h];rfl)⟩
 ·exact⟨8,by omega,.inl (by rw[h];rfl)⟩
 ·exact⟨9,by omega,.inl (by rw[h];rfl)⟩
 ·exact⟨10,by omega,.inl (by rw[h];rfl)⟩
 ·exact⟨11,by omega,.inl (by rw[h];rfl)⟩
 ·exact⟨12,by omega,.inl (by rw[h];rfl)⟩
 ·exact⟨13,by omega,.inl (by rw[h];rfl)⟩
 ·exact⟨14,by omega,.inl (by rw[h];rfl)⟩
 ·exact⟨15,by omega,.inl (by rw[h];rfl)⟩
 ·exact⟨10,by omega,.inr (by rw[h];rfl)⟩
 ·exact⟨11,by omega,.inr (by rw[h];rfl)⟩
 ·exact⟨12,by omega,.inr (by rw[h];rfl)⟩
 ·exact⟨13,by omega,.inr (by rw[h];rfl)⟩
 ·exact⟨14,by omega,.inr (by rw[h];rfl)⟩
 ·exact⟨15,by omega,.inr (by rw[h];rfl)⟩
theorem D07(c:Int)(n:Nat)(hn:16<n):A2 E60 n Tryz.f245 [.int .i32 c]=some (.one (.int .i64 (O3 c))):=by
 rw[C7D];refine(H2 (fun i:Nat=>A7U c A3H A3q i) (fun i=>i≤16∧∀ j:Nat,∀ hj:j<16,j<i→((A3H[j]'hj).toNat:Int)≠c∧((A3q[j]'hj).toNat:Int)≠c) (fun i=>16 - i) (fun i=>(some (.one (.int .i64 (O3 c))):Option E6)) ?_ n 0 ⟨Bm _,fun j _ h=>absurd h (Fi _)⟩ (by omega));intro i ⟨hi,hb⟩ K aV bA aN;rw[C7t];by_cases h:i<16
 ·rw[decide_eq_true (by omega:(i:Int)<16),cond_true,D4 (l:=A3H) h];dsimp only;rw[D4 (l:=A3q) h];dsimp only;have h1:=A2g (A3H[i]'h);have h2:=A2g (A3q[i]'h);have ht:=C6R ⟨i,h⟩;rw[w32 (by omega) (by omega),w32 (by omega) (by omega)];cases hc:((A3H[i]'h).toNat:Int)==c with
  |true=>
   simp only[beq_iff_eq]at hc;show(bif true==false then _ else _)=_;refine(bA _).trans ?_;rw[←hc,ht.1];rfl
  |false=>
   show(bif false==false then _ else _)=_;rw[show(false==false)=true from rfl,cond_true];cases hd:((A3q[i]'h).toNat:Int)==c with
   |true=>
    simp only[beq_iff_eq]at hd;rw[cond_true];refine(bA _).trans ?_;rw[←hd,ht.2];rfl
   |false=>
    rw[cond_false,I2 (by omega)];refine aN (i+1) ⟨by omega,fun j hj ee=>?_⟩ (by omega);by_cases ku:j<i
    ·exact hb j hj ku
    ·have:j=i:=by omega
     subst this;exact⟨fun e=>by simp[e]at hc,fun e=>by simp[e]at hd⟩
 ·have hx:¬0≤O3 c:=fun hx=>by
   obtain⟨j,hj,hf⟩:=C6m hx;have:=hb j hj (by omega);rcases hf with hf|hf
   ·exact this.1 hf
   ·exact this.2 hf
  have hr:=B0e c;have he:O3 c= -1:=by omega
  rw[decide_eq_false (by omega:¬(i:Int)<16),cond_false,aV,C8t,he]
theorem B7H(m c:Int)(r:List Int):A2a m (c::r)=if O3 c<0 then -1 else A2a (m*16+O3 c) r:=rfl
theorem C69(m:List Int):∀(a:Int)(k:Nat),0≤a→a<16^k→ -1≤A2a a m∧A2a a m<16^(k+m.length):=by
 induction m with
 |nil=>intro a k h1 h2;simp[A2a];omega
 |cons c r ih=>
  intro a k h1 h2;rw[B7H];have hr:=B0e c;have hp:(0:Int)<16^(k+(c::r).length):=Gv (by omega);split
  ·omega
  ·have:=ih (a*16+O3 c) (k+1) (by omega) (by rw[Fq];omega);rw[Bl,show k+(r.length+1)=k+1+r.length by omega];exact this
theorem C41(l:List Int): -1≤E4 l∧E4 l≤65535:=by
 unfold E4;split
 ·omega
 ·rename_i h;have:=C69 (l.take 4) 0 0 (by omega) (by simp);have hl:(l.take 4).length=4:=by rw[Cp];omega
  rw[hl]at this;simp at this;omega
theorem B46{l:List Int}(h:l.length<4):E4 l= -1:=by unfold E4;rw[if_pos h]
theorem R8{l:List Int}{i:Nat}(h:i<l.length):l.drop i=l[i]::l.drop (i+1):=Cc h
theorem B6r(l:List Int)(h1:¬E4 l<0)(h2:55296≤E4 l)(h3:E4 l≤56319):W6 l=if 10≤l.length∧l[4]?=some 92∧l[5]?=some 117∧(N5 (E4 l) (E4 (l.drop 6))).2=true then((N5 (E4 l) (E4 (l.drop 6))).1,12)else(0,0):=by
 unfold W6;dsimp only;rw[if_neg (by omega),if_neg (by omega)]
theorem B0t(l:List Int)(h:E4 l<0∨(56320≤E4 l∧E4 l≤57343)):W6 l=(0,0):=by
 unfold W6;dsimp only;rw[if_pos h]
theorem B1B(l:List Int)(h1:¬E4 l<0)(h:E4 l<55296∨57343<E4 l):W6 l=(E4 l,6):=by
 unfold W6;dsimp only;rw[if_neg (by omega),if_pos h]
theorem C6v{l:List Int}(h:D0 l=true)(k:Nat):D0 (l.drop k)=true:=by
 have:=T2.1 h;exact T2.2 (by rw[Bi];omega)
theorem V5{a b:Int}(h:a≠b):(a !=b)=true:=bne_iff_ne.2 h
theorem Y8{a b:Int}(h:a=b):(a !=b)=false:=by rw[h];exact bne_self_eq_false _
theorem beqT{a b:Int}(h:a=b):(a==b)=true:=beq_iff_eq.2 h
theorem beqF{a b:Int}(h:a≠b):(a==b)=false:=beq_false_of_ne h
theorem B62(c:Int)(l:List Int)(h:2≤l.length):A07 l=if 0≤O7 l[1]then(O7 l[1],2)else if l[1]=117 then W6 (l.drop 2)else(0,0):=by
 match l,h with
 |_::_::_,_=>rfl
theorem B0z{l:List Int}(h:l.length<2):A07 l=(0,0):=by
 match l,h with
 |[],_=>rfl
 |[_],_=>rfl
theorem C2Z(c:Int)(n:Nat):A2 E46 n Tryz.f241 [.int .i32 c]=some (.one (.bool (Z6 c))):=by
 rw[B22];unfold Z6;cases h0:M8 c with
 |false=>rfl
 |true=>
  by_cases c1:c=34
  ·rw[Y8 c1,beqT c1];rfl
  by_cases c2:c=92
  ·rw[V5 c1,beqF c1,Y8 c2,beqT c2];rfl
  by_cases c3:c=10
  ·rw[V5 c1,beqF c1,V5 c2,beqF c2,Y8 c3,beqT c3];rfl
  ·rw[V5 c1,beqF c1,V5 c2,beqF c2,V5 c3,beqF c3];rfl
def namesT:List UInt8:=[34,92,47,98,102,110,114,116]
def A8h:List UInt8:=[34,92,47,8,12,10,13,9]
theorem C0M:∀ i:Fin 8,O7 ((namesT[i.1]'i.2).toNat:Int)=((A8h[i.1]'i.2).toNat:Int):=by decide
theorem C8s{c:Int}(h:∀ j:Nat,∀ hj:j<8,((namesT[j]'hj).toNat:Int)≠c):O7 c= -1:=by
 have h0:(34:Int)≠c:=h 0 (by omega);have h1:(92:Int)≠c:=h 1 (by omega);have h2:(47:Int)≠c:=h 2 (by omega);have h3:(98:Int)≠c:=h 3 (by omega);have h4:(102:Int)≠c:=h 4 (by omega);have h5:(110:Int)≠c:=h 5 (by omega);have h6:(114:Int)≠c:=h 6 (by omega);have h7:(116:Int)≠c:=h 7 (by omega);unfold O7;rw[if_neg (by omega),if_neg (by omega),if_neg (by omega),if_neg (by omega),if_neg (by omega),if_neg (by omega)]
theorem C7f(c:Int)(n:Nat)(hn:8<n):A2 E47 n Dk [.int .i32 c]=some (.one (.int .i32 (O7 c))):=by
 rw[C7z];refine(H2 (fun i:Nat=>A9w c namesT A8h i) (fun i=>i≤8∧∀ j:Nat,∀ hj:j<8,j<i→((namesT[j]'hj).toNat:Int)≠c) (fun i=>8 - i) (fun i=>(some (.one (.int .i32 (O7 c))):Option E6)) ?_ n 0 ⟨Bm _,fun j _ h=>absurd h (Fi _)⟩ (by omega));intro i ⟨hi,hb⟩ K aV bA aN;rw[C3q];have au:namesT.length=8:=rfl;by_cases h:i<8
 ·rw[decide_eq_true (by omega:(i:Int)<(namesT.length:Int)),cond_true,D4 (l:=namesT) h];dsimp only;rw[D4 (l:=A8h) h];dsimp only;have h1:=A2g (namesT[i]'h);have h2:=A2g (A8h[i]'h);have ht:=C0M ⟨i,h⟩;rw[w32 (by omega) (by omega),w32 (by omega) (by omega)];cases hc:((namesT[i]'h).toNat:Int)==c with
  |true=>
   simp only[beq_iff_eq]at hc;rw[cond_true];refine(bA _).trans ?_;rw[←hc,ht];rfl
  |false=>
   rw[cond_false,I2 (by omega)];refine aN (i+1) ⟨by omega,fun j hj ee=>?_⟩ (by omega);by_cases ku:j<i
   ·exact hb j hj ku
   ·have:j=i:=by omega
    subst this;exact fun e=>by simp[e]at hc
 ·rw[decide_eq_false (by omega:¬(i:Int)<(namesT.length:Int)),cond_false,aV,C9L,C8s (fun j hj=>hb j hj (by omega))]
theorem t2B:∀ x:Fin 32,bits .or .u8 192 (x.1:Int)=192+x.1:=by decide+kernel
theorem t3B:∀ x:Fin 16,bits .or .u8 224 (x.1:Int)=224+x.1:=by decide+kernel
theorem t4B:∀ x:Fin 8,bits .or .u8 240 (x.1:Int)=240+x.1:=by decide+kernel
theorem txB:∀ x:Fin 256,bits .or .u8 128 (bits .and .u8 (x.1:Int) 63)=128+(x.1:Int) % 64:=by decide+kernel
theorem t2I{x:Int}(h:0≤x)(h2:x<32):bits .or .u8 192 (Ba .u8 x)=192+x:=by
 rw[w8 h (by omega)];have:=t2B ⟨x.toNat,by omega⟩;dsimp only at this;rw[show((x.toNat:Nat):Int)=x by omega]at this;exact this
theorem t3I{x:Int}(h:0≤x)(h2:x<16):bits .or .u8 224 (Ba .u8 x)=224+x:=by
 rw[w8 h (by omega)];have:=t3B ⟨x.toNat,by omega⟩;dsimp only at this;rw[show((x.toNat:Nat):Int)=x by omega]at this;exact this
theorem t4I{x:Int}(h:0≤x)(h2:x<8):bits .or .u8 240 (Ba .u8 x)=240+x:=by
 rw[w8 h (by omega)];have:=t4B ⟨x.toNat,by omega⟩;dsimp only at this;rw[show((x.toNat:Nat):Int)=x by omega]at this;exact this
theorem txI{x:Int}:bits .or .u8 128 (bits .and .u8 (Ba .u8 x) 63)=128+x % 64:=by
 rw[IntKind.wrap_u8];have:=txB ⟨(x % 256).toNat,by omega⟩;dsimp only at this;rw[show(((x % 256).toNat:Nat):Int)=x % 256 by omega]at this;rw[this];omega
theorem V3{c:Int}:D2 c=true↔(0≤c∧c<55296)∨(57343<c∧c≤1114111):=by simp[D2]
theorem A5H(c:Int):1≤(u8F c).length∧(u8F c).length≤4:=by
 unfold u8F;split
 ·simp
 ·split
  ·simp
  ·split<;>simp
theorem A3E{n m b:Nat}(h:A3 m b=true)(hn:n≤m):A3 n b=true:=by
 have:=G5.1 h;exact G5.2 (Fx (Nat.mul_le_mul_right b hn) this)
theorem C3n(l:List Int)(c:Int)(hr:A3 (l.length+4) 1=true)(hv:D2 c=true)(hc:128≤c)(n:Nat):
  A2 E59 n Tryz.f238 [.sl .u8 l (some 0),.int .i32 c]=some (.one (.sl .u8 (K7 l (u8F c)) (some 0))):=by
 have h:=V3.1 hv;rw[C1i,B9x (by omega) (by omega),A3E hr (by omega:l.length+2≤l.length+4),A3E hr (by omega:l.length+3≤l.length+4),hr];have e6:c / 2^(Bg 6)=c / 64:=rfl;have yk:c / 2^(Bg 12)=c / 4096:=rfl;have yl:c / 2^(Bg 18)=c / 262144:=rfl;rw[e6,yk,yl,txI,txI,txI];unfold u8F K7;rw[if_neg (by omega)];by_cases h1:c<2048
 ·rw[decide_eq_true (by omega:c≤2047),if_pos h1,t2I (by omega) (by omega)];rfl
 rw[decide_eq_false (by omega:¬c≤2047),if_neg h1];by_cases h2:c<65536
 ·rw[if_pos h2,t3I (by omega) (by omega),decide_eq_false (by omega:¬c>65535),decide_eq_true (by omega:c≤65535)];by_cases h3:c<55296
  ·rw[decide_eq_true h3];rfl
  ·rw[decide_eq_false h3,decide_eq_true (by omega:57343<c)];rfl
 ·rw[if_neg h2,t4I (by omega) (by omega),decide_eq_false (by omega:¬c<55296),decide_eq_true (by omega:57343<c),decide_eq_false (by omega:¬c≤65535),decide_eq_true (by omega:c>65535),decide_eq_true (by omega:c≤1114111)];rfl
theorem C3w(l:List Int)(c:Int)(hr:A3 (l.length+4) 1=true)(hv:D2 c=true)(n:Nat):
  A2 E45 n Tryz.f221 [.sl .u8 l (some 0),.int .i32 c]=some (.one (.sl .u8 (K7 l (u8F c)) (some 0))):=by
 have h:=V3.1 hv;rw[B2g,B9x (by omega) (by omega),A3E hr (by omega:l.length+1≤l.length+4),hr,hv];by_cases h1:c<128
 ·rw[decide_eq_true (by omega:c≤127),w8 (by omega) (by omega)];unfold u8F K7;rw[if_pos h1];rfl
 ·rw[decide_eq_false (by omega:¬c≤127),decide_eq_true (by omega:128≤c)];rfl
theorem B0u(c:Int)(n:Nat):A2 E50 n Tryz.f172 [.int .i32 c]=some (.one (.sl .u8 (P3 c) (some 1))):=by
 rw[D0l];unfold P3;cases hv:D2 c with
 |false=>rfl
 |true=>
  have h:=V3.1 hv;have d1:Cq c 64=c / 64:=Fb (by omega);have d2:Cq c 4096=c / 4096:=Fb (by omega);have d3:Cq c 262144=c / 262144:=Fb (by omega);rw[d1,d2,d3,w32 (n:=c / 64) (by omega) (by omega),w32 (n:=c / 4096) (by omega) (by omega),w32 (n:=c / 262144) (by omega) (by omega)];have m1:Cg c 64=c % 64:=Ei (by omega);have m2:Cg (c / 64) 64=c / 64 % 64:=Ei (by omega);have m3:Cg (c / 4096) 64=c / 4096 % 64:=Ei (by omega);rw[m1,m2,m3,w32 (n:=128+c % 64) (by omega) (by omega),w32 (n:=128+c / 64 % 64) (by omega) (by omega),w32 (n:=128+c / 4096 % 64) (by omega) (by omega),w32 (n:=192+c / 64) (by omega) (by omega),w32 (n:=224+c / 4096) (by omega) (by omega),w32 (n:=240+c / 262144) (by omega) (by omega),
   w8 (n:=128+c % 64) (by omega) (by omega),w8 (n:=128+c / 64 % 64) (by omega) (by omega),w8 (n:=128+c / 4096 % 64) (by omega) (by omega)]
  unfold u8F;show(bif false then _ else _)=_;rw[cond_false,if_pos rfl];by_cases h1:c<128
  ·rw[decide_eq_true h1,if_pos h1,w8 (by omega) (by omega)];rfl
  rw[decide_eq_false h1,if_neg h1];by_cases h2:c<2048
  ·rw[decide_eq_true h2,if_pos h2,w8 (n:=192+c / 64) (by omega) (by omega)];rfl
  rw[decide_eq_false h2,if_neg h2];by_cases h3:c<65536
  ·rw[decide_eq_true h3,if_pos h3,w8 (n:=224+c / 4096) (by omega) (by omega)];rfl
  ·rw[decide_eq_false h3,if_neg h3,w8 (n:=240+c / 262144) (by omega) (by omega)];rfl
theorem flat_u8F_len(l:List Int):(l.flatMap u8F).length≤4*l.length:=by
 induction l with
 |nil=>simp
 |cons c l ih=>have:=A5H c;simp only[Ce,Br,Bl];omega
theorem B8D(l:List Int)(i:Nat)(h:i≤l.length)(hp:(l.take i).all D2=true):(if(l.drop i).all D2 then(B3 l,true)else(([]:List UInt8),false))=I4 l:=by
 unfold I4;have:l.all D2=((l.take i).all D2&&(l.drop i).all D2):=by rw[←Cl,Ev]
 rw[this,hp,Ft]
theorem B7s{l:List Int}{i:Nat}(h:i<l.length):(l.take (i+1)).flatMap u8F=(l.take i).flatMap u8F++u8F l[i]:=by
 rw[Cj h,Er];simp
theorem B6O(l:List Int)(i:Nat):((l.take i).flatMap u8F).length≤4*i:=by
 have:=flat_u8F_len (l.take i);have h2:(l.take i).length≤i:=En _ _;omega
theorem C9y(l:List Int)(hl:D0 l=true)(n:Nat)(hn:l.length<n):A2 E33 n Dw [.sl .i32 l none]=some (.tup [.str (I4 l).1,.bool (I4 l).2]):=by
 have au:=T2.1 hl;rw[C5h];refine(H2 (fun i:Nat=>A85 ((l.take i).flatMap u8F) l (l.length:Int) i) (fun i=>i≤l.length∧(l.take i).all D2=true) (fun i=>l.length - i) (fun i=>(some (.tup [.str (I4 l).1,.bool (I4 l).2]):Option E6)) ?_ n 0 ⟨Bm _,rfl⟩ (by omega));intro i ⟨hi,hp⟩ K aV bA aN;have bV:=B6O l i;have kw:=B8D l i hi hp;rw[C3F];by_cases h:i<l.length
 ·rw[decide_eq_true (by omega:(i:Int)<(l.length:Int)),cond_true,D4 h];dsimp only;rw[Cc h,Cf]at kw;cases hv:D2 l[i]with
  |false=>
   rw[hv]at kw;show(bif true then _ else _)=_;rw[cond_true, ←kw];exact(bA _).trans rfl
  |true=>
   show(bif false then _ else(bif _&&true then _ else _))=_;rw[cond_false,G5.2 (by omega),Gx,cond_true,I2 (by omega)];unfold K7;rw[←B7s h];exact aN (i+1) ⟨by omega,by rw[Cj h,Cl,hp];simp[hv]⟩ (by omega)
 ·rw[Bn (by omega)]at kw;rw[decide_eq_false (by omega:¬(i:Int)<(l.length:Int)),cond_false,aV,C5k, ←kw,Bu (by omega)];rfl
theorem C8v(l:List Int)(hl:D0 l=true)(n:Nat)(hn:l.length<n):A2 E35 n Ef [.sl .i32 l none]=some (.tup [.str (I4 l).1,.bool (I4 l).2]):=by
 have au:=T2.1 hl;rw[C5J];refine(H2 (fun i:Nat=>A9P l ((l.take i).flatMap u8F) i) (fun i=>i≤l.length∧(l.take i).all D2=true) (fun i=>l.length - i) (fun i=>(some (.tup [.str (I4 l).1,.bool (I4 l).2]):Option E6)) ?_ n 0 ⟨Bm _,rfl⟩ (by omega));intro i ⟨hi,hp⟩ K aV bA aN;have bV:=B6O l i;have kw:=B8D l i hi hp;rw[C1o];by_cases h:i<l.length
 ·rw[decide_eq_true (by omega:(i:Int)<(l.length:Int)),cond_true,D4 h];dsimp only;rw[Cc h,Cf]at kw;unfold P3;cases hv:D2 l[i]with
  |false=>
   rw[hv]at kw;rw[←kw];exact(bA _).trans rfl
  |true=>
   have hu:=A5H l[i];rw[if_pos rfl,beqF (by omega),cond_false,G5.2 (by omega),cond_true,I2 (by omega)];rw[←B7s h];exact aN (i+1) ⟨by omega,by rw[Cj h,Cl,hp];simp[hv]⟩ (by omega)
 ·rw[Bn (by omega)]at kw;rw[decide_eq_false (by omega:¬(i:Int)<(l.length:Int)),cond_false,aV,C5o, ←kw,Bu (by omega)];rfl
theorem A0N{i k:Nat}(h:i+k≤9223372036854775807):Ba .i64 ((i:Int)+(k:Int))=((i+k:Nat):Int):=by
 rw[P6 (by omega) (by omega)];omega
theorem A5K(l:List Int)(i:Nat):I8 (l.drop i)=if l[i]?=some 92∧l[i+1]?=some 117 then E4 (l.drop (i+2))else -1:=by
 unfold I8;rw[Ep,Ep,Df,Ga]
theorem C29{l:List Int}(h:l.length<6):I8 l= -1:=by
 unfold I8;split
 ·exact B46 (by rw[Bi];omega)
 ·rfl
theorem C6Y(l:List Int)(hl:D0 l=true)(i:Nat)(hi:i≤l.length+12)(n:Nat)(hn:4<n):A2 E48 n Cz [.sl .i32 l none,.int .i64 i]=some (.one (.int .i32 (I8 (l.drop i)))):=by
 have au:=A3u hl;rw[C13,show(6:Int)=((6:Nat):Int)from rfl,A0N (by omega),show(1:Int)=((1:Nat):Int)from rfl,A0N (by omega),show(2:Int)=((2:Nat):Int)from rfl,A0N (by omega)];by_cases h:l.length<i+6
 ·rw[decide_eq_true (by omega:((i+6:Nat):Int)>(l.length:Int)),C29 (by rw[Bi];omega)];rfl
 rw[decide_eq_false (by omega:¬((i+6:Nat):Int)>(l.length:Int)),D4 (by omega),A5K,Ck (by omega:i<l.length),Ck (by omega:i+1<l.length)];dsimp only;rw[D4 (by omega)];dsimp only;by_cases c1:l[i]=92
 ·rw[Y8 c1];by_cases c2:l[i+1]=117
  ·rw[Y8 c2,if_pos ⟨by rw[c1],by rw[c2]⟩];show C9 _ n _ _=_;have hh:E4 (l.drop (i+2))=A2a 0 ((l.drop (i+2)).take 4):=by unfold E4;rw[if_neg (by rw[Bi];omega)]
   rw[hh];obtain⟨m,hm⟩:∃ m,(l.drop (i+2)).take 4=m:=⟨_,rfl⟩;have Aj:m.length=4:=by rw[←hm,Cp,Bi];omega
   have aI:∀(j:Nat)(hj:j<4),l[i+2+j]'(by omega)=m[j]'(by omega):=fun j hj=>by subst hm;simp
   rw[hm];refine(H2 (fun p:Int×Nat=>A8u l i p.1 ((i+2+p.2:Nat):Int)) (fun p=>p.2≤4∧0≤p.1∧p.1<16^p.2) (fun p=>4 - p.2) (fun p=>(some (.one (.int .i32 (A2a p.1 (m.drop p.2)))):Option E6)) ?_ n (0,0) (by simp) (by simp only;omega)).trans rfl;rintro⟨a,j⟩ ⟨hj,ha,nI⟩ K aV bA aN;dsimp only at hj ha nI aN ⊢;rw[C0f,show(6:Int)=((6:Nat):Int)from rfl,A0N (by omega)];by_cases aB:j<4
   ·rw[decide_eq_true (by omega:((i+2+j:Nat):Int)<((i+6:Nat):Int)),cond_true,D4 (by omega)];dsimp only;rw[aI j aB,Cc (by omega),B7H];have hr:=B0e m[j];have hp:(16:Int)^j≤16^3:=by
     have:j=0∨j=1∨j=2∨j=3:=by omega
     rcases this with rfl|rfl|rfl|rfl<;>decide
    by_cases hx:O3 m[j]<0
    ·rw[decide_eq_true hx,cond_true,if_pos hx];exact(bA _).trans rfl
    ·rw[decide_eq_false hx,cond_false,if_neg hx,w32 (n:=a*16) (by omega) (by omega),w32 (n:=O3 m[j]) (by omega) (by omega),w32 (by omega) (by omega),I2 (by omega)];refine aN (a*16+O3 m[j],j+1) ⟨by simp;omega,by simp;omega,?_⟩ (by simp;omega);show a*16+O3 m[j]<16^(j+1);rw[Fq];omega
   ·rw[decide_eq_false (by omega:¬((i+2+j:Nat):Int)<((i+6:Nat):Int)),cond_false,aV,C2j,Bn (by omega)];rfl
  ·rw[V5 c2,if_neg (fun h=>c2 (Eg h.2))];rfl
 ·rw[V5 c1,if_neg (fun h=>c1 (Eg h.1))];rfl
theorem D1u(c:Int):(0≤O7 c)↔c=34∨c=92∨c=47∨c=98∨c=102∨c=110∨c=114∨c=116:=by
 unfold O7;constructor
 ·intro h;by_cases h1:c=34∨c=92∨c=47
  ·omega
  ·rw[if_neg h1]at h;split at h
   ·omega
   ·split at h
    ·omega
    ·split at h
     ·omega
     ·split at h
      ·omega
      ·split at h<;>omega
 ·intro h;rcases h with rfl|rfl|rfl|rfl|rfl|rfl|rfl|rfl<;>decide
theorem D0n(l:List Int)(i:Nat)(h:i<l.length):I3 (l.drop i)=if Z6 l[i]then(l[i],1)else if l[i]=92 then A07 (l.drop i)else(0,0):=by
 rw[R8 h];rfl
theorem D0R{l:List Int}{i:Nat}(h:i+1<l.length):A07 (l.drop i)=if 0≤O7 l[i+1]then(O7 l[i+1],2)else if l[i+1]=117 then W6 (l.drop (i+2))else(0,0):=by
 rw[R8 (i:=i) (by omega),R8 (i:=i+1) (by omega)];rfl
theorem C2r{l:List Int}{i:Nat}(h:i+1<l.length)(h1:l[i]=92)(h2:l[i+1]=117):
  I8 (l.drop i)=E4 (l.drop (i+2)):=by
 rw[A5K,Ck (by omega:i<l.length),Ck h,h1,h2,if_pos ⟨rfl,rfl⟩]
theorem C4q{a b:Int}(h:b<56320):N5 a b=(0,false):=by
 unfold N5;rw[if_pos (by simp;omega)]
theorem C2L{l:List Int}{i:Nat}(h:i+2≤l.length)(c1:¬E4 (l.drop (i+2))<0)(c2:55296≤E4 (l.drop (i+2)))(c3:E4 (l.drop (i+2))≤56319):
  W6 (l.drop (i+2))=if(N5 (E4 (l.drop (i+2))) (I8 (l.drop (i+6)))).2 then((N5 (E4 (l.drop (i+2))) (I8 (l.drop (i+6)))).1,12)else(0,0):=by
 have hg:∀ k,(l.drop (i+2))[k]?=l[i+2+k]? :=fun k=>Ep;rw[B6r _ c1 c2 c3,hg 4,hg 5,Df,Bi];have e4:i+2+4=i+6:=by omega
 have e5:i+2+5=i+6+1:=by omega
 have e6:i+2+6=i+6+2:=by omega
 rw[e4,e5,e6];have hj:∀ b,b<56320→¬(N5 (E4 (l.drop (i+2))) b).2=true:=fun b hb=>by rw[C4q hb];simp
 by_cases d:l[i+6]?=some 92∧l[i+6+1]?=some 117
 ·have hu:I8 (l.drop (i+6))=E4 (l.drop (i+6+2)):=by rw[A5K,if_pos d]
  rw[hu];by_cases d3:10≤l.length - (i+2)
  ·by_cases d4:(N5 (E4 (l.drop (i+2))) (E4 (l.drop (i+6+2)))).2=true
   ·rw[if_pos ⟨d3,d.1,d.2,d4⟩,if_pos d4]
   ·rw[if_neg (fun h=>d4 h.2.2.2),if_neg d4]
  ·rw[if_neg (fun h=>d3 h.1),if_neg (hj _ (by rw[B46 (l:=l.drop (i+6+2)) (by rw[Bi];omega)];omega))]
 ·have hu:I8 (l.drop (i+6))= -1:=by rw[A5K,if_neg d]
  rw[hu,if_neg (fun h=>d ⟨h.2.1,h.2.2.1⟩),if_neg (hj _ (by omega))]
theorem C6t(l:List Int)(hl:D0 l=true)(i:Nat)(hi:i<l.length)(n:Nat):A2 E34 n Ff [.sl .i32 l none,.int .i64 i]=some (.tup [.int .i32 (I3 (l.drop i)).1,.int .i64 (I3 (l.drop i)).2]):=by
 have au:=A3u hl;rw[B2b,D4 hi,D0n l i hi];dsimp only;cases hp:Z6 l[i]with
 |true=>rw[if_pos rfl];rfl
 |false=>
  rw[cond_false,if_neg (by simp)];by_cases c0:l[i]=92
  ·rw[Y8 c0,if_pos c0,show(1:Int)=((1:Nat):Int)from rfl,A0N (by omega)];by_cases h2:l.length≤i+1
   ·rw[decide_eq_true (by omega:((i+1:Nat):Int)≥(l.length:Int)),B0z (by rw[Bi];omega)];rfl
   ·rw[decide_eq_false (by omega:¬((i+1:Nat):Int)≥(l.length:Int)),D4 (by omega),D0R (by omega)];dsimp only;by_cases hs:0≤O7 l[i+1]
    ·rw[decide_eq_true (show O7 l[i+1]≥0 from hs),if_pos hs];rfl
    ·have ym:¬(O7 l[i+1]≥0):=hs;rw[decide_eq_false ym,if_neg hs,hl,show(6:Int)=((6:Nat):Int)from rfl,A0N (by omega),
      decide_eq_true (by omega:(0:Int)≤(i:Int)),decide_eq_true (by omega:(i:Int)≤(l.length:Int)+12),decide_eq_true (by omega:(0:Int)≤((i+6:Nat):Int)),decide_eq_true (by omega:((i+6:Nat):Int)≤(l.length:Int)+12),Cv,Cv]
     by_cases lZ:l[i+1]=117
     ·rw[if_pos lZ,C2r (by omega) c0 lZ];by_cases c1:E4 (l.drop (i+2))<0
      ·rw[decide_eq_true c1,B0t _ (.inl c1)];rfl
      rw[decide_eq_false c1];by_cases c2:56320≤E4 (l.drop (i+2))
      ·by_cases c3:E4 (l.drop (i+2))≤57343
       ·rw[decide_eq_true (show E4 (l.drop (i+2))≥56320 from c2),decide_eq_true c3,B0t _ (.inr ⟨c2,c3⟩)];rfl
       ·rw[decide_eq_true (show E4 (l.drop (i+2))≥56320 from c2),decide_eq_false c3,decide_eq_true (by omega:E4 (l.drop (i+2))≥55296),decide_eq_false (by omega:¬E4 (l.drop (i+2))≤56319),B1B _ c1 (.inr (by omega))];rfl
      ·rw[decide_eq_false (show¬E4 (l.drop (i+2))≥56320 from c2)];by_cases c3:55296≤E4 (l.drop (i+2))
       ·rw[decide_eq_true (show E4 (l.drop (i+2))≥55296 from c3),decide_eq_true (by omega:E4 (l.drop (i+2))≤56319),C2L (by omega) c1 c3 (by omega)];cases (N5 (E4 (l.drop (i+2))) (I8 (l.drop (i+6)))).2<;>rfl
       ·rw[decide_eq_false (show¬E4 (l.drop (i+2))≥55296 from c3),B1B _ c1 (.inl (by omega))];rfl
     ·rw[if_neg lZ];have hu:I8 (l.drop i)= -1:=by
       rw[A5K,Ck (by omega:i+1<l.length),if_neg (fun h=>lZ (Eg h.2))]
      rw[hu];rfl
  ·rw[V5 c0,if_neg c0];rfl
theorem C7O(l:List Int):0≤(W6 l).2∧(W6 l).2≤12:=by
 unfold W6;dsimp only;split
 ·simp
 ·split
  ·simp
  ·split<;>simp
theorem D0p(l:List Int):0≤(A07 l).2∧(A07 l).2≤12:=by
 by_cases h:l.length<2
 ·rw[B0z h];simp
 ·rw[B62 0 l (by omega)];split
  ·simp
  ·split
   ·exact C7O _
   ·simp
theorem A9x(l:List Int):0≤(I3 l).2∧(I3 l).2≤12:=by
 cases l with
 |nil=>simp[I3]
 |cons c r=>
  show 0≤(if Z6 c then(c,1)else if c=92 then A07 (c::r)else((0,0):Int×Int)).2∧(if Z6 c then(c,1)else if c=92 then A07 (c::r)else((0,0):Int×Int)).2≤12;by_cases h:Z6 c=true
  ·rw[if_pos h];simp
  ·rw[if_neg h];by_cases h2:c=92
   ·rw[if_pos h2];exact D0p _
   ·rw[if_neg h2];simp
theorem C8b:∀(n m:Nat)(l:List Int),l.length≤n→l.length≤m→A4N n l=A4N m l:=by
 intro n
 induction n with
 |zero=>
  intro m l h1 h2;have:l=[]:=Es (by omega);subst this;cases m<;>rfl
 |succ n ih=>
  intro m l h1 h2;cases l with
  |nil=>cases m<;>rfl
  |cons c r=>
   cases m with
   |zero=>simp at h2
   |succ m=>
    simp only[A4N];split
    ·rfl
    ·rename_i hp;have h3:((c::r).drop (I3 (c::r)).2.toNat).length≤r.length:=by
      rw[Bi,Bl];omega
     rw[ih m _ (by simp at h1;omega) (by simp at h2;omega)]
theorem B0d:A1v []=some []:=rfl
theorem B4G{l:List Int}(h:l≠[]):A1v l=if(I3 l).2=0 then none else(A1v (l.drop (I3 l).2.toNat)).map ((I3 l).1:: ·):=by
 cases l with
 |nil=>exact absurd rfl h
 |cons c r=>
  have hr:=A9x (c::r)
  conv=>lhs;unfold A1v
  simp only[Bl,A4N];by_cases hp:(I3 (c::r)).2=0
  ·rw[if_pos (by omega),if_pos hp]
  ·rw[if_neg (by omega),if_neg hp];unfold A1v;rw[C8b r.length _ _ (by rw[Bi,Bl];omega) (Bz _)]
def A2E(out:List Int)(o:Option (List Int)):Option E6:=some (.tup [.str (A4d (o.map (out++ ·))).1,.int .i64 (A4d (o.map (out++ ·))).2])
theorem C0R(out:List Int):A2E out (some [])=some (.tup [.str (I4 out).1,.int .i64 0]):=by simp[A2E,A4d]
theorem C6x(out:List Int):A2E out none=some (.tup [.str [],.int .i64 60]):=rfl
theorem C0g(out:List Int)(c:Int)(o:Option (List Int)):A2E out (o.map (c:: ·))=A2E (out++[c]) o:=by
 cases o<;>simp[A2E]
theorem D0P{l:List Int}(hl:D0 l=true){n:Nat}(hn:l.length<n){body:S6→(Ex→S6→Option E6)→Option E6}{k:Ex→S6→Option E6}{st:List Int→Int→S6}
  (kx:∀(out:List Int)(i:Nat),l.length≤i→D0 out=true→∀ K:Ex→S6→Option E6,(∀ j s,K (.exit j) s=k (.exit j) s)→body (st out i) K=some (.tup [.str (I4 out).1,.int .i64 0]))
  (bJ:∀(out:List Int)(i:Nat),i<l.length→A3 (out.length+1) 4=true→∀ K:Ex→S6→Option E6,(∀ s,K .ret s=k .ret s)→
   body (st out i) K=if(I3 (l.drop i)).2=0 then some (.tup [.str [],.int .i64 60])else K .normal (st (out++[(I3 (l.drop i)).1]) ((i+(I3 (l.drop i)).2.toNat:Nat):Int))):
  C9 body n (st [] 0) k=some (.tup [.str (X1 l).1,.int .i64 (X1 l).2]):=by
 have au:=T2.1 hl;refine(H2 (fun p:List Int×Nat=>st p.1 p.2) (fun p=>p.1.length≤p.2∧p.1.length≤l.length) (fun p=>l.length - p.2) (fun p=>A2E p.1 (A1v (l.drop p.2))) ?_ n ([],0) (by simp) (by simp only;omega)).trans (by simp[A2E,X1]);rintro⟨out,i⟩ ⟨h1,h2⟩ K aV bA aN;dsimp only at h1 h2 aN ⊢;by_cases h:i<l.length
 ·rw[bJ out i h (G5.2 (by omega)) K bA];have az:l.drop i≠[]:=by rw[R8 h];exact List.cons_ne_nil _ _
  have hr:=A9x (l.drop i);rw[B4G az];by_cases hp:(I3 (l.drop i)).2=0
  ·rw[if_pos hp,if_pos hp,C6x]
  ·rw[if_neg hp,if_neg hp,C0g,Df];exact aN (out++[(I3 (l.drop i)).1],i+(I3 (l.drop i)).2.toNat) ⟨by simp;omega,by simp;omega⟩ (by simp only;omega)
 ·rw[kx out i (by omega) (T2.2 (by omega)) K aV,Bn (by omega),B0d,C0R]
theorem D0y(l:List Int)(hl:D0 l=true)(n:Nat)(hn:l.length<n):A2 E21 n Dq [.sl .i32 l none]=some (.tup [.str (X1 l).1,.int .i64 (X1 l).2]):=by
 have au:=T2.1 hl;rw[C0C];refine D0P hl hn (st:=fun out i=>A7C l out i) (fun out i hi eP K aV=>?_) (fun out i hi rQ K bA=>?_)
 ·rw[B4D,decide_eq_false (by omega:¬(i:Int)<(l.length:Int)),cond_false,aV,C9e,eP];rfl
 ·have hr:=A9x (l.drop i);rw[B4D,decide_eq_true (by omega:(i:Int)<(l.length:Int)),hl,decide_eq_true (by omega:(0:Int)≤(i:Int)),Cv,rQ];by_cases hp:(I3 (l.drop i)).2=0
  ·rw[if_pos hp,beqT hp];exact(bA _).trans rfl
  ·rw[if_neg hp,beqF hp,P6 (by omega) (by omega)];have e:(i:Int)+(I3 (l.drop i)).2=((i+(I3 (l.drop i)).2.toNat:Nat):Int):=by omega
   rw[e];rfl
def E51:Env Ty6 A4:=mk6 noT noC (lkE [(0,[2]),(1,[0,3,4,5,6,7,8,9,10,11,12,13,14,15,16,17,18,19,20,21,22,23])]) 24
theorem C5q(n:Nat)(a0:List Int):A2 E51 n Tryz.f195 [.sl .i32 a0 none]=
  bif(decide ((Ai a0:Int)≥3))==true then(match idx a0 0 with|none=>none|some y1=>(bif(y1==34)==true then(match idx a0 1 with|none=>none|some y2=>(bif(y2==34)==true then(match idx a0 2 with|none=>none|some y3=>(some (.one (.bool (y3==34)))))else(some (.one (.bool false)))))else(some (.one (.bool false)))))else(some (.one (.bool false))):=by
 kernel_rfl
def E52:Env Ty6 A4:=mk6 noT noC (lkE [(0,[4]),(1,[5,6,7]),(2,[10]),(3,[0,1,8,9]),(4,[8,9,12]),(5,[0,1,11,13,14,15,16,17,18,19,20,21,22,23,24,25]),(6,[0,1,11])]) 26
theorem C9G(n:Nat)(a0:List Int)(a1:Int):A2 E52 n Fg [.sl .i32 a0 none,.int .i64 a1]=
  match idx a0 a1 with|none=>none|some y1=>(bif y1==10 then(some (.one (.bool true)))else(bif y1==13 then(bif((Ba .i64 (a1+1))==(Ai a0:Int))==false then(match idx a0 (Ba .i64 (a1+1))with|none=>none|some y2=>(some (.one (.bool (y2 !=10)))))else(some (.one (.bool true))))else(some (.one (.bool false))))):=by
 kernel_rfl
def E54:Env Ty6 A4:=mk6 noT noC (lkE [(0,[4]),(1,[0,1,5,6,7,8,9,10,11,12,13,14,15,16,17,18,19,20,21,22,23,24,25,26,27,28,29,30,31,32,33,34,35,36,37,38,39,40])]) 41
theorem B3w(n:Nat)(a0:List Int)(a1:Int):A2 E54 n Fe [.sl .i32 a0 none,.int .i64 a1]=
  bif(decide ((Ba .i64 (a1+3))<(Ai a0:Int)))==true then(match idx a0 a1 with|none=>none|some y1=>(bif(y1==92)==true then(match idx a0 (Ba .i64 (a1+1))with|none=>none|some y2=>(bif(y2==34)==true then(match idx a0 (Ba .i64 (a1+2))with|none=>none|some y3=>(bif(y3==34)==true then(match idx a0 (Ba .i64 (a1+3))with|none=>none|some y4=>(some (.one (.bool (y4==34)))))else(some (.one (.bool false)))))else(some (.one (.bool false)))))else(some (.one (.bool false)))))else(some (.one (.bool false))):=by
 kernel_rfl
def T37:T6:=fun f ls=>match f with
 |218=>S52 ls
 |_=>none
def E37:Env Ty6 A4:=mk6 T37 noC (lkE [(0,[2]),(5,[10,11,12,13]),(6,[6,14,15,16,17,26]),(7,[5,19,20,21]),(8,[4,6,18,22,23,24,25]),(10,[18,27,28]),(11,[6,26,29]),(12,[0,3,4,7,8,9,10,30,31,32,33])]) 34
def A4R(x0:List Int)(x3:List (List Int))(x4:List Int)(x7:List Int)(x8:Int)(x9:Int):S6:=⟨[(0,.one (.sl .i32 x0 none)),(3,.one (.sl .rs x3 (some 103))),(4,.one (.sl .i32 x4 (some 104))),(7,.one (.sl .i32 x7 none)),(8,.one (.int .i64 x8)),(9,.one (.int .i64 x9))],[103,104]⟩
theorem C3x(n:Nat)(a0:List Int):A2 E37 n Dy [.sl .i32 a0 none]=
  C9 (lbC E37 (A0 Dy [1,1,1,0,1,0,0]) 10004 n) n (A4R a0 [] [] a0 (Ai a0:Int) 0) (A8 0 (B9 (B1 E37 n (A0 Dy [1,1,1,1])) (B2 E37 Tryz.f192.results.toList))):=by
 kernel_rfl
theorem C1M(n:Nat)(x0:List Int)(x3:List (List Int))(x4:List Int)(x7:List Int)(x8:Int)(x9:Int)(K:Ex→S6→Option E6):lbC E37 (A0 Dy [1,1,1,0,1,0,0]) 10004 n (A4R x0 x3 x4 x7 x8 x9) K=
  bif decide (x9<x8)then(match idx x7 x9 with|none=>none|some y1=>(bif D0 x0&&decide (0≤x9)&&decide (x9<(Ai x0:Int))then(bif N7 (Bj (Bg x9) x0)then(bif A3 (Ai x3+1) 24 then(K .normal (A4R x0 (x3++[x4]) [] x7 x8 (Ba .i64 (x9+1))))else none)else(bif y1==13 then(K .normal (A4R x0 x3 x4 x7 x8 (Ba .i64 (x9+1))))else(bif A3 (Ai x4+1) 4 then(K .normal (A4R x0 x3 (x4++[y1]) x7 x8 (Ba .i64 (x9+1))))else none)))else none))else(K (.exit 0) ⟨[(0,.one (.sl .i32 x0 none)),(3,.one (.sl .rs x3 (some 103))),(4,.one (.sl .i32 x4 (some 104))),(7,.one (.sl .i32 x7 none)),(8,.one (.int .i64 x8)),(9,.one (.int .i64 x9)),(10,.one (.bool (decide (x9<x8))))],[103,104]⟩):=by
 kernel_rfl
theorem C2G(n:Nat)(x0:List Int)(x3:List (List Int))(x4:List Int)(x7:List Int)(x8:Int)(x9:Int)(bC:Bool):(A8 0 (B9 (B1 E37 n (A0 Dy [1,1,1,1])) (B2 E37 Tryz.f192.results.toList))) (.exit 0) ⟨[(0,.one (.sl .i32 x0 none)),(3,.one (.sl .rs x3 (some 103))),(4,.one (.sl .i32 x4 (some 104))),(7,.one (.sl .i32 x7 none)),(8,.one (.int .i64 x8)),(9,.one (.int .i64 x9)),(10,.one (.bool bC))],[103,104]⟩=
  bif A3 (Ai x3+1) 24 then(some (.one (.sl .rs (x3++[x4]) (some 1))))else none:=by
 kernel_rfl
def T38:T6:=fun f ls=>match f with
 |121=>S53 ls
 |239=>S54 ls
 |_=>none
def E38:Env Ty6 A4:=mk6 T38 noC (lkE [(0,[2]),(4,[8,9,10]),(5,[4,11,12,13,14,15,16]),(6,[6,17]),(7,[0,3,5,18]),(8,[18,19,20,21]),(9,[7]),(10,[22]),(12,[23,24]),(13,[22,25,26,27,28]),(14,[29]),(15,[30,31,32]),(16,[30]),(17,[33]),(18,[0,3,4,5,34]),(19,[34,35,36]),(20,[0,3,4,5,11,37,38,39,40,41,42])]) 43
def A4E(x0:List Int)(x3:Int)(x4:Int)(x5:Int):S6:=⟨[(0,.one (.sl .i32 x0 none)),(3,.one (.int .i64 x3)),(4,.one (.int .i32 x4)),(5,.one (.int .i64 x5))],[]⟩
theorem C7R(n:Nat)(a0:List Int):A2 E38 n Dn [.sl .i32 a0 none]=
  C9 (lbC E38 (A0 Dn [1,1,1,1,0,0,0]) 10004 n) n (A4E a0 0 0 0) (A8 0 (B9 (B1 E38 n (A0 Dn [1,1,1,1,1])) (B2 E38 Tryz.f232.results.toList))):=by
 kernel_rfl
theorem C0N(n:Nat)(x0:List Int)(x3:Int)(x4:Int)(x5:Int)(K:Ex→S6→Option E6):lbC E38 (A0 Dn [1,1,1,1,0,0,0]) 10004 n (A4E x0 x3 x4 x5) K=
  bif decide (x5<(Ai x0:Int))then(match idx x0 x5 with|none=>none|some y1=>(bif !(M8 y1)then(K .ret ⟨[(2,.one (.bool false))],[]⟩)else(bif D0 x0&&decide (0≤x5)&&decide (x5<(Ai x0:Int))then(bif M3 (Bj (Bg x5) x0)then(K .normal (A4E x0 0 0 (Ba .i64 (x5+4))))else(match idx x0 x5 with|none=>none|some y2=>(bif y2==34 then(bif(Ba .i64 (x3+1))==3 then(K .ret ⟨[(2,.one (.bool false))],[]⟩)else(K .normal (A4E x0 (Ba .i64 (x3+1)) y2 (Ba .i64 (x5+1)))))else(K .normal (A4E x0 0 y2 (Ba .i64 (x5+1)))))))else none)))else(K (.exit 0) ⟨[(0,.one (.sl .i32 x0 none)),(3,.one (.int .i64 x3)),(4,.one (.int .i32 x4)),(5,.one (.int .i64 x5)),(11,.one (.bool (decide (x5<(Ai x0:Int)))))],[]⟩):=by
 kernel_rfl
theorem C8A(n:Nat)(x0:List Int)(x3:Int)(x4:Int)(x5:Int)(dB:Bool):(A8 0 (B9 (B1 E38 n (A0 Dn [1,1,1,1,1])) (B2 E38 Tryz.f232.results.toList))) (.exit 0) ⟨[(0,.one (.sl .i32 x0 none)),(3,.one (.int .i64 x3)),(4,.one (.int .i32 x4)),(5,.one (.int .i64 x5)),(11,.one (.bool dB))],[]⟩=
  bif(x4 !=34)==true then(some (.one (.bool (x4 !=92))))else(some (.one (.bool false))):=by
 kernel_rfl
def T39:T6:=fun f ls=>match f with
 |122=>S55 ls
 |_=>none
def E39:Env Ty6 A4:=mk6 T39 noC (lkE [(0,[2]),(2,[8,9]),(4,[10,11,12]),(5,[14,15]),(6,[13,16,17]),(7,[18,19,20,21]),(8,[22,23,24,25,26,27,28]),(9,[29,30,31,32,33,34,35,36,37,38,39,40,41,42,43,44,45,46,47,48]),(10,[49,50,51]),(11,[22,49,52,53,54,55,56,57,58]),(12,[6,59,60,61,62,63,64,65,66,67]),(13,[7,68,69,70,71]),(14,[0,3,4,5,13,72])]) 73
def A0F(x0:List Int)(x3:List (List Int))(x4:List Int)(x5:Int):S6:=⟨[(0,.one (.sl .i32 x0 none)),(3,.one (.sl .rs x3 (some 103))),(4,.one (.sl .i64 x4 (some 1009))),(5,.one (.int .i64 x5))],[103,1009]⟩
theorem C6d(n:Nat)(a0:List Int):A2 E39 n Dv [.sl .i32 a0 none]=
  bif smL a0 then(C9 (lbC E39 (A0 Dv [1,1,1,0,1,0,0]) 10004 n) n (A0F a0 [] (R4 a0) 0) (A8 0 (B9 (B1 E39 n (A0 Dv [1,1,1,1])) (B2 E39 Tryz.f198.results.toList))))else none:=by
 kernel_rfl
theorem C1z(n:Nat)(x0:List Int)(x3:List (List Int))(x4:List Int)(x5:Int)(K:Ex→S6→Option E6):lbC E39 (A0 Dv [1,1,1,0,1,0,0]) 10004 n (A0F x0 x3 x4 x5) K=
  bif decide (x5<(Ai x4:Int))then(bif decide ((Ba .i64 (x5+1))<(Ai x4:Int))then(match idx x4 (Ba .i64 (x5+1))with|none=>none|some y1=>(match idx x0 (Ba .i64 (y1 - 1))with|none=>none|some y2=>(bif(y2==10)==true then(match idx x4 x5 with|none=>none|some y3=>(bif(decide ((Ba .i64 (y1 - 1))>y3))==true then(match idx x0 (Ba .i64 ((Ba .i64 (y1 - 1)) - 1))with|none=>none|some y4=>(bif y4==13 then(match idx x4 x5 with|none=>none|some y5=>(bif decide (0≤(Ba .i64 ((Ba .i64 ((Ba .i64 (y1 - 1)) - 1)) - y5)))&&A3 (Bg (Ba .i64 ((Ba .i64 ((Ba .i64 (y1 - 1)) - 1)) - y5))) 4 then(match idx x4 x5 with|none=>none|some y6=>(match sub x0 y6 (Ba .i64 ((Ba .i64 (y1 - 1)) - 1))with|none=>none|some y7=>(bif A3 (0+Ai y7) 4 then(bif A3 (Ai x3+1) 24 then(K .normal (A0F x0 (x3++[y7]) x4 (Ba .i64 (x5+1))))else none)else none)))else none))else(match idx x4 x5 with|none=>none|some y8=>(bif decide (0≤(Ba .i64 ((Ba .i64 (y1 - 1)) - y8)))&&A3 (Bg (Ba .i64 ((Ba .i64 (y1 - 1)) - y8))) 4 then(match idx x4 x5 with|none=>none|some y9=>(match sub x0 y9 (Ba .i64 (y1 - 1))with|none=>none|some iq=>(bif A3 (0+Ai iq) 4 then(bif A3 (Ai x3+1) 24 then(K .normal (A0F x0 (x3++[iq]) x4 (Ba .i64 (x5+1))))else none)else none)))else none))))else(match idx x4 x5 with|none=>none|some lv=>(bif decide (0≤(Ba .i64 ((Ba .i64 (y1 - 1)) - lv)))&&A3 (Bg (Ba .i64 ((Ba .i64 (y1 - 1)) - lv))) 4 then(match idx x4 x5 with|none=>none|some pf=>(match sub x0 pf (Ba .i64 (y1 - 1))with|none=>none|some rW=>(bif A3 (0+Ai rW) 4 then(bif A3 (Ai x3+1) 24 then(K .normal (A0F x0 (x3++[rW]) x4 (Ba .i64 (x5+1))))else none)else none)))else none))))else(match idx x4 x5 with|none=>none|some rX=>(bif decide (0≤(Ba .i64 ((Ba .i64 (y1 - 1)) - rX)))&&A3 (Bg (Ba .i64 ((Ba .i64 (y1 - 1)) - rX))) 4 then(match idx x4 x5 with|none=>none|some qO=>(match sub x0 qO (Ba .i64 (y1 - 1))with|none=>none|some wl=>(bif A3 (0+Ai wl) 4 then(bif A3 (Ai x3+1) 24 then(K .normal (A0F x0 (x3++[wl]) x4 (Ba .i64 (x5+1))))else none)else none)))else none)))))else(match idx x4 x5 with|none=>none|some rY=>(bif decide (0≤(Ba .i64 ((Ai x0:Int) - rY)))&&A3 (Bg (Ba .i64 ((Ai x0:Int) - rY))) 4 then(match idx x4 x5 with|none=>none|some nZ=>(match sub x0 nZ (Ai x0:Int)with|none=>none|some wo=>(bif A3 (0+Ai wo) 4 then(bif A3 (Ai x3+1) 24 then(K .normal (A0F x0 (x3++[wo]) x4 (Ba .i64 (x5+1))))else none)else none)))else none)))else(K (.exit 0) ⟨[(0,.one (.sl .i32 x0 none)),(3,.one (.sl .rs x3 (some 103))),(4,.one (.sl .i64 x4 (some 1009))),(5,.one (.int .i64 x5)),(13,.one (.bool (decide (x5<(Ai x4:Int)))))],[103,1009]⟩):=by
 kernel_rfl
theorem C1h(n:Nat)(x0:List Int)(x3:List (List Int))(x4:List Int)(x5:Int)(kt:Bool):(A8 0 (B9 (B1 E39 n (A0 Dv [1,1,1,1])) (B2 E39 Tryz.f198.results.toList))) (.exit 0) ⟨[(0,.one (.sl .i32 x0 none)),(3,.one (.sl .rs x3 (some 103))),(4,.one (.sl .i64 x4 (some 1009))),(5,.one (.int .i64 x5)),(13,.one (.bool kt))],[103,1009]⟩=
  some (.one (.sl .rs x3 (some 1))):=by
 kernel_rfl
def T40:T6:=fun f ls=>match f with
 |239=>S54 ls
 |_=>none
def E40:Env Ty6 A4:=mk6 T40 noC (lkE [(0,[2]),(3,[6,7,8]),(4,[9,10,11,12]),(5,[5]),(6,[13,14,15]),(7,[16,17,18]),(8,[19,20]),(9,[13,21,22,23,24,25,26,27]),(10,[28,29]),(11,[0,3,4,9,30])]) 31
def A4f(x0:List Int)(x3:List Int)(x4:Int):S6:=⟨[(0,.one (.sl .i32 x0 none)),(3,.one (.sl .i32 x3 (some 103))),(4,.one (.int .i64 x4))],[103]⟩
theorem C9H(n:Nat)(a0:List Int):A2 E40 n Dm [.sl .i32 a0 none]=
  C9 (lbC E40 (A0 Dm [1,1,1,0,0,0]) 10003 n) n (A4f a0 [] 0) (A8 0 (B9 (B1 E40 n (A0 Dm [1,1,1,1])) (B2 E40 Tryz.f233.results.toList))):=by
 kernel_rfl
theorem C85(n:Nat)(x0:List Int)(x3:List Int)(x4:Int)(K:Ex→S6→Option E6):lbC E40 (A0 Dm [1,1,1,0,0,0]) 10003 n (A4f x0 x3 x4) K=
  bif decide (x4<(Ai x0:Int))then(bif D0 x0&&decide (0≤x4)&&decide (x4<(Ai x0:Int))then(bif M3 (Bj (Bg x4) x0)then(bif A3 (Ai x3+3) 4 then(K .normal (A4f x0 (x3++[34,34,34]) (Ba .i64 ((Ba .i64 (x4+1))+3))))else none)else(match idx x0 x4 with|none=>none|some y1=>(bif A3 (Ai x3+1) 4 then(K .normal (A4f x0 (x3++[y1]) (Ba .i64 (x4+1))))else none)))else none)else(K (.exit 0) ⟨[(0,.one (.sl .i32 x0 none)),(3,.one (.sl .i32 x3 (some 103))),(4,.one (.int .i64 x4)),(9,.one (.bool (decide (x4<(Ai x0:Int)))))],[103]⟩):=by
 kernel_rfl
theorem C1T(n:Nat)(x0:List Int)(x3:List Int)(x4:Int)(x9:Bool):(A8 0 (B9 (B1 E40 n (A0 Dm [1,1,1,1])) (B2 E40 Tryz.f233.results.toList))) (.exit 0) ⟨[(0,.one (.sl .i32 x0 none)),(3,.one (.sl .i32 x3 (some 103))),(4,.one (.int .i64 x4)),(9,.one (.bool x9))],[103]⟩=
  some (.one (.sl .i32 x3 (some 1))):=by
 kernel_rfl
def E55:Env Ty6 A4:=mk6 noT noC (lkE [(0,[2]),(1,[5]),(3,[6,7,8]),(4,[10,11,23,43]),(5,[9,12,13,14,15,16,17,18,19,20,21,22]),(6,[23,24,25,26,27,28,29,30,31,32,33,34,35,36,37,38,39,40,41,42]),(7,[43,44,45,46,47,48]),(8,[0,3,4,9,49])]) 50
def Y2(x0:List Int)(x3:List Int)(x4:Int):S6:=⟨[(0,.one (.sl .i32 x0 none)),(3,.one (.sl .i64 x3 (some 105))),(4,.one (.int .i64 x4))],[105]⟩
theorem B3V(n:Nat)(a0:List Int):A2 E55 n Ch [.sl .i32 a0 none]=
  C9 (lbC E55 (A0 Ch [1,1,0,1,0,0]) 10003 n) n (Y2 a0 [0] 0) (A8 0 (B9 (B1 E55 n (A0 Ch [1,1,1])) (B2 E55 Tryz.f122.results.toList))):=by
 kernel_rfl
theorem C27(n:Nat)(x0:List Int)(x3:List Int)(x4:Int)(K:Ex→S6→Option E6):lbC E55 (A0 Ch [1,1,0,1,0,0]) 10003 n (Y2 x0 x3 x4) K=
  bif decide (x4<(Ai x0:Int))then(match idx x0 x4 with|none=>none|some y1=>(bif(y1 !=13)==true then(match idx x0 x4 with|none=>none|some y2=>(bif y2 !=10 then(K .normal (Y2 x0 x3 (Ba .i64 (x4+1))))else(match idx x0 x4 with|none=>none|some y3=>(bif(y3==13)==true then(bif(decide ((Ba .i64 (x4+1))<(Ai x0:Int)))==true then(match idx x0 (Ba .i64 (x4+1))with|none=>none|some y4=>(bif y4==10 then(K .normal (Y2 x0 x3 (Ba .i64 (x4+1))))else(bif A3 (Ai x3+1) 8 then(K .normal (Y2 x0 (x3++[Ba .i64 (x4+1)]) (Ba .i64 (x4+1))))else none)))else(bif A3 (Ai x3+1) 8 then(K .normal (Y2 x0 (x3++[Ba .i64 (x4+1)]) (Ba .i64 (x4+1))))else none))else(bif A3 (Ai x3+1) 8 then(K .normal (Y2 x0 (x3++[Ba .i64 (x4+1)]) (Ba .i64 (x4+1))))else none)))))else(match idx x0 x4 with|none=>none|some y5=>(bif(y5==13)==true then(bif(decide ((Ba .i64 (x4+1))<(Ai x0:Int)))==true then(match idx x0 (Ba .i64 (x4+1))with|none=>none|some y6=>(bif y6==10 then(K .normal (Y2 x0 x3 (Ba .i64 (x4+1))))else(bif A3 (Ai x3+1) 8 then(K .normal (Y2 x0 (x3++[Ba .i64 (x4+1)]) (Ba .i64 (x4+1))))else none)))else(bif A3 (Ai x3+1) 8 then(K .normal (Y2 x0 (x3++[Ba .i64 (x4+1)]) (Ba .i64 (x4+1))))else none))else(bif A3 (Ai x3+1) 8 then(K .normal (Y2 x0 (x3++[Ba .i64 (x4+1)]) (Ba .i64 (x4+1))))else none)))))else(K (.exit 0) ⟨[(0,.one (.sl .i32 x0 none)),(3,.one (.sl .i64 x3 (some 105))),(4,.one (.int .i64 x4)),(9,.one (.bool (decide (x4<(Ai x0:Int)))))],[105]⟩):=by
 kernel_rfl
theorem C4b(n:Nat)(x0:List Int)(x3:List Int)(x4:Int)(x9:Bool):(A8 0 (B9 (B1 E55 n (A0 Ch [1,1,1])) (B2 E55 Tryz.f122.results.toList))) (.exit 0) ⟨[(0,.one (.sl .i32 x0 none)),(3,.one (.sl .i64 x3 (some 105))),(4,.one (.int .i64 x4)),(9,.one (.bool x9))],[105]⟩=
  some (.one (.sl .i64 x3 (some 1))):=by
 kernel_rfl
def T23:T6:=fun f ls=>match f with
 |125=>S35 ls
 |198=>S39 ls
 |232=>S38 ls
 |233=>S40 ls
 |234=>S16 ls
 |_=>none
def E23:Env Ty6 A4:=mk6 T23 noC (lkE [(0,[2,3]),(1,[14,15]),(2,[4,16]),(3,[0,17]),(4,[0,17,18,19]),(7,[20,21,22]),(8,[24,25]),(9,[23,26,27,28,29,30]),(10,[8,31,32,33,34]),(11,[5,6,7,23,35,36]),(14,[37,38,39]),(15,[41,42]),(16,[40,43]),(17,[44,45,46,47]),(18,[44,48,49,50,51,52,53]),(19,[9,10,11,13,40,54,55,56,57,58]),(20,[12,59])]) 60
def A81(x5:List (List Int))(x6:List (List Int))(x7:Int):S6:=⟨[(5,.one (.sl .rs x5 (some 1019))),(6,.one (.sl .rs x6 (some 106))),(7,.one (.int .i64 x7))],[106,1019]⟩
def A5E(x9:List (List Int))(bC:List Int)(dB:Int):S6:=⟨[(9,.one (.sl .rs x9 none)),(10,.one (.sl .i32 bC (some 110))),(11,.one (.int .i64 dB))],[110]⟩
theorem C5v(n:Nat)(a0:List Int):A2 E23 n Cm [.sl .i32 a0 none]=
  bif smL a0 then(bif !(A6l 0 a0)then(some (.tup [.str [],.int .i64 60]))else(bif smL a0 then(C9 (lbC E23 (A0 Cm [1,1,1,1,1,0,1,0,0]) 10007 n) n (A81 (B4 a0) [] 0) (A8 0 (B9 (B1 E23 n (A0 Cm [1,1,1,1,1,1])) (B2 E23 Tryz.f212.results.toList))))else none))else none:=by
 kernel_rfl
theorem C64(n:Nat)(x5:List (List Int))(x6:List (List Int))(x7:Int)(K:Ex→S6→Option E6):lbC E23 (A0 Cm [1,1,1,1,1,0,1,0,0]) 10007 n (A81 x5 x6 x7) K=
  bif decide (x7<(Ai x5:Int))then(match idx x5 x7 with|none=>none|some y1=>(bif smL y1 then(bif A3 (Ai x6+1) 24 then(K .normal (A81 x5 (x6++[E3 y1]) (Ba .i64 (x7+1))))else none)else none))else(K (.exit 0) ⟨[(5,.one (.sl .rs x5 (some 1019))),(6,.one (.sl .rs x6 (some 106))),(7,.one (.int .i64 x7)),(23,.one (.bool (decide (x7<(Ai x5:Int)))))],[106,1019]⟩):=by
 kernel_rfl
theorem C4R(n:Nat)(x5:List (List Int))(x6:List (List Int))(x7:Int)(eL:Bool):(A8 0 (B9 (B1 E23 n (A0 Cm [1,1,1,1,1,1])) (B2 E23 Tryz.f212.results.toList))) (.exit 0) ⟨[(5,.one (.sl .rs x5 (some 1019))),(6,.one (.sl .rs x6 (some 106))),(7,.one (.int .i64 x7)),(23,.one (.bool eL))],[106,1019]⟩=
  bif M4 x6 then(C9 (lbC E23 (A0 Cm [1,1,1,1,1,1,1,1,0,1,0,0]) 10014 n) n (A5E (I5 x6) [] 0) (A8 2 (B9 (B1 E23 n (A0 Cm [1,1,1,1,1,1,1,1,1])) (B2 E23 Tryz.f212.results.toList))))else none:=by
 kernel_rfl
theorem B5B(n:Nat)(x9:List (List Int))(bC:List Int)(dB:Int)(K:Ex→S6→Option E6):lbC E23 (A0 Cm [1,1,1,1,1,1,1,1,0,1,0,0]) 10014 n (A5E x9 bC dB) K=
  bif decide (dB<(Ai x9:Int))then(bif decide (dB>0)then(bif A3 (Ai bC+1) 4 then(match idx x9 dB with|none=>none|some y2=>(bif A3 (Ai (bC++[10])+Ai y2) 4 then(K .normal (A5E x9 ((bC++[10])++y2) (Ba .i64 (dB+1))))else none))else none)else(match idx x9 dB with|none=>none|some y3=>(bif A3 (Ai bC+Ai y3) 4 then(K .normal (A5E x9 (bC++y3) (Ba .i64 (dB+1))))else none)))else(K (.exit 2) ⟨[(9,.one (.sl .rs x9 none)),(10,.one (.sl .i32 bC (some 110))),(11,.one (.int .i64 dB)),(40,.one (.bool (decide (dB<(Ai x9:Int)))))],[110]⟩):=by
 kernel_rfl
theorem C95(n:Nat)(x9:List (List Int))(bC:List Int)(dB:Int)(qP:Bool):(A8 2 (B9 (B1 E23 n (A0 Cm [1,1,1,1,1,1,1,1,1])) (B2 E23 Tryz.f212.results.toList))) (.exit 2) ⟨[(9,.one (.sl .rs x9 none)),(10,.one (.sl .i32 bC (some 110))),(11,.one (.int .i64 dB)),(40,.one (.bool qP))],[110]⟩=
  bif D0 bC then(some (.tup [.str ((I4 bC).1),.int .i64 0]))else none:=by
 kernel_rfl
theorem A26{l:List Int}:M3 l=true↔∃ r,l=92::34::34::34::r:=by
 constructor
 ·intro h;unfold M3 at h;split at h
  ·exact⟨_,rfl⟩
  ·cases h
 ·rintro⟨r,rfl⟩;rfl
theorem B0m{c:Int}{r:List Int}(h:M3 (c::r)=false):E3 (c::r)=c::E3 r:=by
 conv=>lhs;unfold E3
 split
 ·rename_i bW;rw[bW]at h;cases h
 ·rename_i bW;cases bW;rfl
 ·rename_i bW;cases bW
theorem A9M{c:Int}{r:List Int}(h:M3 (c::r)=false):Q6 (c::r)=if !M8 c||I6 (c::r)then false else Q6 r:=by
 conv=>lhs;unfold Q6
 split
 ·rename_i bW;rw[bW]at h;cases h
 ·rename_i bW;cases bW;rfl
 ·rename_i bW;cases bW
theorem C2l{c x:Int}{r:List Int}(h:M3 (c::r)=false):Y5 x (c::r)=Y5 c r:=by
 conv=>lhs;unfold Y5
 split
 ·rename_i bW;rw[bW]at h;cases h
 ·rename_i bW;cases bW;rfl
 ·rename_i bW;cases bW
theorem B7M(r:List Int):E3 (92::34::34::34::r)=34::34::34::E3 r:=rfl
theorem C2A(r:List Int):Q6 (92::34::34::34::r)=Q6 r:=rfl
theorem C2h(x:Int)(r:List Int):Y5 x (92::34::34::34::r)=Y5 0 r:=rfl
theorem A06{l:List Int}:I6 l=true↔∃ r,l=34::34::34::r:=by
 constructor
 ·intro h;unfold I6 at h;split at h
  ·exact⟨_,rfl⟩
  ·cases h
 ·rintro⟨r,rfl⟩;rfl
theorem B3r{l:List Int}(h:3≤l.length):I6 l=(l[0]==34&&(l[1]==34&&l[2]==34)):=by
 match l,h with
 |a::b::c::r,_=>
  show I6 (a::b::c::r)=(a==34&&(b==34&&c==34));cases h:(a==34&&(b==34&&c==34))with
  |true=>
   simp only[Bw,beq_iff_eq]at h;obtain⟨rfl,rfl,rfl⟩:=h;rfl
  |false=>
   cases hq:I6 (a::b::c::r)with
   |false=>rfl
   |true=>
    obtain⟨r',hr⟩:=A06.1 hq;simp only[Bq]at hr;obtain⟨rfl,rfl,rfl,_⟩:=hr;simp at h
theorem B8S{l:List Int}(h:l.length<3):I6 l=false:=by
 cases hq:I6 l with
 |false=>rfl
 |true=>obtain⟨r,rfl⟩:=A06.1 hq;simp at h;omega
theorem A8l(c:Int)(r:List Int):M3 (c::r)=(c==92&&I6 r):=by
 cases h:(c==92&&I6 r)with
 |true=>
  simp only[Bw,beq_iff_eq]at h;obtain⟨rfl,h2⟩:=h;obtain⟨r',rfl⟩:=A06.1 h2;rfl
 |false=>
  cases hq:M3 (c::r)with
  |false=>rfl
  |true=>
   obtain⟨r',hr⟩:=A26.1 hq;simp only[Bq]at hr;obtain⟨rfl,rfl⟩:=hr;simp[I6]at h
theorem C5e(l:List Int)(hl:D0 l=true)(n:Nat):A2 E51 n Tryz.f195 [.sl .i32 l none]=some (.one (.bool (I6 l))):=by
 have au:=A3u hl;rw[C5q];by_cases h:l.length<3
 ·rw[decide_eq_false (by omega:¬(l.length:Int)≥3),B8S h];rfl
 ·rw[decide_eq_true (by omega:(l.length:Int)≥3),B3r (by omega),show(0:Int)=((0:Nat):Int)from rfl,show(1:Int)=((1:Nat):Int)from rfl,show(2:Int)=((2:Nat):Int)from rfl,D4 (by omega),D4 (by omega),D4 (by omega)];dsimp only;cases l[0]==34<;>cases l[1]==34<;>rfl
theorem B5J{l:List Int}{i:Nat}(h:i<l.length):N7 (l.drop i)=if l[i]=10 then true else if l[i]=13 then !(l[i+1]? ==some 10)else false:=by
 rw[R8 h];by_cases h1:l[i]=10
 ·rw[h1];rfl
 ·rw[if_neg h1];by_cases h2:l[i]=13
  ·rw[h2,if_pos rfl];show(!((l.drop (i+1)).head? ==some 10))=_;rw[List.head?_drop]
  ·rw[if_neg h2];unfold N7;split
   ·rename_i bW;simp only[Bq]at bW;exact absurd bW.1 h1
   ·rename_i bW;simp only[Bq]at bW;exact absurd bW.1 h2
   ·rfl
theorem C1O(l:List Int)(hl:D0 l=true)(i:Nat)(hi:i<l.length)(n:Nat):A2 E52 n Fg [.sl .i32 l none,.int .i64 i]=some (.one (.bool (N7 (l.drop i)))):=by
 have au:=A3u hl;rw[C9G,D4 hi,B5J hi,I2 (by omega)];dsimp only;by_cases h1:l[i]=10
 ·rw[beqT h1,if_pos h1];rfl
 ·rw[beqF h1,if_neg h1];by_cases h2:l[i]=13
  ·rw[beqT h2,if_pos h2];by_cases h3:i+1=l.length
   ·rw[beqT (by omega:((i+1:Nat):Int)=(l.length:Int)),Gn (by omega)];rfl
   ·rw[beqF (by omega:((i+1:Nat):Int)≠(l.length:Int)),D4 (by omega),Ck (by omega)];show some (Ent.one (Leaf.bool (l[i+1] !=10)))=some (Ent.one (Leaf.bool (!(some l[i+1]==some 10))));rfl
  ·rw[beqF h2,if_neg h2];rfl
theorem C2f{l:List Int}{i:Nat}(h:i+3<l.length):M3 (l.drop i)=(l[i]==92&&(l[i+1]==34&&(l[i+2]==34&&l[i+3]==34))):=by
 rw[R8 (i:=i) (by omega),A8l,B3r (by rw[Bi];omega)];have e0:(l.drop (i+1))[0]'(by rw[Bi];omega)=l[i+1]:=by simp
 have e1:(l.drop (i+1))[1]'(by rw[Bi];omega)=l[i+2]:=by simp
 have e2:(l.drop (i+1))[2]'(by rw[Bi];omega)=l[i+3]:=by simp
 rw[e0,e1,e2]
theorem C8y{l:List Int}{i:Nat}(h:l.length≤i+3):M3 (l.drop i)=false:=by
 cases hq:M3 (l.drop i)with
 |false=>rfl
 |true=>
  obtain⟨r,hr⟩:=A26.1 hq;have:=congrArg Ai hr;simp at this;omega
theorem C4o(l:List Int)(hl:D0 l=true)(i:Nat)(hi:i<l.length)(n:Nat):A2 E54 n Fe [.sl .i32 l none,.int .i64 i]=some (.one (.bool (M3 (l.drop i)))):=by
 have au:=A3u hl;rw[B3w,show(3:Int)=((3:Nat):Int)from rfl,A0N (by omega),I2 (by omega),show(2:Int)=((2:Nat):Int)from rfl,A0N (by omega),D4 hi];by_cases h:i+3<l.length
 ·rw[decide_eq_true (by omega:((i+3:Nat):Int)<(l.length:Int)),C2f h,D4 (by omega),D4 (by omega),D4 (by omega)];dsimp only;cases l[i]==92<;>cases l[i+1]==34<;>cases l[i+2]==34<;>rfl
 ·rw[decide_eq_false (by omega:¬((i+3:Nat):Int)<(l.length:Int)),C8y (by omega)];rfl
theorem Z1{l:List Int}(h:smL l=true):l.length≤1073741824:=by simpa [smL]using h
theorem A5Y{l:List Int}:smL l=true↔l.length≤1073741824:=by simp[smL]
theorem A50{l:List Int}(h:smL l=true):D0 l=true:=T2.2 (by have:=Z1 h;omega)
theorem B1F(l:List Int):(E3 l).length≤l.length:=by
 fun_induction E3 l with
 |case1 r ih=>simp;omega
 |case2 c r h ih=>simp;omega
 |case3=>simp
theorem C5U(x:Int):A2z x=if x=34 then false else !(x==92):=by
 unfold A2z;by_cases h:x=34
 ·rw[beqT h,if_pos h];rfl
 ·rw[beqF h,if_neg h];simp
theorem C6w(l:List Int)(hl:smL l=true)(n:Nat)(hn:l.length<n):A2 E40 n Dm [.sl .i32 l none]=some (.one (.sl .i32 (E3 l) (some 1))):=by
 have au:=Z1 hl;have h4:=A50 hl;rw[C9H];refine(H2 (fun p:List Int×Nat=>A4f l p.1 p.2) (fun p=>p.1.length≤p.2∧p.2≤l.length+4) (fun p=>l.length - p.2) (fun p=>(some (.one (.sl .i32 (p.1++E3 (l.drop p.2)) (some 1))):Option E6)) ?_ n ([],0) (by simp) (by simp only;omega)).trans (by simp);rintro⟨out,i⟩ ⟨h1,h2⟩ K aV bA aN;dsimp only at h1 h2 aN ⊢;rw[C85];by_cases h:i<l.length
 ·rw[decide_eq_true (by omega:(i:Int)<(l.length:Int)),cond_true,h4,decide_eq_true (by omega:(0:Int)≤(i:Int)),Cv,G5.2 (by omega),D4 h,G5.2 (by omega),I2 (by omega)];have hd:=R8 h;cases he:M3 (l.drop i)with
  |true=>
   obtain⟨r,hr⟩:=A26.1 he;have pW:l.drop (i+4)=r:=by
    have:=congrArg (Bj 4) hr;simpa using this
   have hw:Ba .i64 (((i+1:Nat):Int)+3)=((i+4:Nat):Int):=by
    rw[P6 (by omega) (by omega)];omega
   rw[hw];have n7:=aN (out++[34,34,34],i+4) ⟨by simp;omega,by simp only;omega⟩ (by simp only;omega);refine Cr (b:=K .normal (A4f l (out++[34,34,34]) ((i+4:Nat):Int))) rfl (n7.trans ?_);dsimp only;rw[pW,hr,B7M];simp
  |false=>
   have n7:=aN (out++[l[i]],i+1) ⟨by simp;omega,by simp only;omega⟩ (by simp only;omega);refine Cr (b:=K .normal (A4f l (out++[l[i]]) ((i+1:Nat):Int))) rfl (n7.trans ?_);dsimp only;rw[hd]at he ⊢;rw[B0m he];simp
 ·rw[decide_eq_false (by omega:¬(i:Int)<(l.length:Int)),cond_false,aV,C1T,Bn (by omega),show E3 []=[]from rfl,Cd]
theorem A7e(r:List Int):Q6 (34::r)=if I6 (34::r)then false else Q6 r:=by
 rw[A9M (by rw[A8l];rfl),show M8 34=true from by decide];simp
theorem B8B{c:Int}{r:List Int}(h:c≠34):I6 (34::c::r)=false:=by
 cases hq:I6 (34::c::r)with
 |false=>rfl
 |true=>obtain⟨r',hr⟩:=A06.1 hq;simp only[Bq]at hr;exact absurd hr.2.1 h
theorem C8I{c:Int}{r:List Int}(h:c≠34):I6 (34::34::c::r)=false:=by
 cases hq:I6 (34::34::c::r)with
 |false=>rfl
 |true=>obtain⟨r',hr⟩:=A06.1 hq;simp only[Bq]at hr;exact absurd hr.2.2.1 h
def A20(q:Nat)(l:List Int):Bool:=Q6 (List.replicate q 34++l)
theorem B0v{q:Nat}(hq:q≤2){c:Int}{r:List Int}(h:c≠34):A20 q (c::r)=Q6 (c::r):=by
 have:q=0∨q=1∨q=2:=by omega
 rcases this with rfl|rfl|rfl
 ·rfl
 ·show Q6 (34::c::r)=_;rw[A7e,B8B h];rfl
 ·show Q6 (34::34::c::r)=_;rw[A7e,C8I h,if_neg (by simp),A7e,B8B h];rfl
theorem C3O(q:Nat)(r:List Int):A20 q (34::r)=A20 (q+1) r:=by
 unfold A20;rw[List.replicate_succ',Eh];rfl
theorem C9n(r:List Int):A20 3 r=false:=by
 show Q6 (34::34::34::r)=_;rw[A7e,show I6 (34::34::34::r)=true from rfl];rfl
theorem C9j{q:Nat}(hq:q≤2):A20 q []=true:=by
 have:q=0∨q=1∨q=2:=by omega
 rcases this with rfl|rfl|rfl<;>decide
theorem D0e(l:List Int)(hl:smL l=true)(n:Nat)(hn:l.length<n):A2 E38 n Dn [.sl .i32 l none]=some (.one (.bool (A6l 0 l))):=by
 have au:=Z1 hl;have h4:=A50 hl;rw[C7R];refine(H2 (fun p:Nat×Int×Nat=>A4E l p.1 p.2.1 p.2.2) (fun p=>p.1≤2∧p.2.2≤l.length+4) (fun p=>l.length - p.2.2) (fun p=>(some (.one (.bool (A20 p.1 (l.drop p.2.2)&&A2z (Y5 p.2.1 (l.drop p.2.2))))):Option E6)) ?_ n (0,0,0) (by simp) (by simp only;omega));rintro⟨q,last,i⟩ ⟨h1,h2⟩ K aV bA aN;dsimp only at h1 h2 aN ⊢;rw[C0N];by_cases h:i<l.length
 ·rw[decide_eq_true (by omega:(i:Int)<(l.length:Int)),cond_true,D4 h,h4,decide_eq_true (by omega:(0:Int)≤(i:Int)),Cv,I2 (by omega),I2 (by omega)];have hw:Ba .i64 ((i:Int)+4)=((i+4:Nat):Int):=by
   rw[P6 (by omega) (by omega)];omega
  rw[hw];dsimp only;have hd:=R8 h;cases hs:M8 l[i]with
  |false=>
   have hc:l[i]≠34:=fun e=>by rw[e]at hs;exact absurd hs (by decide)
   have he:M3 (l[i]::l.drop (i+1))=false:=by
    rw[A8l];by_cases e:l[i]=92
    ·rw[e]at hs;exact absurd hs (by decide)
    ·rw[beqF e];rfl
   rw[hd,B0v h1 hc,A9M he,hs];exact(bA _).trans rfl
  |true=>
   cases he:M3 (l.drop i)with
   |true=>
    obtain⟨r,hr⟩:=A26.1 he;have pW:l.drop (i+4)=r:=by
     have:=congrArg (Bj 4) hr;simpa using this
    refine(aN (0,0,i+4) ⟨by simp,by simp only;omega⟩ (by simp only;omega)).trans ?_;dsimp only;rw[pW,hr,B0v h1 (by decide),C2A,C2h];rfl
   |false=>
    rw[hd]at he ⊢;rw[C2l he];by_cases hc:l[i]=34
    ·rw[beqT hc,hc,C3O];by_cases hq:q=2
     ·subst hq;rw[C9n];exact(bA _).trans rfl
     ·rw[beqF (by omega:((q+1:Nat):Int)≠3)];exact aN (q+1,34,i+1) ⟨by simp only;omega,by simp only;omega⟩ (by simp only;omega)
    ·rw[beqF hc];refine(aN (0,l[i],i+1) ⟨by simp,by simp only;omega⟩ (by simp only;omega)).trans ?_;dsimp only;have hq:I6 (l[i]::l.drop (i+1))=false:=by
      cases hq:I6 (l[i]::l.drop (i+1))with
      |false=>rfl
      |true=>obtain⟨r',hr⟩:=A06.1 hq;simp only[Bq]at hr;exact absurd hr.1 hc
     rw[B0v h1 hc,A9M he,hs,hq];rfl
 ·rw[decide_eq_false (by omega:¬(i:Int)<(l.length:Int)),cond_false,aV,C8A,Bn (by omega),C9j h1,show Y5 last []=last from rfl,C5U];by_cases hq:last=34
  ·rw[Y8 hq,if_pos hq];rfl
  ·rw[V5 hq,if_neg hq];rfl
theorem W4(cur:List Int)(c:Int)(r:List Int):H3 cur (c::r)=if N7 (c::r)then cur::H3 [] r else if c=13 then H3 cur r else H3 (cur++[c]) r:=rfl
theorem C7V(l:List Int)(hl:smL l=true)(n:Nat)(hn:l.length<n):A2 E37 n Dy [.sl .i32 l none]=some (.one (.sl .rs (B4 l) (some 1))):=by
 have au:=Z1 hl;have h4:=A50 hl;rw[C3x];refine(H2 (fun p:List (List Int)×List Int×Nat=>A4R l p.1 p.2.1 l (l.length:Int) p.2.2) (fun p=>p.1.length≤p.2.2∧p.2.1.length≤p.2.2∧p.2.2≤l.length) (fun p=>l.length - p.2.2) (fun p=>(some (.one (.sl .rs (p.1++H3 p.2.1 (l.drop p.2.2)) (some 1))):Option E6)) ?_ n ([],[],0) (by simp) (by simp only;omega)).trans rfl;rintro⟨all,cur,i⟩ ⟨h1,h2,h3⟩ K aV bA aN;dsimp only at h1 h2 h3 aN ⊢;rw[C1M];by_cases h:i<l.length
 ·rw[decide_eq_true (by omega:(i:Int)<(l.length:Int)),cond_true,D4 h,h4,decide_eq_true (by omega:(0:Int)≤(i:Int)),Cv,I2 (by omega),G5.2 (by omega),G5.2 (by omega)];dsimp only;have hd:=R8 h;rw[hd,W4, ←hd];cases he:N7 (l.drop i)with
  |true=>
   rw[if_pos rfl];refine(aN (all++[cur],[],i+1) ⟨by simp;omega,by simp,by simp only;omega⟩ (by simp only;omega)).trans ?_;simp
  |false=>
   rw[if_neg (by simp)];by_cases hc:l[i]=13
   ·rw[beqT hc,if_pos hc];exact aN (all,cur,i+1) ⟨by simp only;omega,by simp only;omega,by simp only;omega⟩ (by simp only;omega)
   ·rw[beqF hc,if_neg hc];exact aN (all,cur++[l[i]],i+1) ⟨by simp only;omega,by simp;omega,by simp only;omega⟩ (by simp only;omega)
 ·rw[decide_eq_false (by omega:¬(i:Int)<(l.length:Int)),cond_false,aV,C2G,Bn (by omega),G5.2 (by omega)];rfl
theorem A3L(i:Nat)(c:Int)(r:List Int):T5 i (c::r)=if N7 (c::r)then((i+1:Nat):Int)::T5 (i+1) r else T5 (i+1) r:=rfl
theorem C4A(l:List Int)(hl:smL l=true)(n:Nat)(hn:l.length<n):A2 E55 n Ch [.sl .i32 l none]=some (.one (.sl .i64 (R4 l) (some 1))):=by
 have au:=Z1 hl;rw[B3V];refine(H2 (fun p:List Int×Nat=>Y2 l p.1 p.2) (fun p=>p.1.length≤p.2+1∧p.2≤l.length) (fun p=>l.length - p.2) (fun p=>(some (.one (.sl .i64 (p.1++T5 p.2 (l.drop p.2)) (some 1))):Option E6)) ?_ n ([0],0) (by simp) (by simp only;omega)).trans rfl;rintro⟨s,i⟩ ⟨h1,h2⟩ K aV bA aN;dsimp only at h1 h2 aN ⊢;rw[C27];by_cases h:i<l.length
 ·rw[decide_eq_true (by omega:(i:Int)<(l.length:Int)),cond_true,D4 h,I2 (by omega),G5.2 (by omega)];dsimp only;have hd:=R8 h;have n8:N7 (l.drop i)=true→K .normal (Y2 l (s++[((i+1:Nat):Int)]) ((i+1:Nat):Int))=some (.one (.sl .i64 (s++T5 i (l.drop i)) (some 1))):=fun he=>by
   refine(aN (s++[((i+1:Nat):Int)],i+1) ⟨by simp;omega,by simp only;omega⟩ (by simp only;omega)).trans ?_;rw[hd]at he ⊢;rw[A3L,if_pos he];simp
  have cP:N7 (l.drop i)=false→K .normal (Y2 l s ((i+1:Nat):Int))=some (.one (.sl .i64 (s++T5 i (l.drop i)) (some 1))):=fun he=>by
   refine(aN (s,i+1) ⟨by simp only;omega,by simp only;omega⟩ (by simp only;omega)).trans ?_;rw[hd]at he ⊢;rw[A3L,he];rfl
  have dt:=B5J h;by_cases c1:l[i]=13
  ·have c2:l[i]≠10:=by omega
   rw[if_neg c2,if_pos c1]at dt;rw[Y8 c1,beqT c1];by_cases h3:i+1<l.length
   ·rw[decide_eq_true (by omega:((i+1:Nat):Int)<(l.length:Int)),D4 h3];rw[Ck h3]at dt;by_cases c3:l[i+1]=10
    ·rw[c3]at dt;dsimp only;rw[beqT c3];exact cP (by rw[dt];rfl)
    ·dsimp only;rw[beqF c3];refine n8 ?_;rw[dt];simp[c3]
   ·rw[decide_eq_false (by omega:¬((i+1:Nat):Int)<(l.length:Int))];refine n8 ?_;rw[dt,Gn (by omega)];rfl
  ·rw[V5 c1,beqF c1];rw[if_neg c1]at dt;by_cases c2:l[i]=10
   ·rw[Y8 c2];exact n8 (by rw[dt,if_pos c2])
   ·rw[V5 c2];exact cP (by rw[dt,if_neg c2])
 ·rw[decide_eq_false (by omega:¬(i:Int)<(l.length:Int)),cond_false,aV,C4b,Bn (by omega),show T5 i []=[]from rfl,Cd]
theorem B4M:∀(m:List Int)(i:Nat),T5 i m=[]→∀ cur,H3 cur m=[cur++m]
 |[],i,_,cur=>by simp[H3]
 |c::r,i,h,cur=>by
  rw[A3L]at h;rw[W4];cases he:N7 (c::r)with
  |true=>rw[he]at h;simp at h
  |false=>
   rw[he]at h;simp only[Et,if_false]at h ⊢;have ih:=B4M r (i+1) h;by_cases hc:c=13
   ·subst hc;have h2:(!(r.head? ==some 10))=false:=he;cases r with
    |nil=>simp at h2
    |cons d r=>
     simp at h2;subst h2;rw[A3L]at h;rw[show N7 (10::r)=true from rfl]at h;simp at h
   ·rw[if_neg hc,ih];simp
def X6(m:List Int)(j:Nat):Nat:=if m[j]?=some 10∧0<j∧m[j - 1]?=some 13 then j - 1 else j
theorem B8K:∀(m:List Int)(i:Nat)(b:Int)(am:List Int),T5 i m=b::am→
  ∃ j:Nat,j<m.length∧b=((i+j+1:Nat):Int)∧am=T5 (i+j+1) (m.drop (j+1))∧∀ cur,H3 cur m=(cur++m.take (X6 m j))::H3 [] (m.drop (j+1))
 |[],i,b,am,h=>by cases h
 |c::r,i,b,am,h=>by
  rw[A3L]at h;cases he:N7 (c::r)with
  |true=>
   rw[he]at h;simp only[if_true,Bq]at h;refine⟨0,by simp,h.1.symm,by simpa using h.2.symm,fun cur=>?_⟩;rw[W4,he];simp[X6]
  |false=>
   rw[he]at h;simp only[Et,if_false]at h;obtain⟨j,h1,h2,h3,h4⟩:=B8K r (i+1) b am h;refine⟨j+1,by simp;omega,by rw[h2];congr 1;omega,by rw[h3,Gq];congr 1;omega,fun cur=>?_⟩;rw[W4,he,Gq];simp only[Et,if_false];by_cases hc:c=13
   ·subst hc;have fL:(!(r.head? ==some 10))=false:=he;cases r with
    |nil=>simp at fL
    |cons d r=>
     simp at fL;subst fL;rw[A3L,show N7 (10::r)=true from rfl]at h;simp only[if_true,Bq]at h;have hj:j=0:=by have:=h.1;rw[h2]at this;omega
     subst hj;rw[if_pos rfl,h4];simp[X6]
   ·rw[if_neg hc,h4];have gA:(c::r).take (X6 (c::r) (j+1))=c::r.take (X6 r j):=by
     unfold X6;rw[Gp,Gb];cases j with
     |zero=>
      rw[List.getElem?_cons_zero,if_neg (by rintro⟨_,_,h5⟩;exact hc (Eg h5)),if_neg (by rintro⟨_,h5,_⟩;omega)];rfl
     |succ j=>
      rw[Gp,Gb];by_cases hh:r[j+1]?=some 10∧r[j]?=some 13
      ·rw[if_pos ⟨hh.1,by omega,hh.2⟩,if_pos ⟨hh.1,by omega,hh.2⟩];rfl
      ·rw[if_neg (fun h5=>hh ⟨h5.1,h5.2.2⟩),if_neg (fun h5=>hh ⟨h5.1,h5.2.2⟩)];rfl
    rw[gA];simp
theorem B7C:∀(m:List Int)(i:Nat),(T5 i m).length≤m.length
 |[],_=>by simp[T5]
 |c::r,i=>by
  rw[A3L];have:=B7C r (i+1);split<;>simp<;>omega
theorem C2i(l:List Int)(hl:smL l=true)(n:Nat)(hn:l.length+2<n):A2 E39 n Dv [.sl .i32 l none]=some (.one (.sl .rs (B4 l) (some 1))):=by
 have au:=Z1 hl;have h4:=A50 hl;have e8:(R4 l).length≤l.length+1:=by have:=B7C l 0;simp[R4];omega
 rw[C6d,hl,cond_true];refine(H2 (fun p:List (List Int)×Nat×Nat×Bool=>A0F l p.1 (R4 l) p.2.1)
  (fun p=>p.1.length=p.2.1∧p.2.2.1≤l.length∧(p.2.2.2=true→p.2.1=(R4 l).length)∧(p.2.2.2=false→(R4 l).drop p.2.1=(p.2.2.1:Int)::T5 p.2.2.1 (l.drop p.2.2.1)))
  (fun p=>(R4 l).length - p.2.1) (fun p=>(some (.one (.sl .rs (bif p.2.2.2 then p.1 else p.1++H3 [] (l.drop p.2.2.1)) (some 1))):Option E6)) ?_ n ([],0,0,false)
  ⟨rfl,Bm _,(fun h=>by cases h),fun _=>rfl⟩ (by simp only;omega)).trans rfl
 rintro⟨out,k,a,done⟩ ⟨h1,h2,h3,h5⟩ K aV bA aN;dsimp only at h1 h2 h3 h5 aN ⊢;rw[C1z];cases done with
 |true=>
  have hk:=h3 rfl;rw[decide_eq_false (by omega:¬(k:Int)<((R4 l).length:Int)),cond_false,aV,C1h];rfl
 |false=>
  have hd:=h5 rfl;have hk:k<(R4 l).length:=by
   rcases Fw k (R4 l).length with h|h
   ·exact h
   ·rw[Bn h]at hd;cases hd
  rw[R8 hk]at hd;simp only[Bq]at hd;obtain⟨yn,mS⟩:=hd;rw[decide_eq_true (by omega:(k:Int)<((R4 l).length:Int)),cond_true,I2 (by omega),D4 hk,yn];dsimp only;rw[G5.2 (by omega:(out.length+1)*24≤140737488355328)];by_cases h6:k+1<(R4 l).length
  ·rw[decide_eq_true (by omega:((k+1:Nat):Int)<((R4 l).length:Int)),D4 h6];have cO:=mS;rw[R8 h6]at cO;obtain⟨j,j1,j2,j3,j4⟩:=B8K _ _ _ _ cO.symm;rw[Bi]at j1;rw[j2];dsimp only;have ky:=j4 [];rw[Dd]at ky;have ew:∀ e:Nat,e=a+X6 (l.drop a) j→∀ x,x=(l.drop a).take (e - a)→K .normal (A0F l (out++[x]) (R4 l) ((k+1:Nat):Int))=some (.one (.sl .rs (out++H3 [] (l.drop a)) (some 1))):=by
    intro e he x hx;have dT:e - a=X6 (l.drop a) j:=by omega
    refine(aN (out++[x],k+1,a+j+1,false) ⟨by simp;omega,by simp only;omega,(fun h=>by cases h),fun _=>?_⟩ (by simp only;omega)).trans ?_
    ·dsimp only;rw[R8 h6,j2,j3,Df];rfl
    ·dsimp only;refine congrArg (fun z:List (List Int)=>(some (.one (.sl .rs z (some 1))):Option E6)) ?_;rw[ky,hx,dT,Df];show out++[_]++_=_;rw[Eh];rfl
   have w1:Ba .i64 (((a+j+1:Nat):Int) - 1)=((a+j:Nat):Int):=by rw[P6 (by omega) (by omega)];omega
   rw[w1,D4 (by omega:a+j<l.length)];dsimp only;have wq:(l.drop a)[j]?=some (l[a+j]'(by omega)):=by rw[Ep,Ck (by omega)]
   have bZ:∀ e:Nat,a≤e→e≤l.length→sub l (a:Int) (e:Int)=some ((l.drop a).take (e - a)):=fun e ft dT=>A4w ft dT;have mw:∀ e:Nat,a≤e→e≤l.length→Ba .i64 ((e:Int) - (a:Int))=((e - a:Nat):Int):=fun e ft dT=>by rw[P6 (by omega) (by omega)];omega
   have jB:∀ e:Nat,e≤l.length→A3 e 4=true:=fun e he=>G5.2 (by omega);have kz:X6 (l.drop a) j=j→(bif decide ((0:Int)≤((a+j - a:Nat):Int))&&A3 (Bg ((a+j - a:Nat):Int)) 4 then(match sub l (a:Int) ((a+j:Nat):Int)with|none=>none|some y7=>(bif A3 (0+Ai y7) 4 then(bif true then(K .normal (A0F l (out++[y7]) (R4 l) ((k+1:Nat):Int)))else none)else none))else none)=some (.one (.sl .rs (out++H3 [] (l.drop a)) (some 1))):=by
    intro gA;rw[decide_eq_true (by omega),Cv,jB _ (by omega),bZ _ (by omega) (by omega)];dsimp only;rw[jB _ (by rw[Cp,Bi];omega)];exact ew (a+j) (by omega) _ rfl
   by_cases c1:l[a+j]=10
   ·rw[beqT c1];by_cases c2:0<j
    ·rw[decide_eq_true (by omega:((a+j:Nat):Int)>(a:Int))];have w2:Ba .i64 (((a+j:Nat):Int) - 1)=((a+j - 1:Nat):Int):=by rw[P6 (by omega) (by omega)];omega
     rw[w2,D4 (by omega:a+j - 1<l.length)];dsimp only;have qQ:(l.drop a)[j - 1]?=some (l[a+j - 1]'(by omega)):=by
      have e:a+(j - 1)=a+j - 1:=by omega
      rw[Ep,Ck (by omega)];simp only[e]
     by_cases c3:l[a+j - 1]=13
     ·rw[beqT c3,mw (a+j - 1) (by omega) (by omega)];have gA:X6 (l.drop a) j=j - 1:=by unfold X6;rw[wq,qQ,c1,c3,if_pos ⟨rfl,c2,rfl⟩]
      rw[decide_eq_true (by omega:(0:Int)≤((a+j - 1 - a:Nat):Int)),Cv,jB _ (by omega),bZ _ (by omega) (by omega)];dsimp only;rw[jB _ (by rw[Cp,Bi];omega)];exact ew (a+j - 1) (by omega) _ rfl
     ·rw[beqF c3,mw (a+j) (by omega) (by omega)];exact kz (by unfold X6;rw[qQ,if_neg (fun h=>c3 (Eg h.2.2))])
    ·rw[decide_eq_false (by omega:¬((a+j:Nat):Int)>(a:Int)),mw (a+j) (by omega) (by omega)];exact kz (by unfold X6;rw[if_neg (fun h=>c2 h.2.1)])
   ·rw[beqF c1,mw (a+j) (by omega) (by omega)];exact kz (by unfold X6;rw[wq,if_neg (fun h=>c1 (Eg h.1))])
  ·rw[decide_eq_false (by omega:¬((k+1:Nat):Int)<((R4 l).length:Int))];have b8:T5 a (l.drop a)=[]:=by rw[←mS,Bn (by omega)]
   have ky:=B4M _ _ b8 [];rw[Dd]at ky;have w2:Ba .i64 ((l.length:Int) - (a:Int))=((l.length - a:Nat):Int):=by rw[P6 (by omega) (by omega)];omega
   rw[w2,decide_eq_true (by omega:(0:Int)≤((l.length - a:Nat):Int)),Cv,G5.2 (by omega),A59 h2];dsimp only;rw[G5.2 (by rw[Bi];omega)];refine Cr (b:=K .normal (A0F l (out++[l.drop a]) (R4 l) ((k+1:Nat):Int))) rfl ?_;refine(aN (out++[l.drop a],k+1,a,true) ⟨by simp;omega,h2,(fun _=>by simp only;omega),(fun h=>by cases h)⟩ (by simp only;omega)).trans ?_;refine congrArg (fun z:List (List Int)=>(some (.one (.sl .rs z (some 1))):Option E6)) ?_;rw[ky];rfl
def K9(ls:List (List Int)):Nat:=(ls.map Ai).sum
theorem A1y(l:List Int)(ls:List (List Int)):K9 (l::ls)=l.length+K9 ls:=by simp[K9]
theorem B6R(a b:List (List Int)):K9 (a++b)=K9 a+K9 b:=by simp[K9]
theorem A7N{a b:List (List Int)}(h:a.Sublist b):K9 a≤K9 b:=by
 induction h with
 |slnil=>simp
 |cons x _ ih=>rw[A1y];omega
 |cons_cons x _ ih=>rw[A1y,A1y];omega
theorem A9c{a:List (List Int)}{x:List Int}(h:x∈a):x.length≤K9 a:=by
 have:=A7N (List.singleton_sublist.2 h);simpa [K9]using this
theorem B9n{f:List Int→List Int}(hf:∀ l,(f l).length≤l.length)(a:List (List Int)):K9 (a.map f)≤K9 a:=by
 induction a with
 |nil=>simp
 |cons l r ih=>have:=hf l;rw[Cn,A1y,A1y];omega
theorem A8d:∀(m cur:List Int),K9 (H3 cur m)≤cur.length+m.length∧(H3 cur m).length≤m.length+1
 |[],cur=>by simp[H3,K9]
 |c::r,cur=>by
  rw[W4];split
  ·have:=A8d r [];rw[A1y];simp at this ⊢;omega
  ·split
   ·have:=A8d r cur;simp;omega
   ·have:=A8d r (cur++[c]);simp at this ⊢;omega
theorem A6N(l:List Int):K9 (B4 l)≤l.length∧(B4 l).length≤l.length+1:=by
 have:=A8d l [];simpa [B4]using this
theorem B3H(ls:List (List Int)):(Q5 ls).Sublist ls:=by
 unfold Q5;have h1:=(Gr (l:=(List.dropWhile B5 ls).reverse) B5).reverse;rw[Gj]at h1;exact h1.trans (Gr _)
theorem B9D(ls:List (List Int)):K9 (I5 ls)≤K9 ls∧(I5 ls).length≤ls.length:=by
 unfold I5;have h1:=A7N (B3H (N8 ls));have h2:=(B3H (N8 ls)).length_le;have h3:K9 (N8 ls)≤K9 ls:=by
  unfold N8;rw[B6R];have:=B9n (f:=fun l=>l.drop (U4 ls).toNat) (fun l=>by simp) (ls.drop 1);have h4:K9 (ls.take 1)+K9 (ls.drop 1)=K9 ls:=by rw[←B6R,Ev]
  omega
 have h4:(N8 ls).length=ls.length:=by unfold N8;simp;omega
 omega
theorem B4k{ls:List (List Int)}(h1:K9 ls≤1073741824)(h2:ls.length≤1073741825):M4 ls=true:=by
 unfold M4;simp only[Bw,Cu];exact⟨G5.2 (by omega),fun x hx=>T2.2 (by have:=A9c hx;omega)⟩
theorem B8x(ls:List (List Int)):(H7 ls).length≤K9 ls+ls.length:=by
 cases ls with
 |nil=>simp[H7]
 |cons l r=>
  unfold H7;rw[A1y];have:(r.flatMap (10:: ·)).length≤K9 r+r.length:=by
   induction r with
   |nil=>simp
   |cons x r ih=>rw[Ce,Br,A1y];simp only[Bl];omega
  rw[Br,Bl];omega
theorem C2b{ls:List (List Int)}{i:Nat}(h:i<ls.length)(h0:0<i):H7 (ls.take (i+1))=H7 (ls.take i)++[10]++ls[i]:=by
 match ls,i,h,h0 with
 |l::r,i+1,h,_=>
  simp only[Bl,Nat.add_lt_add_iff_right]at h;rw[Ge,Ge,Cj h];show l++(r.take i++[r[i]]).flatMap (10:: ·)=(l++(r.take i).flatMap (10:: ·))++[10]++r[i];rw[Er];simp
theorem C6G{ls:List (List Int)}(h:0<ls.length):H7 (ls.take 1)=ls[0]:=by
 match ls,h with
 |l::r,_=>simp[H7]
theorem C1X(r:List Int):((E3 r).head? ==some 10)=(r.head? ==some 10):=by
 fun_cases E3 r with
 |case1 r=>rfl
 |case2 c r h=>rfl
 |case3=>rfl
theorem A2T(c:Int)(r:List Int):N7 (c::r)=if c=10 then true else if c=13 then !(r.head? ==some 10)else false:=by
 by_cases h1:c=10
 ·subst h1;rfl
 ·rw[if_neg h1];by_cases h2:c=13
  ·subst h2;rfl
  ·rw[if_neg h2];unfold N7;split
   ·rename_i bW;simp only[Bq]at bW;exact absurd bW.1 h1
   ·rename_i bW;simp only[Bq]at bW;exact absurd bW.1 h2
   ·rfl
theorem C1E{x y:List Int}(h:x<+:y)(hx:M3 y=false):M3 x=false:=by
 cases hq:M3 x with
 |false=>rfl
 |true=>
  obtain⟨z,rfl⟩:=h;obtain⟨r,rfl⟩:=A26.1 hq;rw[show M3 (92::34::34::34::r++z)=true from rfl]at hx;cases hx
theorem A2n(cur:List Int)(c:Int)(r:List Int)(h1:c≠10)(h2:c≠13):H3 cur (c::r)=H3 (cur++[c]) r:=by
 rw[W4,A2T,if_neg h1,if_neg h2];simp[h2]
theorem D1v:∀(l cur kA:List Int),(∀ x,x<+:l→E3 (cur++x)=kA++E3 x)→H3 kA (E3 l)=(H3 cur l).map E3:=by
 intro l
 fun_induction E3 l with
 |case1 r ih=>
  intro cur kA h;rw[A2n _ _ _ (by decide) (by decide),A2n _ _ _ (by decide) (by decide),A2n _ _ _ (by decide) (by decide),
   A2n cur _ _ (by decide) (by decide),A2n _ _ _ (by decide) (by decide),A2n _ _ _ (by decide) (by decide),A2n _ _ _ (by decide) (by decide)]
  refine ih _ _ (fun x hx=>?_);have:=h (92::34::34::34::x) (by simpa using hx);rw[B7M]at this;simpa using this
 |case2 c r az ih=>
  intro cur kA h;have he:M3 (c::r)=false:=by
   cases hq:M3 (c::r)with
   |false=>rfl
   |true=>
    obtain⟨r',hr⟩:=A26.1 hq;simp only[Bq]at hr;exact absurd hr.2 (fun e=>az r' hr.1 e)
  have dt:N7 (c::E3 r)=N7 (c::r):=by rw[A2T,A2T,C1X]
  rw[W4,W4,dt];cases hq:N7 (c::r)with
  |true=>
   simp only[if_true,Cn];rw[ih [] [] (fun x _=>rfl)];have:=h [] (Fk);rw[Cd,show E3 []=[]from rfl,Cd]at this;rw[this]
  |false=>
   simp only[Et,if_false];by_cases hc:c=13
   ·rw[if_pos hc,if_pos hc];subst hc;have fh:r.head? =some 10:=by
     rw[A2T]at hq;simpa using hq
    match r,fh with
    |10::r',_=>
     have rZ:=ih [] [] (fun x _=>rfl);have cO:E3 (10::r')=10::E3 r':=B0m (by rw[A8l];rfl);rw[cO]at rZ ⊢;rw[W4,show N7 (10::E3 r')=true from rfl,W4,show N7 (10::r')=true from rfl]at rZ ⊢;simp only[if_true,Cn,Bq]at rZ ⊢;refine⟨?_,rZ.2⟩;have:=h [] (Fk);rw[Cd,show E3 []=[]from rfl,Cd]at this;exact this.symm
   ·rw[if_neg hc,if_neg hc];refine ih _ _ (fun x hx=>?_);have ws:c::x<+:c::r:=by simpa using hx
    have:=h (c::x) ws;rw[B0m (C1E ws he)]at this;simpa using this
 |case3=>
  intro cur kA h;have:=h [] (Fk);rw[Cd,show E3 []=[]from rfl,Cd]at this;simp[H3,this]
theorem C8J(l:List Int):B4 (E3 l)=(B4 l).map E3:=D1v l [] [] (fun x _=>rfl)
theorem B9c(l:List Int):W1 l=if Q6 l&&A2z (Y5 0 l)then((I4 (H7 (I5 (B4 (E3 l))))).1,0)else([],60):=rfl
theorem C7I{ls:List (List Int)}(h1:K9 ls≤1073741824)(h2:ls.length≤1073741825){n:Nat}(hn:ls.length<n){body:S6→(Ex→S6→Option E6)→Option E6}{k:Ex→S6→Option E6}{st:List Int→Int→S6}
  (kx:∀(out:List Int)(i:Nat),ls.length≤i→D0 out=true→∀ K:Ex→S6→Option E6,(∀ j s,K (.exit j) s=k (.exit j) s)→body (st out i) K=some (.tup [.str (I4 out).1,.int .i64 0]))
  (bJ:∀(out:List Int)(i:Nat)(h:i<ls.length),A3 (out.length+1) 4=true→A3 ((out++[10]).length+ls[i].length) 4=true→A3 (out.length+ls[i].length) 4=true→∀ K:Ex→S6→Option E6,
   body (st out i) K=K .normal (st (if 0<i then(out++[10])++ls[i]else out++ls[i]) ((i+1:Nat):Int))):
  C9 body n (st [] 0) k=some (.tup [.str (I4 (H7 ls)).1,.int .i64 0]):=by
 refine(H2 (fun i:Nat=>st (H7 (ls.take i)) i) (fun i=>i≤ls.length) (fun i=>ls.length - i) (fun i=>(some (.tup [.str (I4 (H7 ls)).1,.int .i64 0]):Option E6)) ?_ n 0 (Bm _) (by omega));intro i hi K aV bA aN;have hj:=B8x (ls.take i);have ht:=A7N (Gf i ls);have hl:(ls.take i).length≤i:=En _ _;by_cases h:i<ls.length
 ·have hm:=A9c (Bt h);rw[bJ _ i h (G5.2 (by omega)) (G5.2 (by simp;omega)) (G5.2 (by omega)) K];have:(if 0<i then(H7 (ls.take i)++[10])++ls[i]else H7 (ls.take i)++ls[i])=H7 (ls.take (i+1)):=by
   by_cases h0:0<i
   ·rw[if_pos h0,C2b h h0]
   ·have:i=0:=by omega
    subst this;rw[if_neg h0,C6G h];rfl
  rw[this];exact aN (i+1) (by omega) (by omega)
 ·rw[kx _ i (by omega) (T2.2 (by omega)) K aV,Bu (by omega)]
theorem C4D{l:List Int}(hl:smL l=true):K9 (I5 (B4 (E3 l)))≤1073741824∧(I5 (B4 (E3 l))).length≤l.length+1:=by
 have h0:=Z1 hl;have h1:=B1F l;have h2:=A6N (E3 l);have h3:=B9D (B4 (E3 l));omega
theorem C1W(l:List Int)(hl:smL l=true)(n:Nat)(hn:l.length+2<n):A2 E23 n Cm [.sl .i32 l none]=some (.tup [.str (W1 l).1,.int .i64 (W1 l).2]):=by
 have au:=Z1 hl;rw[C5v,hl,cond_true,B9c];have hb:A6l 0 l=(Q6 l&&A2z (Y5 0 l)):=rfl;rw[hb];cases hm:Q6 l&&A2z (Y5 0 l)with
 |false=>rfl
 |true=>
  have h1:=A6N l;have h3:=C4D hl;rw[C8J]at h3 ⊢;rw[if_pos rfl];show C9 _ n _ _=_;refine(H2 (fun i:Nat=>A81 (B4 l) (((B4 l).take i).map E3) i) (fun i=>i≤(B4 l).length) (fun i=>(B4 l).length - i) (fun i=>(some (.tup [.str (I4 (H7 (I5 ((B4 l).map E3)))).1,.int .i64 0]):Option E6)) ?_ n 0 (Bm _) (by omega));intro i hi K aV bA aN;rw[C64];by_cases h:i<(B4 l).length
  ·have hm:=A9c (Bt h);rw[decide_eq_true (by omega:(i:Int)<((B4 l).length:Int)),cond_true,D4 h,I2 (by omega)];dsimp only;rw[A5Y.2 (by omega),G5.2 (by rw[Eo,Cp];omega)];have e:((B4 l).take i).map E3++[E3 (B4 l)[i]]=((B4 l).take (i+1)).map E3:=by
    rw[Cj h,List.map_append];rfl
   rw[e];exact aN (i+1) (by omega) (by omega)
  ·rw[decide_eq_false (by omega:¬(i:Int)<((B4 l).length:Int)),cond_false,aV,C4R,Bu (by omega)];have h2:=B9n B1F (B4 l);rw[B4k (by omega) (by rw[Eo];omega),cond_true];generalize I5 ((B4 l).map E3)=ls at h3;refine C7I (n:=n) h3.1 (by omega) (by omega) (st:=fun out i=>A5E ls out i) (fun out i hi ho K aV=>?_) (fun out i h r1 r2 r3 K=>?_)
   ·rw[B5B,decide_eq_false (by omega:¬(i:Int)<(ls.length:Int)),cond_false,aV,C95,ho];rfl
   ·rw[B5B,decide_eq_true (by omega:(i:Int)<(ls.length:Int)),cond_true,D4 h,I2 (by omega)];dsimp only;rw[r1,r2,r3];by_cases h0:0<i
    ·rw[decide_eq_true (by omega:(i:Int)>0),if_pos h0];rfl
    ·rw[decide_eq_false (by omega:¬(i:Int)>0),if_neg h0];rfl
theorem C2S{a b:Int}(h:(N5 a b).2=true):D2 (N5 a b).1=true:=by
 unfold N5 at h ⊢;split at h
 ·cases h
 ·rename_i hc;rw[if_neg hc];simp at hc;rw[V3];dsimp only;omega
theorem D1b{l:List Int}(h:(W6 l).2≠0):D2 (W6 l).1=true:=by
 have hr:=C41 l;by_cases c1:E4 l<0∨(56320≤E4 l∧E4 l≤57343)
 ·rw[B0t l c1]at h;exact absurd rfl h
 by_cases c2:E4 l<55296∨57343<E4 l
 ·rw[B1B l (by omega) c2,V3];dsimp only;omega
 ·rw[B6r l (by omega) (by omega) (by omega)]at h ⊢;by_cases c3:10≤l.length∧l[4]?=some 92∧l[5]?=some 117∧(N5 (E4 l) (E4 (l.drop 6))).2=true
  ·rw[if_pos c3];exact C2S c3.2.2.2
  ·rw[if_neg c3]at h;exact absurd rfl h
theorem C7v{c:Int}(h:0≤O7 c):D2 (O7 c)=true:=by
 rcases (D1u c).1 h with rfl|rfl|rfl|rfl|rfl|rfl|rfl|rfl<;>decide
theorem B7f{c:Int}(h:M8 c=true):D2 c=true:=by
 unfold M8 at h;rw[V3];split at h
 ·simp at h;omega
 ·simp at h;omega
theorem C4U{l:List Int}(h:(I3 l).2≠0):D2 (I3 l).1=true:=by
 cases l with
 |nil=>exact absurd rfl h
 |cons c r=>
  have hp:I3 (c::r)=if Z6 c then(c,1)else if c=92 then A07 (c::r)else(0,0):=rfl
  rw[hp]at h ⊢;by_cases c1:Z6 c=true
  ·rw[if_pos c1];refine B7f ?_;unfold Z6 at c1;simp only[Bw]at c1;exact c1.1.1.1.1
  ·rw[if_neg c1]at h ⊢;by_cases c2:c=92
   ·rw[if_pos c2]at h ⊢;by_cases h2:(c::r).length<2
    ·rw[B0z h2]at h;exact absurd rfl h
    rw[B62 0 _ (by omega)]at h ⊢;by_cases c3:0≤O7 (c::r)[1]
    ·rw[if_pos c3];exact C7v c3
    ·rw[if_neg c3]at h ⊢;by_cases c4:(c::r)[1]=117
     ·rw[if_pos c4]at h ⊢;exact D1b h
     ·rw[if_neg c4]at h;exact absurd rfl h
   ·rw[if_neg c2]at h;exact absurd rfl h
theorem quotedL_valid:∀(n:Nat)(l va:List Int),l.length≤n→A1v l=some va→va.all D2=true∧va.length≤l.length:=by
 intro n
 induction n with
 |zero=>
  intro l va hl h;have:l=[]:=Es (by omega);subst this;rw[B0d]at h;cases h;exact⟨rfl,Bz _⟩
 |succ n ih=>
  intro l va hl h;by_cases az:l=[]
  ·subst az;rw[B0d]at h;cases h;exact⟨rfl,Bz _⟩
  ·rw[B4G az]at h;have hr:=A9x l;by_cases hp:(I3 l).2=0
   ·rw[if_pos hp]at h;cases h
   ·rw[if_neg hp]at h;obtain⟨v,hv,rfl⟩:=Option.map_eq_some_iff.1 h;have di:0<l.length:=De.2 az;obtain⟨i1,i2⟩:=ih _ v (by rw[Bi];omega) hv;rw[Bi]at i2;exact⟨by rw[Cf,C4U hp,i1];rfl,by simp;omega⟩
theorem A6Y{l:List Int}(h:l.all D2=true):I4 l=(B3 l,true):=by unfold I4;rw[if_pos h]
theorem A1F(a b:List Int):B3 (a++b)=B3 a++B3 b:=by unfold B3 toB;simp
theorem A2p(l:List Int):(B3 l).length≤4*l.length:=by
 have:=flat_u8F_len l;unfold B3 toB;rw[Eo];exact this
def B3Q:T6:=fun f ls=>match f with
 |194=>S41 ls
 |219=>S27 ls
 |_=>none
def A2c:Env Ty6 A4:=mk6 B3Q noC (lkE [(0,[2]),(1,[5,6,7,8,9,10,11,12,13,14,15,16]),(2,[0,17]),(3,[17,18,19]),(4,[0,20]),(5,[0,20]),(7,[24,25,26]),(8,[4,27,28,29,30,31,32,33,34,35]),(9,[21,22,23,36]),(10,[36,37]),(11,[21,22,23,24])]) 38
def A64(gb:List (List Int))(fk:Int)(eL:Int):S6:=⟨[(21,.one (.sl .rs gb none)),(22,.one (.int .i64 fk)),(23,.one (.int .i64 eL))],[]⟩
theorem C2V(n:Nat)(a0:List (List Int)):A2 A2c n Dx [.sl .rs a0 none]=
  match idx a0 0 with|none=>none|some y1=>(bif D0 y1 then(bif(B5 y1)==false then(match idx a0 (Ba .i64 ((Ai a0:Int) - 1))with|none=>none|some y2=>(bif D0 y2 then(bif B5 y2 then(some (.one (.bool false)))else(bif(Ai a0:Int)==1 then(some (.one (.bool true)))else(C9 (lbC A2c (A0 Dx [1,1,1,0,1,0,0]) 10006 n) n (A64 a0 (Ai a0:Int) 0) (A8 0 (B9 (B1 A2c n (A0 Dx [1,1,1,1])) (B2 A2c Tryz.f193.results.toList))))))else none))else(some (.one (.bool false))))else none):=by
 kernel_rfl
theorem C17(n:Nat)(gb:List (List Int))(fk:Int)(eL:Int)(K:Ex→S6→Option E6):lbC A2c (A0 Dx [1,1,1,0,1,0,0]) 10006 n (A64 gb fk eL) K=
  bif decide (eL<fk)then(match idx gb eL with|none=>none|some y3=>(bif D0 y3 then(bif(!(B5 y3))==true then(match idx y3 0 with|none=>none|some y4=>(bif !(J6 y4)then(K .ret ⟨[(2,.one (.bool true))],[]⟩)else(K .normal (A64 gb fk (Ba .i64 (eL+1))))))else(K .normal (A64 gb fk (Ba .i64 (eL+1)))))else none))else(K (.exit 0) ⟨[(21,.one (.sl .rs gb none)),(22,.one (.int .i64 fk)),(23,.one (.int .i64 eL)),(24,.one (.bool (decide (eL<fk))))],[]⟩):=by
 kernel_rfl
theorem D0c(n:Nat)(gb:List (List Int))(fk:Int)(eL:Int)(jC:Bool):(A8 0 (B9 (B1 A2c n (A0 Dx [1,1,1,1])) (B2 A2c Tryz.f193.results.toList))) (.exit 0) ⟨[(21,.one (.sl .rs gb none)),(22,.one (.int .i64 fk)),(23,.one (.int .i64 eL)),(24,.one (.bool jC))],[]⟩=
  some (.one (.bool false)):=by
 kernel_rfl
def B3u:T6:=fun f ls=>match f with
 |224=>S30 ls
 |225=>S42 ls
 |_=>none
def A1G:Env Ty6 A4:=mk6 B3u noC (lkE [(0,[2]),(1,[7,8,9,10]),(2,[11,12,13,14,15,16,17]),(3,[3,4,18,19,20]),(4,[0,21]),(5,[21]),(6,[22,23,24]),(7,[26,27,42]),(8,[25,28,29,30,31,32]),(9,[6,33,34,35,36,37,38,39,40,41]),(10,[0,5,42]),(11,[0,5,25,43,44,45])]) 46
def A5C(x0:List (List Int))(x5:Int):S6:=⟨[(0,.one (.sl .rs x0 none)),(5,.one (.int .i64 x5))],[]⟩
theorem C9X(n:Nat)(a0:List (List Int)):A2 A1G n Du [.sl .rs a0 none]=
  match idx a0 0 with|none=>none|some y1=>(bif D0 y1 then(match idx a0 (Ba .i64 ((Ai a0:Int) - 1))with|none=>none|some y2=>(bif D0 y2 then(bif(B5 y1)==false then(bif B5 y2 then(some (.one (.bool false)))else(C9 (lbC A1G (A0 Du [1,1,1,1,0,1,0,0]) 10006 n) n (A5C a0 0) (A8 0 (B9 (B1 A1G n (A0 Du [1,1,1,1,1])) (B2 A1G Tryz.f199.results.toList)))))else(some (.one (.bool false))))else none))else none):=by
 kernel_rfl
theorem C2I(n:Nat)(x0:List (List Int))(x5:Int)(K:Ex→S6→Option E6):lbC A1G (A0 Du [1,1,1,1,0,1,0,0]) 10006 n (A5C x0 x5) K=
  bif decide (x5<(Ai x0:Int))then(match idx x0 x5 with|none=>none|some y3=>(bif D0 y3 then(bif((G2 y3)==0)==true then(match idx x0 x5 with|none=>none|some y4=>(bif decide ((Ai y4:Int)>0)then(K .ret ⟨[(2,.one (.bool true))],[]⟩)else(K .normal (A5C x0 (Ba .i64 (x5+1))))))else(K .normal (A5C x0 (Ba .i64 (x5+1)))))else none))else(K (.exit 0) ⟨[(0,.one (.sl .rs x0 none)),(5,.one (.int .i64 x5)),(25,.one (.bool (decide (x5<(Ai x0:Int)))))],[]⟩):=by
 kernel_rfl
theorem C0w(n:Nat)(x0:List (List Int))(x5:Int)(ir:Bool):(A8 0 (B9 (B1 A1G n (A0 Du [1,1,1,1,1])) (B2 A1G Tryz.f199.results.toList))) (.exit 0) ⟨[(0,.one (.sl .rs x0 none)),(5,.one (.int .i64 x5)),(25,.one (.bool ir))],[]⟩=
  some (.one (.bool ((Ai x0:Int)==1))):=by
 kernel_rfl
def A1A:Env Ty6 A4:=mk6 noT noC (lkE [(0,[2]),(3,[5,6,7]),(4,[8,9,10,11,12,13,14,15,16,17,18,19,20,21,22,23,24,25,26,27,28,29,30,31,32,33,34,35]),(5,[36,37,38,39]),(6,[40,41]),(7,[36,42,43,44,45,46,47,48]),(8,[49,50]),(9,[0,3,4,8,51])]) 52
def A1W(x0:List Int)(x3:List Int)(x4:Int):S6:=⟨[(0,.one (.sl .i32 x0 none)),(3,.one (.sl .i32 x3 (some 103))),(4,.one (.int .i64 x4))],[103]⟩
theorem C86(n:Nat)(a0:List Int):A2 A1A n Ds [.sl .i32 a0 none]=
  C9 (lbC A1A (A0 Ds [1,1,1,0,0,0]) 10003 n) n (A1W a0 [] 0) (A8 0 (B9 (B1 A1A n (A0 Ds [1,1,1,1])) (B2 A1A Tryz.f201.results.toList))):=by
 kernel_rfl
theorem C3J(n:Nat)(x0:List Int)(x3:List Int)(x4:Int)(K:Ex→S6→Option E6):lbC A1A (A0 Ds [1,1,1,0,0,0]) 10003 n (A1W x0 x3 x4) K=
  bif decide (x4<(Ai x0:Int))then(bif(decide ((Ba .i64 (x4+2))<(Ai x0:Int)))==true then(match idx x0 x4 with|none=>none|some y1=>(bif(y1==34)==true then(match idx x0 (Ba .i64 (x4+1))with|none=>none|some y2=>(bif(y2==34)==true then(match idx x0 (Ba .i64 (x4+2))with|none=>none|some y3=>(bif y3==34 then(bif A3 (Ai x3+4) 4 then(K .normal (A1W x0 (x3++[92,34,34,34]) (Ba .i64 (x4+3))))else none)else(match idx x0 x4 with|none=>none|some y4=>(bif A3 (Ai x3+1) 4 then(K .normal (A1W x0 (x3++[y4]) (Ba .i64 (x4+1))))else none))))else(match idx x0 x4 with|none=>none|some y5=>(bif A3 (Ai x3+1) 4 then(K .normal (A1W x0 (x3++[y5]) (Ba .i64 (x4+1))))else none))))else(match idx x0 x4 with|none=>none|some y6=>(bif A3 (Ai x3+1) 4 then(K .normal (A1W x0 (x3++[y6]) (Ba .i64 (x4+1))))else none))))else(match idx x0 x4 with|none=>none|some y7=>(bif A3 (Ai x3+1) 4 then(K .normal (A1W x0 (x3++[y7]) (Ba .i64 (x4+1))))else none)))else(K (.exit 0) ⟨[(0,.one (.sl .i32 x0 none)),(3,.one (.sl .i32 x3 (some 103))),(4,.one (.int .i64 x4)),(8,.one (.bool (decide (x4<(Ai x0:Int)))))],[103]⟩):=by
 kernel_rfl
theorem C0x(n:Nat)(x0:List Int)(x3:List Int)(x4:Int)(x8:Bool):(A8 0 (B9 (B1 A1A n (A0 Ds [1,1,1,1])) (B2 A1A Tryz.f201.results.toList))) (.exit 0) ⟨[(0,.one (.sl .i32 x0 none)),(3,.one (.sl .i32 x3 (some 103))),(4,.one (.int .i64 x4)),(8,.one (.bool x8))],[103]⟩=
  some (.one (.sl .i32 x3 (some 1))):=by
 kernel_rfl
def B3J:T6:=fun f ls=>match f with
 |190=>A9g ls
 |191=>S32 ls
 |192=>S37 ls
 |193=>A92 ls
 |194=>S41 ls
 |195=>S51 ls
 |196=>S33 ls
 |_=>none
def J3:Env Ty6 A4:=mk6 B3J noC (lkE [(0,[2,3]),(1,[13]),(2,[0,14]),(3,[14,15,16,17,18,19]),(4,[0,5,20,21,22]),(5,[4,23]),(6,[23]),(8,[27,28,29]),(9,[7,30,31,32,33,34,35]),(10,[4,24,25,26,36]),(11,[36,37]),(12,[24,25,26,27,38,39]),(13,[40,41]),(14,[4,8,42]),(15,[42,43]),(16,[8,44,45,46,47,48,49,50,51,52]),(17,[53,54,55,56]),(18,[53]),(19,[57,58,59]),(20,[61,62]),(21,[60,63,64,65]),(22,[66,67,68,69]),(23,[70,71]),(24,[66,72,73,74,75,76,77,78]),(25,[4,9,10,12,60,79,80,81,82,83,84,85]),(26,[11,86])]) 87
def A4G(x4:List Int)(jC:List Int)(ir:Int)(iT:Int):S6:=⟨[(4,.one (.sl .i32 x4 (some 1017))),(24,.one (.sl .i32 jC (some 1017))),(25,.one (.int .i64 ir)),(26,.one (.int .i64 iT))],[1017]⟩
def A2v(x4:List Int)(x9:List Int)(bC:Int):S6:=⟨[(4,.one (.sl .i32 x4 (some 1017))),(9,.one (.sl .i32 x9 (some 143))),(10,.one (.int .i64 bC))],[143,1017]⟩
theorem B21(n:Nat)(a0:List UInt8):A2 J3 n By [.str a0]=
  bif a0==[]then(some (.tup [.str [34,34,34,34,34,34],.bool true]))else(bif smS a0 then(bif decide ((((C4 a0).2:Nat):Int)<(Ai a0:Int))then(some (.tup [.str [],.bool false]))else(C9 (lbC J3 (A0 By [1,1,1,1,0,1,0,0]) 10007 n) n (A4G ((C4 a0).1) ((C4 a0).1) (Ai ((C4 a0).1):Int) 0) (A8 0 (B9 (B1 J3 n (A0 By [1,1,1,1,1])) (B2 J3 Tryz.f155.results.toList)))))else none):=by
 kernel_rfl
theorem C04(n:Nat)(x4:List Int)(jC:List Int)(ir:Int)(iT:Int)(K:Ex→S6→Option E6):lbC J3 (A0 By [1,1,1,1,0,1,0,0]) 10007 n (A4G x4 jC ir iT) K=
  bif decide (iT<ir)then(match idx jC iT with|none=>none|some y1=>(bif(!(M8 y1))==false then(bif y1==13 then(K .ret ⟨[(2,.one (.str [])),(3,.one (.bool false))],[]⟩)else(K .normal (A4G x4 jC ir (Ba .i64 (iT+1)))))else(K .ret ⟨[(2,.one (.str [])),(3,.one (.bool false))],[]⟩)))else(K (.exit 0) ⟨[(4,.one (.sl .i32 x4 (some 1017))),(24,.one (.sl .i32 jC (some 1017))),(25,.one (.int .i64 ir)),(26,.one (.int .i64 iT)),(27,.one (.bool (decide (iT<ir))))],[1017]⟩):=by
 kernel_rfl
theorem C4W(n:Nat)(x4:List Int)(jC:List Int)(ir:Int)(iT:Int)(l7:Bool):(A8 0 (B9 (B1 J3 n (A0 By [1,1,1,1,1])) (B2 J3 Tryz.f155.results.toList))) (.exit 0) ⟨[(4,.one (.sl .i32 x4 (some 1017))),(24,.one (.sl .i32 jC (some 1017))),(25,.one (.int .i64 ir)),(26,.one (.int .i64 iT)),(27,.one (.bool l7))],[1017]⟩=
  bif smL x4 then(bif M4 (B4 x4)&&decide (1≤Ai (B4 x4))then(bif !(S8 (B4 x4))then(some (.tup [.str [],.bool false]))else(bif(decide ((Ai (B4 x4):Int)>1))==false then(match idx x4 0 with|none=>none|some y2=>(bif !(J6 y2)then(bif A3 (3+1) 4 then(C9 (lbC J3 (A0 By [1,1,1,1,1,1,1,1,1,0,1,0,0]) 10019 n) n (A2v x4 ([34,34,34]++[10]) 0) (A8 2 (B9 (B1 J3 n (A0 By [1,1,1,1,1,1,1,1,1,1])) (B2 J3 Tryz.f155.results.toList))))else none)else(C9 (lbC J3 (A0 By [1,1,1,1,1,1,1,1,1,0,1,0,0]) 10019 n) n (A2v x4 [34,34,34] 0) (A8 2 (B9 (B1 J3 n (A0 By [1,1,1,1,1,1,1,1,1,1])) (B2 J3 Tryz.f155.results.toList))))))else(bif A3 (3+1) 4 then(C9 (lbC J3 (A0 By [1,1,1,1,1,1,1,1,1,0,1,0,0]) 10019 n) n (A2v x4 ([34,34,34]++[10]) 0) (A8 2 (B9 (B1 J3 n (A0 By [1,1,1,1,1,1,1,1,1,1])) (B2 J3 Tryz.f155.results.toList))))else none)))else none)else none:=by
 kernel_rfl
theorem C4Q(n:Nat)(x4:List Int)(x9:List Int)(bC:Int)(K:Ex→S6→Option E6):lbC J3 (A0 By [1,1,1,1,1,1,1,1,1,0,1,0,0]) 10019 n (A2v x4 x9 bC) K=
  bif decide (bC<(Ai x4:Int))then(match sub x4 bC (Ai x4:Int)with|none=>none|some y3=>(bif D0 y3 then(bif I6 y3 then(bif A3 (Ai x9+4) 4 then(K .normal (A2v x4 (x9++[92,34,34,34]) (Ba .i64 ((Ba .i64 (bC+2))+1))))else none)else(match idx x4 bC with|none=>none|some y4=>(bif A3 (Ai x9+1) 4 then(K .normal (A2v x4 (x9++[y4]) (Ba .i64 (bC+1))))else none)))else none))else(K (.exit 2) ⟨[(4,.one (.sl .i32 x4 (some 1017))),(9,.one (.sl .i32 x9 (some 143))),(10,.one (.int .i64 bC)),(60,.one (.bool (decide (bC<(Ai x4:Int)))))],[143,1017]⟩):=by
 kernel_rfl
theorem C16(n:Nat)(x4:List Int)(x9:List Int)(bC:Int)(yo:Bool):(A8 2 (B9 (B1 J3 n (A0 By [1,1,1,1,1,1,1,1,1,1])) (B2 J3 Tryz.f155.results.toList))) (.exit 2) ⟨[(4,.one (.sl .i32 x4 (some 1017))),(9,.one (.sl .i32 x9 (some 143))),(10,.one (.int .i64 bC)),(60,.one (.bool yo))],[143,1017]⟩=
  bif A3 (Ai x9+4) 4 then(bif D0 (x9++[10,34,34,34])then(some (.tup [.str ((I4 (x9++[10,34,34,34])).1),.bool true]))else none)else none:=by
 kernel_rfl
def B3n:T6:=fun f ls=>match f with
 |52=>S223 ls
 |121=>S53 ls
 |125=>S35 ls
 |198=>S39 ls
 |199=>B0X ls
 |200=>S56 ls
 |201=>B01 ls
 |_=>none
def M0:Env Ty6 A4:=mk6 B3n noC (lkE [(0,[2,3]),(1,[16,17,18,19,20,21]),(2,[5,22,23,24]),(3,[0,4,25]),(4,[25]),(5,[26,27,28]),(6,[30,31,45]),(7,[29,32,33,34,35,36]),(8,[7,37,38,39,40,41,42,43,44]),(9,[0,4,6,45]),(10,[6,29]),(11,[0,46]),(12,[4,8,47,48,49,50]),(13,[4,47,51,52]),(14,[53,54]),(15,[10,55]),(16,[8,9,56]),(17,[56,57]),(18,[58,59,60,61,62,63,64,65,66,67,68]),(19,[69,70,71]),(20,[69]),(21,[72,73,74]),(22,[76,77]),(23,[75,78,79,80,81,82]),(24,[13,15,83,84,85,86,87]),(25,[14,88,89,90,91]),(26,[8,9,11,12,75,92,93,94])]) 95
def A6C(x0:List UInt8)(x4:List Int)(x6:Int):S6:=⟨[(0,.one (.str x0)),(4,.one (.sl .i32 x4 (some 1019))),(6,.one (.int .i64 x6))],[1019]⟩
def A1Q(x8:List UInt8)(x9:List (List Int))(dB:List UInt8)(de:Int):S6:=⟨[(8,.one (.str x8)),(9,.one (.sl .rs x9 (some 1052))),(11,.one (.str dB)),(12,.one (.int .i64 de))],[1052]⟩
theorem B3g(n:Nat)(a0:List UInt8):A2 M0 n Bx [.str a0]=
  bif A3 (Ai a0) 1 then(bif isB (Co (fun(c:UInt8)=>(c.toNat:Int)) a0)&&smL (Co (fun(c:UInt8)=>(c.toNat:Int)) a0)then(bif(((C4 (toB (Co (fun(c:UInt8)=>(c.toNat:Int)) a0))).2:Nat):Int) !=(Ai a0:Int)then(some (.tup [.str [],.bool false]))else(C9 (lbC M0 (A0 Bx [1,1,1,0,1,0,0]) 10005 n) n (A6C a0 ((C4 (toB (Co (fun(c:UInt8)=>(c.toNat:Int)) a0))).1) 0) (A8 0 (B9 (B1 M0 n (A0 Bx [1,1,1,1])) (B2 M0 Tryz.f163.results.toList)))))else none)else none:=by
 kernel_rfl
theorem B5M(n:Nat)(x0:List UInt8)(x4:List Int)(x6:Int)(K:Ex→S6→Option E6):lbC M0 (A0 Bx [1,1,1,0,1,0,0]) 10005 n (A6C x0 x4 x6) K=
  bif decide (x6<(Ai x4:Int))then(match idx x4 x6 with|none=>none|some y1=>(bif(!(M8 y1))==false then(match idx x4 x6 with|none=>none|some y2=>(bif y2==13 then(K .ret ⟨[(2,.one (.str [])),(3,.one (.bool false))],[]⟩)else(K .normal (A6C x0 x4 (Ba .i64 (x6+1))))))else(K .ret ⟨[(2,.one (.str [])),(3,.one (.bool false))],[]⟩)))else(K (.exit 0) ⟨[(0,.one (.str x0)),(4,.one (.sl .i32 x4 (some 1019))),(6,.one (.int .i64 x6)),(29,.one (.bool (decide (x6<(Ai x4:Int)))))],[1019]⟩):=by
 kernel_rfl
theorem B7I(n:Nat)(x0:List UInt8)(x4:List Int)(x6:Int)(yp:Bool):(A8 0 (B9 (B1 M0 n (A0 Bx [1,1,1,1])) (B2 M0 Tryz.f163.results.toList))) (.exit 0) ⟨[(0,.one (.str x0)),(4,.one (.sl .i32 x4 (some 1019))),(6,.one (.int .i64 x6)),(29,.one (.bool yp))],[1019]⟩=
  bif x0==[]then(bif decide (Ai [34,34,34]+Ai [34,34,34]≤9223372036854775807)then(some (.tup [.str ([34,34,34]++[34,34,34]),.bool true]))else none)else(bif smL x4 then(bif M4 (B4 x4)&&decide (1≤Ai (B4 x4))then(bif !(S8 (B4 x4))then(some (.tup [.str [],.bool false]))else(bif(decide ((Ai (B4 x4):Int)>1))==false then(match idx (B4 x4) 0 with|none=>none|some y3=>(match idx y3 0 with|none=>none|some y4=>(bif !(J6 y4)then(bif decide (Ai [34,34,34]+Ai [10]≤9223372036854775807)then(C9 (lbC M0 (A0 Bx [1,1,1,1,1,1,1,1,1,1,1,0,1,0,0]) 10021 n) n (A1Q [34,34,34] (B4 x4) ([34,34,34]++[10]) 0) (A8 2 (B9 (B1 M0 n (A0 Bx [1,1,1,1,1,1,1,1,1,1,1,1])) (B2 M0 Tryz.f163.results.toList))))else none)else(C9 (lbC M0 (A0 Bx [1,1,1,1,1,1,1,1,1,1,1,0,1,0,0]) 10021 n) n (A1Q [34,34,34] (B4 x4) [34,34,34] 0) (A8 2 (B9 (B1 M0 n (A0 Bx [1,1,1,1,1,1,1,1,1,1,1,1])) (B2 M0 Tryz.f163.results.toList)))))))else(bif decide (Ai [34,34,34]+Ai [10]≤9223372036854775807)then(C9 (lbC M0 (A0 Bx [1,1,1,1,1,1,1,1,1,1,1,0,1,0,0]) 10021 n) n (A1Q [34,34,34] (B4 x4) ([34,34,34]++[10]) 0) (A8 2 (B9 (B1 M0 n (A0 Bx [1,1,1,1,1,1,1,1,1,1,1,1])) (B2 M0 Tryz.f163.results.toList))))else none)))else none)else none):=by
 kernel_rfl
theorem C6n(n:Nat)(x8:List UInt8)(x9:List (List Int))(dB:List UInt8)(de:Int)(K:Ex→S6→Option E6):lbC M0 (A0 Bx [1,1,1,1,1,1,1,1,1,1,1,0,1,0,0]) 10021 n (A1Q x8 x9 dB de) K=
  bif decide (de<(Ai x9:Int))then(match idx x9 de with|none=>none|some y5=>(bif smL y5 then(bif D0 (maskF y5)then(bif decide (Ai dB+Ai ((I4 (maskF y5)).1)≤9223372036854775807)then(bif decide (Ai (dB++((I4 (maskF y5)).1))+Ai [10]≤9223372036854775807)then(K .normal (A1Q x8 x9 ((dB++((I4 (maskF y5)).1))++[10]) (Ba .i64 (de+1))))else none)else none)else none)else none))else(K (.exit 2) ⟨[(8,.one (.str x8)),(9,.one (.sl .rs x9 (some 1052))),(11,.one (.str dB)),(12,.one (.int .i64 de)),(75,.one (.bool (decide (de<(Ai x9:Int)))))],[1052]⟩):=by
 kernel_rfl
theorem C5b(n:Nat)(x8:List UInt8)(x9:List (List Int))(dB:List UInt8)(de:Int)(yq:Bool):(A8 2 (B9 (B1 M0 n (A0 Bx [1,1,1,1,1,1,1,1,1,1,1,1])) (B2 M0 Tryz.f163.results.toList))) (.exit 2) ⟨[(8,.one (.str x8)),(9,.one (.sl .rs x9 (some 1052))),(11,.one (.str dB)),(12,.one (.int .i64 de)),(75,.one (.bool yq))],[1052]⟩=
  bif decide (Ai dB+Ai x8≤9223372036854775807)then(some (.tup [.str (dB++x8),.bool true]))else none:=by
 kernel_rfl
def B26:T6:=fun f ls=>match f with
 |217=>B11 ls
 |_=>none
def A10:Env Ty6 A4:=mk6 B26 noC (lkE [(0,[2,3]),(1,[0,10]),(3,[11]),(5,[13,14,15,16]),(6,[17]),(7,[8,18,19,20,21,22,23,24,25]),(8,[9,26]),(9,[4,5,6,7,12,27,28,29]),(10,[6,7,18,27,30,31,32,33]),(11,[4,5,12,13,14,34,35,36])]) 37
def A60(x4:List UInt8)(x5:List Int)(de:List UInt8)(cw:Nat):S6:=⟨[(4,.one (.str x4)),(5,.one (.sl .i32 x5 (some 105))),(12,.iter de cw)],[105]⟩
theorem D03(n:Nat)(a0:List UInt8):A2 A10 n Dz [.str a0]=
  C9 (lbC A10 (A0 Dz [1,1,1,0,1,0,0]) 10004 n) n (A60 a0 [] a0 0) (A8 0 (B9 (B1 A10 n (A0 Dz [1,1,1,1])) (B2 A10 Tryz.f190.results.toList))):=by
 kernel_rfl
theorem B96(n:Nat)(x4:List UInt8)(x5:List Int)(de:List UInt8)(cw:Nat)(K:Ex→S6→Option E6):lbC A10 (A0 Dz [1,1,1,0,1,0,0]) 10004 n (A60 x4 x5 de cw) K=
  bif decide (cw<Ai de)then(bif((Dh ⟨de.toArray⟩ cw).1:Int)==65533 then(match sub x4 (cw:Int) (Ai x4:Int)with|none=>none|some y1=>(bif true then(bif((dgF y1).2)==1 then(K .ret ⟨[(2,.one (.sl .i32 x5 (some 105))),(3,.one (.int .i64 (cw:Int)))],[105]⟩)else(bif A3 (Ai x5+1) 4 then(K .normal (A60 x4 (x5++[((Dh ⟨de.toArray⟩ cw).1:Int)]) de (cw+(Dh ⟨de.toArray⟩ cw).2)))else none))else none))else(bif A3 (Ai x5+1) 4 then(K .normal (A60 x4 (x5++[((Dh ⟨de.toArray⟩ cw).1:Int)]) de (cw+(Dh ⟨de.toArray⟩ cw).2)))else none))else(K (.exit 0) ⟨[(4,.one (.str x4)),(5,.one (.sl .i32 x5 (some 105))),(12,.iter de cw),(13,.tup [.bool false]),(14,.one (.bool false))],[105]⟩):=by
 kernel_rfl
theorem C5I(n:Nat)(x4:List UInt8)(x5:List Int)(de:List UInt8)(cw:Nat):(A8 0 (B9 (B1 A10 n (A0 Dz [1,1,1,1])) (B2 A10 Tryz.f190.results.toList))) (.exit 0) ⟨[(4,.one (.str x4)),(5,.one (.sl .i32 x5 (some 105))),(12,.iter de cw),(13,.tup [.bool false]),(14,.one (.bool false))],[105]⟩=
  some (.tup [.sl .i32 x5 (some 1),.int .i64 (Ai x4:Int)]):=by
 kernel_rfl
def A1J:Env Ty6 A4:=mk6 noT noC (lkE [(0,[4]),(1,[6,7,8,9]),(2,[0,1,10]),(3,[10]),(4,[11,12,13]),(5,[15,16,25]),(6,[14,17,18,19,20,21,22,23,24]),(7,[0,1,5,25]),(8,[0,1,5,14])]) 26
def A8r(x0:List Int)(x1:List Int)(x5:Int):S6:=⟨[(0,.one (.sl .u8 x0 none)),(1,.one (.sl .u8 x1 none)),(5,.one (.int .i64 x5))],[]⟩
theorem C4Z(n:Nat)(a0:List Int)(a1:List Int):A2 A1J n Eb [.sl .u8 a0 none,.sl .u8 a1 none]=
  bif(Ai a0:Int) !=(Ai a1:Int)then(some (.one (.bool false)))else(C9 (lbC A1J (A0 Eb [1,1,0,1,0,0]) 10004 n) n (A8r a0 a1 0) (A8 0 (B9 (B1 A1J n (A0 Eb [1,1,1])) (B2 A1J Tryz.f173.results.toList)))):=by
 kernel_rfl
theorem C4M(n:Nat)(x0:List Int)(x1:List Int)(x5:Int)(K:Ex→S6→Option E6):lbC A1J (A0 Eb [1,1,0,1,0,0]) 10004 n (A8r x0 x1 x5) K=
  bif decide (x5<(Ai x0:Int))then(match idx x0 x5 with|none=>none|some y1=>(match idx x1 x5 with|none=>none|some y2=>(bif y1 !=y2 then(K .ret ⟨[(4,.one (.bool false))],[]⟩)else(K .normal (A8r x0 x1 (Ba .i64 (x5+1)))))))else(K (.exit 0) ⟨[(0,.one (.sl .u8 x0 none)),(1,.one (.sl .u8 x1 none)),(5,.one (.int .i64 x5)),(14,.one (.bool (decide (x5<(Ai x0:Int)))))],[]⟩):=by
 kernel_rfl
theorem C90(n:Nat)(x0:List Int)(x1:List Int)(x5:Int)(l8:Bool):(A8 0 (B9 (B1 A1J n (A0 Eb [1,1,1])) (B2 A1J Tryz.f173.results.toList))) (.exit 0) ⟨[(0,.one (.sl .u8 x0 none)),(1,.one (.sl .u8 x1 none)),(5,.one (.int .i64 x5)),(14,.one (.bool l8))],[]⟩=
  some (.one (.bool true)):=by
 kernel_rfl
def A17:Env Ty6 A4:=mk6 noT noC (lkE [(0,[2]),(1,[6]),(2,[3,7,8,9,10,11,12,13,14,15,16]),(4,[17,18,19]),(5,[21,22]),(6,[20,23,24,25,26,27,28,29,30,31]),(7,[0,4,5,20,32,33])]) 34
def A8I(x0:List Int)(x4:Int)(x5:Int):S6:=⟨[(0,.one (.sl .u8 x0 none)),(4,.one (.int .i64 x4)),(5,.one (.int .i64 x5))],[]⟩
theorem C8E(n:Nat)(a0:List Int):A2 A17 n Ec [.sl .u8 a0 none]=
  match idx a0 0 with|none=>none|some y1=>(match idx [0,128,32,16,8] (Ai a0:Int)with|none=>none|some y2=>(bif !decide (y2=0)then(C9 (lbC A17 (A0 Ec [1,1,1,0,1,0,0]) 10004 n) n (A8I a0 (Cg (Ba .i64 y1) y2) 1) (A8 0 (B9 (B1 A17 n (A0 Ec [1,1,1,1])) (B2 A17 Tryz.f171.results.toList))))else none)):=by
 kernel_rfl
theorem C3A(n:Nat)(x0:List Int)(x4:Int)(x5:Int)(K:Ex→S6→Option E6):lbC A17 (A0 Ec [1,1,1,0,1,0,0]) 10004 n (A8I x0 x4 x5) K=
  bif decide (x5<(Ai x0:Int))then(match idx x0 x5 with|none=>none|some y3=>(K .normal (A8I x0 (Ba .i64 ((Ba .i64 (x4*64))+(Cg (Ba .i64 y3) 64))) (Ba .i64 (x5+1)))))else(K (.exit 0) ⟨[(0,.one (.sl .u8 x0 none)),(4,.one (.int .i64 x4)),(5,.one (.int .i64 x5)),(20,.one (.bool (decide (x5<(Ai x0:Int)))))],[]⟩):=by
 kernel_rfl
theorem B92(n:Nat)(x0:List Int)(x4:Int)(x5:Int)(tS:Bool):(A8 0 (B9 (B1 A17 n (A0 Ec [1,1,1,1])) (B2 A17 Tryz.f171.results.toList))) (.exit 0) ⟨[(0,.one (.sl .u8 x0 none)),(4,.one (.int .i64 x4)),(5,.one (.int .i64 x5)),(20,.one (.bool tS))],[]⟩=
  some (.one (.int .i32 (Ba .i32 x4))):=by
 kernel_rfl
def B1r:T6:=fun f ls=>match f with
 |171=>B3c ls
 |172=>S50 ls
 |173=>B16 ls
 |_=>none
def A02:Env Ty6 A4:=mk6 B1r noC (lkE [(0,[2,3]),(2,[7,8,9,10,11,12,13]),(3,[5,15,16,33]),(4,[14,17,18,19,20]),(5,[21,22]),(6,[6,23,24,25,26,27,28,29,30,31,32]),(7,[0,4,5,33,34,35]),(8,[0,4,14])]) 36
def A4y(x0:List Int)(x4:Int):S6:=⟨[(0,.one (.sl .u8 x0 none)),(4,.one (.int .i64 x4))],[]⟩
theorem C6Q(n:Nat)(a0:List Int):A2 A02 n Dc [.sl .u8 a0 none]=
  C9 (lbC A02 (A0 Dc [1,0,1,0,0]) 10002 n) n (A4y a0 1) (A8 0 (B9 (B1 A02 n (A0 Dc [1,1])) (B2 A02 Tryz.f120.results.toList))):=by
 kernel_rfl
theorem C5m(n:Nat)(x0:List Int)(x4:Int)(K:Ex→S6→Option E6):lbC A02 (A0 Dc [1,0,1,0,0]) 10002 n (A4y x0 x4) K=
  bif(decide (x4≤4))==true then(bif decide (x4≤(Ai x0:Int))then(match sub x0 0 x4 with|none=>none|some y1=>(bif isB y1&&decide (1≤Ai y1)&&decide (Ai y1≤4)then(bif((Ai (P3 (H5 y1)):Int)==x4)==true then(match sub x0 0 x4 with|none=>none|some y2=>(bif A3 (Ai (P3 (H5 y1))) 1&&A3 (Ai y2) 1 then(bif eqI (P3 (H5 y1)) y2 then(K .ret ⟨[(2,.one (.int .i32 (H5 y1))),(3,.one (.int .i64 x4))],[]⟩)else(K .normal (A4y x0 (Ba .i64 (x4+1)))))else none))else(K .normal (A4y x0 (Ba .i64 (x4+1)))))else none))else(K (.exit 0) ⟨[(0,.one (.sl .u8 x0 none)),(4,.one (.int .i64 x4)),(14,.one (.bool (decide (x4≤(Ai x0:Int)))))],[]⟩))else(K (.exit 0) ⟨[(0,.one (.sl .u8 x0 none)),(4,.one (.int .i64 x4)),(14,.one (.bool false))],[]⟩):=by
 kernel_rfl
theorem C57(n:Nat)(x0:List Int)(x4:Int)(l8:Bool):(A8 0 (B9 (B1 A02 n (A0 Dc [1,1])) (B2 A02 Tryz.f120.results.toList))) (.exit 0) ⟨[(0,.one (.sl .u8 x0 none)),(4,.one (.int .i64 x4)),(14,.one (.bool l8))],[]⟩=
  some (.tup [.int .i32 0,.int .i64 0]):=by
 kernel_rfl
theorem C6b(n:Nat)(x0:List Int)(x4:Int):(A8 0 (B9 (B1 A02 n (A0 Dc [1,1])) (B2 A02 Tryz.f120.results.toList))) (.exit 0) ⟨[(0,.one (.sl .u8 x0 none)),(4,.one (.int .i64 x4)),(14,.one (.bool false))],[]⟩=
  some (.tup [.int .i32 0,.int .i64 0]):=by
 kernel_rfl
def B0D:T6:=fun f ls=>match f with
 |120=>A96 ls
 |_=>none
def A0G:Env Ty6 A4:=mk6 B0D noC (lkE [(0,[2,3]),(3,[8,9,10]),(4,[11,12,13,14,15,16,17,18]),(5,[19]),(6,[6,20,21,22,23,24]),(7,[7,25,26,27]),(8,[0,4,5,6,7,11,20,28,29])]) 30
def A6y(x0:List Int)(x4:List Int)(x5:Int):S6:=⟨[(0,.one (.sl .u8 x0 none)),(4,.one (.sl .i32 x4 (some 104))),(5,.one (.int .i64 x5))],[104]⟩
theorem C8G(n:Nat)(a0:List Int):A2 A0G n Cy [.sl .u8 a0 none]=
  C9 (lbC A0G (A0 Cy [1,1,1,0,0,0]) 10003 n) n (A6y a0 [] 0) (A8 0 (B9 (B1 A0G n (A0 Cy [1,1,1,1])) (B2 A0G Tryz.f52.results.toList))):=by
 kernel_rfl
theorem C9h(n:Nat)(x0:List Int)(x4:List Int)(x5:Int)(K:Ex→S6→Option E6):lbC A0G (A0 Cy [1,1,1,0,0,0]) 10003 n (A6y x0 x4 x5) K=
  bif decide (x5<(Ai x0:Int))then(match sub x0 x5 (Ai x0:Int)with|none=>none|some y1=>(bif isB y1&&decide (1≤Ai y1)&&A3 (Ai y1) 1 then(bif((P8 y1).2)==0 then(K (.exit 0) ⟨[(0,.one (.sl .u8 x0 none)),(4,.one (.sl .i32 x4 (some 104))),(5,.one (.int .i64 x5)),(6,.one (.int .i32 ((P8 y1).1))),(7,.one (.int .i64 ((P8 y1).2))),(20,.one (.bool (((P8 y1).2)==0)))],[104]⟩)else(bif A3 (Ai x4+1) 4 then(K .normal (A6y x0 (x4++[(P8 y1).1]) (Ba .i64 (x5+((P8 y1).2)))))else none))else none))else(K (.exit 0) ⟨[(0,.one (.sl .u8 x0 none)),(4,.one (.sl .i32 x4 (some 104))),(5,.one (.int .i64 x5)),(11,.one (.bool (decide (x5<(Ai x0:Int)))))],[104]⟩):=by
 kernel_rfl
theorem C24(n:Nat)(x0:List Int)(x4:List Int)(x5:Int)(x6:Int)(x7:Int)(tS:Bool):(A8 0 (B9 (B1 A0G n (A0 Cy [1,1,1,1])) (B2 A0G Tryz.f52.results.toList))) (.exit 0) ⟨[(0,.one (.sl .u8 x0 none)),(4,.one (.sl .i32 x4 (some 104))),(5,.one (.int .i64 x5)),(6,.one (.int .i32 x6)),(7,.one (.int .i64 x7)),(20,.one (.bool tS))],[104]⟩=
  some (.tup [.sl .i32 x4 (some 1),.int .i64 x5]):=by
 kernel_rfl
theorem C0Q(n:Nat)(x0:List Int)(x4:List Int)(x5:Int)(dB:Bool):(A8 0 (B9 (B1 A0G n (A0 Cy [1,1,1,1])) (B2 A0G Tryz.f52.results.toList))) (.exit 0) ⟨[(0,.one (.sl .u8 x0 none)),(4,.one (.sl .i32 x4 (some 104))),(5,.one (.int .i64 x5)),(11,.one (.bool dB))],[104]⟩=
  some (.tup [.sl .i32 x4 (some 1),.int .i64 x5]):=by
 kernel_rfl
def A98:Env Ty6 A4:=mk6 noT noC (lkE [(0,[2,3,4]),(1,[5,6,7,8,9]),(2,[0,10]),(3,[10,11,12]),(4,[0,13,14,15,16,17,18])]) 19
theorem C3t(n:Nat)(a0:Int):A2 A98 n Tryz.f222 [.int .i32 a0]=
  bif(decide (a0<65536))==false then(bif decide (a0>1114111)then(some (.tup [.int .i32 0,.int .i32 0,.bool false]))else(some (.tup [.int .i32 (Ba .i32 (55296+((Ba .i32 (a0 - 65536)) / 2^(Bg 10)))),.int .i32 (Ba .i32 (56320+(bits .and .i32 (Ba .i32 (a0 - 65536)) 1023))),.bool true])))else(some (.tup [.int .i32 0,.int .i32 0,.bool false])):=by
 kernel_rfl
def B2D:Env Ty6 A4:=mk6 noT noC (lkE [(0,[2,3,4]),(1,[6,7,8,9,10]),(2,[0,11]),(3,[0,11,12,13]),(4,[5,14,15,16,17,18,19])]) 20
theorem C87(n:Nat)(a0:Int):A2 B2D n Tryz.f227 [.int .i32 a0]=
  bif(decide (a0<65536))==false then(bif decide (a0>1114111)then(some (.tup [.int .i32 0,.int .i32 0,.bool false]))else(some (.tup [.int .i32 (Ba .i32 (55296+(Ba .i32 (Cq (Ba .i32 (a0 - 65536)) 1024)))),.int .i32 (Ba .i32 (56320+(Cg (Ba .i32 (a0 - 65536)) 1024))),.bool true])))else(some (.tup [.int .i32 0,.int .i32 0,.bool false])):=by
 kernel_rfl
def A2b:Env Ty6 A4:=mk6 noT noC (lkE [(0,[4]),(1,[6,7,8]),(3,[9]),(4,[11,12]),(5,[10,13,14,15,16,17,18,19,20,21]),(6,[0,1,5,10,22])]) 23
def A5i(x0:List Int)(x1:Int)(x5:Int):S6:=⟨[(0,.one (.sl .i32 x0 (some 0))),(1,.one (.int .i32 x1)),(5,.one (.int .i64 x5))],[0]⟩
theorem D0N(n:Nat)(a0:List Int)(a1:Int):A2 A2b n Dp [.sl .i32 a0 (some 0),.int .i32 a1]=
  bif A3 (Ai a0+2) 4 then(C9 (lbC A2b (A0 Dp [1,1,0,1,0,0]) 10003 n) n (A5i (a0++[92,117]) a1 12) (A8 0 (B9 (B1 A2b n (A0 Dp [1,1,1])) (B2 A2b Tryz.f223.results.toList))))else none:=by
 kernel_rfl
theorem C97(n:Nat)(x0:List Int)(x1:Int)(x5:Int)(K:Ex→S6→Option E6):lbC A2b (A0 Dp [1,1,0,1,0,0]) 10003 n (A5i x0 x1 x5) K=
  bif decide (x5≥0)then(bif decide (0≤x5)&&decide (x5≤31)&&decide (Fa=Fa)then(match idx [48,49,50,51,52,53,54,55,56,57,65,66,67,68,69,70] (bits .and .i32 (x1 / 2^(Bg x5)) 15)with|none=>none|some y1=>(bif A3 (Ai x0+1) 4 then(K .normal (A5i (x0++[Ba .i32 (Di y1:Int)]) x1 (Ba .i64 (x5 - 4))))else none))else none)else(K (.exit 0) ⟨[(0,.one (.sl .i32 x0 (some 0))),(1,.one (.int .i32 x1)),(5,.one (.int .i64 x5)),(10,.one (.bool (decide (x5≥0))))],[0]⟩):=by
 kernel_rfl
theorem C8x(n:Nat)(x0:List Int)(x1:Int)(x5:Int)(bC:Bool):(A8 0 (B9 (B1 A2b n (A0 Dp [1,1,1])) (B2 A2b Tryz.f223.results.toList))) (.exit 0) ⟨[(0,.one (.sl .i32 x0 (some 0))),(1,.one (.int .i32 x1)),(5,.one (.int .i64 x5)),(10,.one (.bool bC))],[0]⟩=
  some (.one (.sl .i32 x0 (some 0))):=by
 kernel_rfl
def B1h:T6:=fun f ls=>match f with
 |222=>B3i ls
 |223=>B3t ls
 |_=>none
def C1G:Bp→Option Nat:=fun f=>match f with
 |223=>some 0
 |_=>none
def B1Y:Env Ty6 A4:=mk6 B1h C1G (lkE [(0,[4]),(2,[10]),(3,[11]),(4,[0,1,8,9,12,13,14,15]),(5,[9,17]),(6,[0,1,8,16,18,19,20]),(7,[16,22]),(8,[0,1,8,21,23,24,25]),(9,[21,27]),(10,[0,1,8,26,28,29,30]),(11,[26,32]),(12,[0,1,8,31,33,34,35]),(13,[8,31,37]),(14,[0,1,36,38,39,40]),(15,[36,41,42,43,44,45,46]),(16,[7]),(17,[0,1,5,6,47,48,49,50,51,52]),(18,[5,6,47,53,54,55,56,57]),(19,[0,1,58,59,60,61]),(20,[0,1,58,62,63,64,65])]) 66
theorem C88(n:Nat)(a0:List Int)(a1:Int):A2 B1Y n Tryz.f197 [.sl .i32 a0 (some 0),.int .i32 a1]=
  bif a1==34 then(bif a1==34 then(bif A3 (Ai a0+2) 4 then(some (.one (.sl .i32 (a0++[92,a1]) (some 0))))else none)else(bif a1==8 then(bif A3 (Ai a0+2) 4 then(some (.one (.sl .i32 (a0++[92,98]) (some 0))))else none)else(bif a1==9 then(bif A3 (Ai a0+2) 4 then(some (.one (.sl .i32 (a0++[92,116]) (some 0))))else none)else(bif a1==10 then(bif A3 (Ai a0+2) 4 then(some (.one (.sl .i32 (a0++[92,110]) (some 0))))else none)else(bif a1==12 then(bif A3 (Ai a0+2) 4 then(some (.one (.sl .i32 (a0++[92,102]) (some 0))))else none)else(bif a1==13 then(bif A3 (Ai a0+2) 4 then(some (.one (.sl .i32 (a0++[92,114]) (some 0))))else none)else(bif(D7 a1).2.2 then(bif A3 (Ai a0+6) 4&&decide (0≤((D7 a1).1))&&decide (((D7 a1).1)≤65535)then(bif A3 (Ai (K7 a0 (H0 ((D7 a1).1)))+6) 4&&decide (0≤((D7 a1).2.1))&&decide (((D7 a1).2.1)≤65535)then(some (.one (.sl .i32 (K7 (K7 a0 (H0 ((D7 a1).1))) (H0 ((D7 a1).2.1))) (some 0))))else none)else none)else(bif(decide (a1<32))==false then(bif a1==127 then(bif A3 (Ai a0+6) 4&&decide (0≤a1)&&decide (a1≤65535)then(some (.one (.sl .i32 (K7 a0 (H0 a1)) (some 0))))else none)else(bif A3 (Ai a0+1) 4 then(some (.one (.sl .i32 (a0++[a1]) (some 0))))else none))else(bif A3 (Ai a0+6) 4&&decide (0≤a1)&&decide (a1≤65535)then(some (.one (.sl .i32 (K7 a0 (H0 a1)) (some 0))))else none)))))))))else(bif a1==92 then(bif A3 (Ai a0+2) 4 then(some (.one (.sl .i32 (a0++[92,a1]) (some 0))))else none)else(bif a1==8 then(bif A3 (Ai a0+2) 4 then(some (.one (.sl .i32 (a0++[92,98]) (some 0))))else none)else(bif a1==9 then(bif A3 (Ai a0+2) 4 then(some (.one (.sl .i32 (a0++[92,116]) (some 0))))else none)else(bif a1==10 then(bif A3 (Ai a0+2) 4 then(some (.one (.sl .i32 (a0++[92,110]) (some 0))))else none)else(bif a1==12 then(bif A3 (Ai a0+2) 4 then(some (.one (.sl .i32 (a0++[92,102]) (some 0))))else none)else(bif a1==13 then(bif A3 (Ai a0+2) 4 then(some (.one (.sl .i32 (a0++[92,114]) (some 0))))else none)else(bif(D7 a1).2.2 then(bif A3 (Ai a0+6) 4&&decide (0≤((D7 a1).1))&&decide (((D7 a1).1)≤65535)then(bif A3 (Ai (K7 a0 (H0 ((D7 a1).1)))+6) 4&&decide (0≤((D7 a1).2.1))&&decide (((D7 a1).2.1)≤65535)then(some (.one (.sl .i32 (K7 (K7 a0 (H0 ((D7 a1).1))) (H0 ((D7 a1).2.1))) (some 0))))else none)else none)else(bif(decide (a1<32))==false then(bif a1==127 then(bif A3 (Ai a0+6) 4&&decide (0≤a1)&&decide (a1≤65535)then(some (.one (.sl .i32 (K7 a0 (H0 a1)) (some 0))))else none)else(bif A3 (Ai a0+1) 4 then(some (.one (.sl .i32 (a0++[a1]) (some 0))))else none))else(bif A3 (Ai a0+6) 4&&decide (0≤a1)&&decide (a1≤65535)then(some (.one (.sl .i32 (K7 a0 (H0 a1)) (some 0))))else none))))))))):=by
 kernel_rfl
def A13:Env Ty6 A4:=mk6 noT noC (lkE [(0,[2]),(4,[7]),(5,[9,10]),(6,[8,11,12,13,14,15]),(7,[6,16,17,18,19,20,21,22]),(8,[0,3,4,5,8,23])]) 24
def A7x(x0:Int)(x3:List UInt8)(x4:List UInt8)(x5:Int):S6:=⟨[(0,.one (.int .i32 x0)),(3,.one (.str x3)),(4,.one (.str x4)),(5,.one (.int .i64 x5))],[]⟩
theorem C0h(n:Nat)(a0:Int):A2 A13 n Do [.int .i32 a0]=
  C9 (lbC A13 (A0 Do [1,1,1,0,1,0,0]) 10004 n) n (A7x a0 [48,49,50,51,52,53,54,55,56,57,65,66,67,68,69,70] [92,117] 12) (A8 0 (B9 (B1 A13 n (A0 Do [1,1,1,1])) (B2 A13 Tryz.f226.results.toList))):=by
 kernel_rfl
theorem C5w(n:Nat)(x0:Int)(x3:List UInt8)(x4:List UInt8)(x5:Int)(K:Ex→S6→Option E6):lbC A13 (A0 Do [1,1,1,0,1,0,0]) 10004 n (A7x x0 x3 x4 x5) K=
  bif decide (x5≥0)then(bif decide (0≤x5)&&decide (x5≤31)&&decide (Fa=Fa)then(match sub x3 (bits .and .i64 (Ba .i64 (x0 / 2^(Bg x5))) 15) (Ba .i64 ((bits .and .i64 (Ba .i64 (x0 / 2^(Bg x5))) 15)+1))with|none=>none|some y1=>(bif decide (Ai x4+Ai y1≤9223372036854775807)then(K .normal (A7x x0 x3 (x4++y1) (Ba .i64 (x5 - 4))))else none))else none)else(K (.exit 0) ⟨[(0,.one (.int .i32 x0)),(3,.one (.str x3)),(4,.one (.str x4)),(5,.one (.int .i64 x5)),(8,.one (.bool (decide (x5≥0))))],[]⟩):=by
 kernel_rfl
theorem C42(n:Nat)(x0:Int)(x3:List UInt8)(x4:List UInt8)(x5:Int)(x8:Bool):(A8 0 (B9 (B1 A13 n (A0 Do [1,1,1,1])) (B2 A13 Tryz.f226.results.toList))) (.exit 0) ⟨[(0,.one (.int .i32 x0)),(3,.one (.str x3)),(4,.one (.str x4)),(5,.one (.int .i64 x5)),(8,.one (.bool x8))],[]⟩=
  some (.one (.str x4)):=by
 kernel_rfl
def B3A:T6:=fun f ls=>match f with
 |125=>S35 ls
 |226=>B4b ls
 |227=>B1j ls
 |_=>none
def A1N:Env Ty6 A4:=mk6 B3A noC (lkE [(0,[2]),(4,[11,12,13]),(5,[15,16,22]),(6,[14,17,18,19,20,21]),(7,[0,3,4,5,22,23,24,25,26,27,28]),(8,[3,4,5,14,29,30,31,32,33]),(9,[0,34,35,36]),(10,[34,37,38,39,40,41,42]),(11,[8]),(12,[0,6,7,43,44,45,46,47,48]),(13,[0,6,7,10,43,49,50,51,52,53,54]),(14,[9,55])]) 56
def A7b(x0:Int)(x3:List UInt8)(x4:List UInt8)(x5:Int):S6:=⟨[(0,.one (.int .i32 x0)),(3,.one (.str x3)),(4,.one (.str x4)),(5,.one (.int .i64 x5))],[]⟩
theorem D1i(n:Nat)(a0:Int):A2 A1N n Dr [.int .i32 a0]=
  C9 (lbC A1N (A0 Dr [1,1,1,0,1,0,0]) 10004 n) n (A7b a0 [34,92,98,102,110,114,116] [34,92,8,12,10,13,9] 0) (A8 0 (B9 (B1 A1N n (A0 Dr [1,1,1,1])) (B2 A1N Tryz.f202.results.toList))):=by
 kernel_rfl
theorem C1H(n:Nat)(x0:Int)(x3:List UInt8)(x4:List UInt8)(x5:Int)(K:Ex→S6→Option E6):lbC A1N (A0 Dr [1,1,1,0,1,0,0]) 10004 n (A7b x0 x3 x4 x5) K=
  bif decide (x5<(Ai x4:Int))then(match idx x4 x5 with|none=>none|some y1=>(bif(Ba .i32 (Di y1:Int))==x0 then(match sub x3 x5 (Ba .i64 (x5+1))with|none=>none|some y2=>(bif decide (Ai [92]+Ai y2≤9223372036854775807)then(K .ret ⟨[(2,.one (.str ([92]++y2)))],[]⟩)else none))else(K .normal (A7b x0 x3 x4 (Ba .i64 (x5+1))))))else(K (.exit 0) ⟨[(0,.one (.int .i32 x0)),(3,.one (.str x3)),(4,.one (.str x4)),(5,.one (.int .i64 x5)),(14,.one (.bool (decide (x5<(Ai x4:Int)))))],[]⟩):=by
 kernel_rfl
theorem C23(n:Nat)(x0:Int)(x3:List UInt8)(x4:List UInt8)(x5:Int)(l8:Bool):(A8 0 (B9 (B1 A1N n (A0 Dr [1,1,1,1])) (B2 A1N Tryz.f202.results.toList))) (.exit 0) ⟨[(0,.one (.int .i32 x0)),(3,.one (.str x3)),(4,.one (.str x4)),(5,.one (.int .i64 x5)),(14,.one (.bool l8))],[]⟩=
  bif(decide (x0<32))==false then(bif x0==127 then(bif decide (0≤x0)&&decide (x0≤65535)then(some (.one (.str (B3 (H0 x0)))))else none)else(bif(D7 x0).2.2 then(bif decide (0≤((D7 x0).1))&&decide (((D7 x0).1)≤65535)then(bif decide (0≤((D7 x0).2.1))&&decide (((D7 x0).2.1)≤65535)then(bif decide (Ai (B3 (H0 ((D7 x0).1)))+Ai (B3 (H0 ((D7 x0).2.1)))≤9223372036854775807)then(some (.one (.str ((B3 (H0 ((D7 x0).1)))++(B3 (H0 ((D7 x0).2.1)))))))else none)else none)else none)else(bif D0 [x0]then(some (.one (.str ((I4 [x0]).1))))else none)))else(bif decide (0≤x0)&&decide (x0≤65535)then(some (.one (.str (B3 (H0 x0)))))else none):=by
 kernel_rfl
def B1Q:T6:=fun f ls=>match f with
 |190=>A9g ls
 |196=>S33 ls
 |197=>B3m ls
 |_=>none
def C4F:Bp→Option Nat:=fun f=>match f with
 |197=>some 0
 |_=>none
def A1U:Env Ty6 A4:=mk6 B1Q C4F (lkE [(0,[2,3]),(1,[11,12,13,14,15]),(2,[0,5,16,17,18]),(3,[4,19]),(4,[19,20]),(5,[4]),(7,[24,25,26]),(8,[8,27,28,29]),(9,[30]),(10,[6,10,21,22,23,24,31,32,33,34,35,36,37]),(11,[9,38])]) 39
def A73(x6:List Int)(gb:List Int)(fk:Int)(eL:Int):S6:=⟨[(6,.one (.sl .i32 x6 (some 120))),(21,.one (.sl .i32 gb (some 1013))),(22,.one (.int .i64 fk)),(23,.one (.int .i64 eL))],[120,1013]⟩
theorem C6o(n:Nat)(a0:List UInt8):A2 A1U n Ee [.str a0]=
  bif smS a0 then(bif decide ((((C4 a0).2:Nat):Int)<(Ai a0:Int))then(some (.tup [.str [],.int .i64 1]))else(C9 (lbC A1U (A0 Ee [1,1,1,1,0,1,0,0]) 10006 n) n (A73 [34] ((C4 a0).1) (Ai ((C4 a0).1):Int) 0) (A8 0 (B9 (B1 A1U n (A0 Ee [1,1,1,1,1])) (B2 A1U Tryz.f156.results.toList)))))else none:=by
 kernel_rfl
theorem C5Y(n:Nat)(x6:List Int)(gb:List Int)(fk:Int)(eL:Int)(K:Ex→S6→Option E6):lbC A1U (A0 Ee [1,1,1,1,0,1,0,0]) 10006 n (A73 x6 gb fk eL) K=
  bif decide (eL<fk)then(match idx gb eL with|none=>none|some y1=>(bif A3 (Ai x6+12) 4&&D2 y1 then(K .normal (A73 (K7 x6 (wrF y1)) gb fk (Ba .i64 (eL+1))))else none))else(K (.exit 0) ⟨[(6,.one (.sl .i32 x6 (some 120))),(21,.one (.sl .i32 gb (some 1013))),(22,.one (.int .i64 fk)),(23,.one (.int .i64 eL)),(24,.one (.bool (decide (eL<fk))))],[120,1013]⟩):=by
 kernel_rfl
theorem C5n(n:Nat)(x6:List Int)(gb:List Int)(fk:Int)(eL:Int)(jC:Bool):(A8 0 (B9 (B1 A1U n (A0 Ee [1,1,1,1,1])) (B2 A1U Tryz.f156.results.toList))) (.exit 0) ⟨[(6,.one (.sl .i32 x6 (some 120))),(21,.one (.sl .i32 gb (some 1013))),(22,.one (.int .i64 fk)),(23,.one (.int .i64 eL)),(24,.one (.bool jC))],[120,1013]⟩=
  bif A3 (Ai x6+1) 4 then(bif D0 (x6++[34])then(some (.tup [.str ((I4 (x6++[34])).1),.int .i64 0]))else none)else none:=by
 kernel_rfl
def B35:T6:=fun f ls=>match f with
 |52=>S223 ls
 |202=>B2k ls
 |_=>none
def A0w:Env Ty6 A4:=mk6 B35 noC (lkE [(0,[2,3]),(1,[9,10,11,12,13,14]),(2,[0,5,15,16,17]),(3,[4,18]),(4,[18]),(6,[19,20,21]),(7,[23,24]),(8,[22,25,26,27,28,29]),(9,[8,30,31,32]),(10,[4,6,7,22,33,34])]) 35
def A8S(x4:List Int)(x6:List UInt8)(x7:Int):S6:=⟨[(4,.one (.sl .i32 x4 (some 1012))),(6,.one (.str x6)),(7,.one (.int .i64 x7))],[1012]⟩
theorem B2f(n:Nat)(a0:List UInt8):A2 A0w n Ed [.str a0]=
  bif A3 (Ai a0) 1 then(bif isB (Co (fun(c:UInt8)=>(c.toNat:Int)) a0)&&smL (Co (fun(c:UInt8)=>(c.toNat:Int)) a0)then(bif(((C4 (toB (Co (fun(c:UInt8)=>(c.toNat:Int)) a0))).2:Nat):Int) !=(Ai a0:Int)then(some (.tup [.str [],.int .i64 1]))else(C9 (lbC A0w (A0 Ed [1,1,1,1,0,1,0,0]) 10006 n) n (A8S ((C4 (toB (Co (fun(c:UInt8)=>(c.toNat:Int)) a0))).1) [34] 0) (A8 0 (B9 (B1 A0w n (A0 Ed [1,1,1,1,1])) (B2 A0w Tryz.f164.results.toList)))))else none)else none:=by
 kernel_rfl
theorem C5T(n:Nat)(x4:List Int)(x6:List UInt8)(x7:Int)(K:Ex→S6→Option E6):lbC A0w (A0 Ed [1,1,1,1,0,1,0,0]) 10006 n (A8S x4 x6 x7) K=
  bif decide (x7<(Ai x4:Int))then(match idx x4 x7 with|none=>none|some y1=>(bif D2 y1 then(bif decide (Ai x6+Ai (B3 (wrF y1))≤9223372036854775807)then(K .normal (A8S x4 (x6++(B3 (wrF y1))) (Ba .i64 (x7+1))))else none)else none))else(K (.exit 0) ⟨[(4,.one (.sl .i32 x4 (some 1012))),(6,.one (.str x6)),(7,.one (.int .i64 x7)),(22,.one (.bool (decide (x7<(Ai x4:Int)))))],[1012]⟩):=by
 kernel_rfl
theorem C1I(n:Nat)(x4:List Int)(x6:List UInt8)(x7:Int)(fk:Bool):(A8 0 (B9 (B1 A0w n (A0 Ed [1,1,1,1,1])) (B2 A0w Tryz.f164.results.toList))) (.exit 0) ⟨[(4,.one (.sl .i32 x4 (some 1012))),(6,.one (.str x6)),(7,.one (.int .i64 x7)),(22,.one (.bool fk))],[1012]⟩=
  bif decide (Ai x6+Ai [34]≤9223372036854775807)then(some (.tup [.str (x6++[34]),.int .i64 0]))else none:=by
 kernel_rfl
end Go.Aev.Bv
namespace Go.Aev.Bv
open Go.Lib
theorem A7S{l:List UInt8}:V8 l=true↔((Bf l).1=65533∧(Bf l).2=1):=by simp[V8]
theorem B09(l:List UInt8):D2 ((Bf l).1:Int)=true:=by
 rw[decodeL_N];have h:=decodeN_valid l.length (l.getD 0 0).toNat (l.getD 1 0).toNat (l.getD 2 0).toNat (l.getD 3 0).toNat (UInt8.toNat_lt _);rw[V3];omega
theorem C15{c:Int}(h:D2 c=true):encodeRune c=toB (u8F c):=by
 rw[V3]at h;unfold encodeRune toB u8F;by_cases h1:c<128
 ·rw[encodeRuneZ_one (by omega) (by omega),if_pos h1]
 rw[if_neg h1];by_cases h2:c<2048
 ·rw[encodeRuneZ_two (by omega) (by omega),if_pos h2]
 rw[if_neg h2];by_cases h3:c<65536
 ·rw[encodeRuneZ_three (by omega),if_pos h3]
 ·rw[encodeRuneZ_four (by omega) (by omega),if_neg h3]
theorem B4X{l:List UInt8}(az:l≠[])(hv:V8 l=false):toB (u8F ((Bf l).1:Int))=l.take (Bf l).2:=by
 rw[←C15 (B09 l)];refine encode_decode l az (fun h=>?_);rw[A7S.2 h]at hv;cases hv
theorem B6o(a b:List Int):toB (a++b)=toB a++toB b:=by simp[toB]
theorem A0z(c:Int)(cs:List Int):B3 (c::cs)=toB (u8F c)++B3 cs:=by unfold B3;rw[Ce,B6o]
theorem A6v:B3 []=[]:=rfl
theorem Z0(l:List Int):(toB l).length=l.length:=by simp[toB]
theorem A0m{k:Nat}(h:k<256):(Dj k).toNat=k:=by simp[Nat.mod_eq_of_lt h]
theorem B5U{c:Int}(h:D2 c=true)(t:List UInt8):Bf (toB (u8F c)++t)=(c.toNat,(u8F c).length)∧V8 (toB (u8F c)++t)=false:=by
 rw[V3]at h;have cS:Bf (toB (u8F c)++t)=(c.toNat,(u8F c).length):=by
  rw[decodeL_N];unfold u8F;by_cases h1:c<128
  ·rw[if_pos h1];simp only[toB,Cn,Ew,Ct,Dd,Ey,Bl,Cb];rw[A0m (by omega),decodeN_ascii _ _ _ _ _ (by omega)]
  rw[if_neg h1];by_cases h2:c<2048
  ·rw[if_pos h2];simp only[toB,Cn,Ew,Ct,Dd,Ey,Fo,Bl,Cb];rw[A0m (by omega),A0m (by omega)];unfold decodeN;rw[if_neg (by omega),if_pos (by omega),if_pos (by omega)];exact Fh (by simp only;omega) rfl
  rw[if_neg h2];by_cases h3:c<65536
  ·rw[if_pos h3];simp only[toB,Cn,Ew,Ct,Dd,Ey,Fo,Bl,Cb];rw[A0m (by omega),A0m (by omega),A0m (by omega)];unfold decodeN;rw[if_neg (by omega),if_neg (by omega),if_pos (by omega),if_pos (by omega)];exact Fh (by simp only;omega) rfl
  ·rw[if_neg h3];simp only[toB,Cn,Ew,Ct,Dd,Ey,Fo,Bl,Cb];rw[A0m (by omega),A0m (by omega),A0m (by omega),A0m (by omega)];unfold decodeN;rw[if_neg (by omega),if_neg (by omega),if_neg (by omega),if_pos (by omega),if_pos (by omega)];exact Fh (by simp only;omega) rfl
 refine⟨cS,?_⟩;cases hb:V8 (toB (u8F c)++t)with
 |false=>rfl
 |true=>
  have:=A7S.1 hb;rw[cS]at this;dsimp only at this;have hl:(u8F c).length≠1:=by
   unfold u8F;rw[if_neg (by omega)];split
   ·simp
   ·split<;>simp
  exact absurd this.2 hl
theorem C92:∀(n m:Nat)(l:List UInt8),l.length≤n→l.length≤m→A1l n l=A1l m l:=by
 intro n
 induction n with
 |zero=>
  intro m l h1 h2;have:l=[]:=Es (by omega);subst this;cases m<;>simp[A1l]
 |succ n ih=>
  intro m l h1 h2;cases m with
  |zero=>
   have:l=[]:=Es (by omega);subst this;simp[A1l]
  |succ m=>
   unfold A1l;by_cases az:l=[]
   ·rw[if_pos az,if_pos az]
   ·have hw:=Dg l;have hl:0<l.length:=De.2 az;rw[if_neg az,if_neg az,ih m (l.drop (Bf l).2) (by rw[Bi];omega) (by rw[Bi];omega)]
theorem A9y:C4 []=([],0):=rfl
theorem B1z{l:List UInt8}(h:V8 l=true):C4 l=([],0):=by
 unfold C4;cases hl:l.length with
 |zero=>rfl
 |succ n=>
  unfold A1l;rw[if_pos h];split<;>rfl
theorem A8x{l:List UInt8}(az:l≠[])(h:V8 l=false):C4 l=(((Bf l).1:Int)::(C4 (l.drop (Bf l).2)).1,(Bf l).2+(C4 (l.drop (Bf l).2)).2):=by
 have hl:0<l.length:=De.2 az;have hw:=Dg l;obtain⟨n,hn⟩:∃ n,l.length=n+1:=⟨l.length - 1,by omega⟩
 conv=>lhs;unfold C4
 rw[hn];unfold A1l;rw[if_neg az,h];unfold C4;rw[C92 n (l.drop (Bf l).2).length _ (by rw[Bi];omega) (Bz _)];rfl
theorem decF_enc:∀(n:Nat)(l:List UInt8),l.length≤n→B3 (C4 l).1=l.take (C4 l).2∧(C4 l).1.all D2=true∧(C4 l).2≤l.length∧(C4 l).1.length≤(C4 l).2:=by
 intro n
 induction n with
 |zero=>
  intro l hl;have:l=[]:=Es (by omega);subst this;simp[A9y,A6v]
 |succ n ih=>
  intro l hl;by_cases az:l=[]
  ·subst az;simp[A9y,A6v]
  ·cases hb:V8 l with
   |true=>rw[B1z hb];simp[A6v]
   |false=>
    have hw:=Dg l;have aQ:=Eu l az;have di:0<l.length:=De.2 az;obtain⟨i1,i2,i3,i4⟩:=ih (l.drop (Bf l).2) (by rw[Bi];omega);rw[Bi]at i3;rw[A8x az hb];dsimp only;refine⟨?_,?_,by omega,by simp;omega⟩
    ·rw[A0z,B4X az hb,i1,List.take_add]
    ·rw[Cf,B09,i2];rfl
theorem B8A:∀(cs:List Int),cs.all D2=true→C4 (B3 cs)=(cs,(B3 cs).length)
 |[],_=>rfl
 |c::cs,h=>by
  rw[Cf]at h;simp only[Bw]at h;have ih:=B8A cs h.2;obtain⟨d1,d2⟩:=B5U h.1 (B3 cs);have hu:=A5H c;rw[A0z];have az:toB (u8F c)++B3 cs≠[]:=by
   intro e;have:=congrArg Ai e;rw[Br,Z0,Cb]at this;omega
  have qR:(toB (u8F c)++B3 cs).drop (u8F c).length=B3 cs:=by
   rw[List.drop_append_of_le_length (by rw[Z0];omega),List.drop_of_length_le (by rw[Z0];omega)];rfl
  rw[A8x az d2,d1];dsimp only;rw[qR,ih];have hc:=(V3.1 h.1);rw[Br,Z0];have:((c.toNat:Nat):Int)=c:=by omega
  rw[this]
theorem C0b(cs:List Int):cs.length≤(B3 cs).length:=by
 induction cs with
 |nil=>simp
 |cons c cs ih=>have:=A5H c;rw[A0z,Br,Z0];simp;omega
end Go.Aev.Bv
namespace Go.Aev.Bv
open Go.Proofs Go.Lib
theorem A5a{s:List UInt8}:smS s=true↔s.length≤67108864:=by simp[smS]
theorem C0Y(s:List UInt8)(i:Nat)(h:i<s.length):dgF (s.drop i)=(((Bf (s.drop i)).1:Int),((Bf (s.drop i)).2:Int)):=by
 unfold dgF decodeGoB Bf;have:¬(Fs (s.drop i).toArray).size=0:=by simp[Gw];omega
 rw[if_neg this]
def A0r(out:List Int)(i:Nat)(r:List Int×Nat):Option E6:=some (.tup [.sl .i32 (out++r.1) (some 1),.int .i64 ((i+r.2:Nat):Int)])
theorem C3W(s:List UInt8)(hs:smS s=true)(n:Nat)(hn:s.length<n):A2 A10 n Dz [.str s]=some (.tup [.sl .i32 (C4 s).1 (some 1),.int .i64 ((C4 s).2:Nat)]):=by
 have au:=A5a.1 hs;rw[D03];refine(H2 (fun p:List Int×Nat=>A60 s p.1 s p.2) (fun p=>p.1.length≤p.2∧p.2≤s.length) (fun p=>s.length - p.2) (fun p=>A0r p.1 p.2 (C4 (s.drop p.2))) ?_ n ([],0) (by simp) (by simp only;omega)).trans (by simp[A0r]);rintro⟨out,i⟩ ⟨h1,h2⟩ K aV bA aN;dsimp only at h1 h2 aN ⊢;rw[B96];by_cases h:i<s.length
 ·have az:s.drop i≠[]:=by
   intro e;have:=congrArg Ai e;rw[Bi,Cb]at this;omega
  have hd:Dh ⟨s.toArray⟩ i=Bf (s.drop i):=by rw[←decodeL_drop]
  have hw:=Dg (s.drop i);have aQ:=Eu (s.drop i) az;rw[Bi]at aQ;rw[decide_eq_true h,cond_true,hd,A59 (by omega)];dsimp only;rw[C0Y s i h,G5.2 (by omega)];cases hb:V8 (s.drop i)with
  |true=>
   obtain⟨b1,b2⟩:=A7S.1 hb;rw[beqT (by omega:((Bf (s.drop i)).1:Int)=65533)];dsimp only;rw[beqT (by omega:((Bf (s.drop i)).2:Int)=1),B1z hb];refine(bA _).trans ?_;simp only[A0r,Cd,Ga];rfl
  |false=>
   have bJ:=aN (out++[((Bf (s.drop i)).1:Int)],i+(Bf (s.drop i)).2) ⟨by simp;omega,by simp only;omega⟩ (by simp only;omega);dsimp only at bJ;have ew:A0r (out++[((Bf (s.drop i)).1:Int)]) (i+(Bf (s.drop i)).2) (C4 (s.drop (i+(Bf (s.drop i)).2)))=A0r out i (C4 (s.drop i)):=by
    rw[A8x az hb,Df];unfold A0r;simp[Fj]
   rw[ew]at bJ;by_cases b1:(Bf (s.drop i)).1=65533
   ·have b2:(Bf (s.drop i)).2≠1:=fun b2=>by rw[A7S.2 ⟨b1,b2⟩]at hb;cases hb
    rw[beqT (by omega:((Bf (s.drop i)).1:Int)=65533)];dsimp only;rw[beqF (by omega:((Bf (s.drop i)).2:Int)≠1)];exact bJ
   ·rw[beqF (by omega:((Bf (s.drop i)).1:Int)≠65533)];exact bJ
 ·rw[decide_eq_false h,cond_false,aV,C5I,Bn (by omega),A9y];have:i=s.length:=by omega
  subst this;simp[A0r]
theorem C3l(a b:List Int)(ha:A3 a.length 1=true)(hb:A3 b.length 1=true)(n:Nat)(hn:a.length<n):A2 A1J n Eb [.sl .u8 a none,.sl .u8 b none]=some (.one (.bool (eqI a b))):=by
 have h1:=G5.1 ha;rw[C4Z];by_cases hl:a.length=b.length
 ·rw[Y8 (by omega:(a.length:Int)=(b.length:Int)),cond_false];refine(H2 (fun i:Nat=>A8r a b i) (fun i=>i≤a.length) (fun i=>a.length - i) (fun i=>(some (.one (.bool (a.drop i==b.drop i))):Option E6)) ?_ n 0 (Bm _) (by omega)).trans (by simp[eqI]);intro i hi K aV bA aN;rw[C4M];by_cases h:i<a.length
  ·have h2:i<b.length:=by omega
   rw[decide_eq_true (by omega:(i:Int)<(a.length:Int)),cond_true,D4 h,D4 h2];dsimp only;rw[Cc h,Cc h2,I2 (by omega)];by_cases he:a[i]=b[i]
   ·rw[Y8 he,cond_false,aN (i+1) (by omega) (by omega),Gt,he,BEq.rfl,Ft]
   ·rw[V5 he,cond_true];refine(bA _).trans ?_;have:(a[i]::a.drop (i+1)==b[i]::b.drop (i+1))=false:=by rw[Gt,beq_false_of_ne he];rfl
    rw[this];rfl
  ·rw[decide_eq_false (by omega:¬(i:Int)<(a.length:Int)),cond_false,aV,C90,Bn (by omega),Bn (by omega)];rfl
 ·rw[V5 (by omega:(a.length:Int)≠(b.length:Int)),cond_true];have:eqI a b=false:=by
   unfold eqI;exact beq_false_of_ne fun e=>hl (by rw[e])
  rw[this]
theorem A1i{l:List Int}:isB l=true↔∀ x∈l,0≤x∧x≤255:=by simp[isB]
def A3Y:Int→List Int→Int
 |n,[]=>n
 |n,c::r=>A3Y (n*64+c % 64) r
theorem C5G:∀(l:List Int)(h1:1≤l.length)(h4:l.length≤4)(hB:∀ x∈l,0≤x∧x≤255)(q:Int)(hq:q=match l.length with|1=>128|2=>32|3=>16|_=>8),
  A3Y (l[0] % q) (l.drop 1)=H5 l∧0≤H5 l∧H5 l<16777216
 |[a],_,_,hB,q,hq=>by subst hq;have:=hB a (by simp);simp[A3Y,H5];omega
 |[a,b],_,_,hB,q,hq=>by subst hq;have:=hB a (by simp);simp[A3Y,H5];omega
 |[a,b,c],_,_,hB,q,hq=>by subst hq;have:=hB a (by simp);simp[A3Y,H5];omega
 |[a,b,c,d],_,_,hB,q,hq=>by subst hq;have:=hB a (by simp);simp[A3Y,H5];omega
 |_::_::_::_::_::_,_,h4,_,_,_=>by simp at h4
theorem D0S(l:List Int)(hb:isB l=true)(h1:1≤l.length)(h4:l.length≤4)(n:Nat)(hn:4<n):A2 A17 n Ec [.sl .u8 l none]=some (.one (.int .i32 (H5 l))):=by
 have hB:=A1i.1 hb;have hm:∀(i:Nat)(h:i<l.length),0≤l[i]∧l[i]≤255:=fun i h=>hB _ (Bt h);have ji:idx l 0=some l[0]:=D4 (i:=0) (by omega);rw[C8E,ji];dsimp only;obtain⟨q,hq,Ak,wu⟩:∃ q:Int,idx [0,128,32,16,8] (l.length:Int)=some q∧8≤q∧q=(match l.length with|1=>128|2=>32|3=>16|_=>8):=by
  have:l.length=1∨l.length=2∨l.length=3∨l.length=4:=by omega
  rcases this with h|h|h|h<;>rw[h]<;>exact⟨_,rfl,by decide,rfl⟩
 have mO:=hm 0 (by omega);rw[hq];dsimp only;rw[decide_eq_false (by omega:¬q=0),P6 (by omega) (by omega),Ei (by omega)];show C9 _ n _ _=_;have je:∀ j:Nat,j≤4→(64:Int)^j≤64^4:=fun j hj=>by
  have:j=0∨j=1∨j=2∨j=3∨j=4:=by omega
  rcases this with rfl|rfl|rfl|rfl|rfl<;>decide
 refine(H2 (fun p:Int×Nat=>A8I l p.1 p.2) (fun p=>1≤p.2∧p.2≤l.length∧0≤p.1∧p.1<4*64^p.2) (fun p=>l.length - p.2) (fun p=>(some (.one (.int .i32 (Ba .i32 (A3Y p.1 (l.drop p.2))))):Option E6)) ?_ n (l[0] % q,1) ?_ (by simp only;omega)).trans ?_
 ·rintro⟨a,j⟩ ⟨j1,j2,a1,a2⟩ K aV bA aN;dsimp only at j1 j2 a1 a2 aN ⊢;have hp:=je j (by omega);rw[C3A];by_cases h:j<l.length
  ·have hj:=hm j h;rw[decide_eq_true (by omega:(j:Int)<(l.length:Int)),cond_true,D4 h];dsimp only;rw[P6 (n:=l[j]) (by omega) (by omega),Ei (by omega),P6 (n:=a*64) (by omega) (by omega),P6 (by omega) (by omega),I2 (by omega),R8 h];refine aN (a*64+l[j] % 64,j+1) ⟨by simp only;omega,by simp only;omega,by simp only;omega,?_⟩ (by simp only;omega);show a*64+l[j] % 64<4*64^(j+1);rw[Fq];omega
  ·rw[decide_eq_false (by omega:¬(j:Int)<(l.length:Int)),cond_false,aV,B92,Bn (by omega)];rfl
 ·refine⟨Bz _,h1,by simp only;exact Ej _ (by omega),?_⟩;have:l[0] % q<q:=Ek _ (by omega);have l9:q≤128:=by
   rw[wu];split<;>decide
  simp only;omega
 ·have yr:l.length=1∨l.length=2∨l.length=3∨l.length=4:=by omega
  have ew:=C5G l h1 h4 hB q wu;dsimp only;rw[ew.1,w32 (by omega) (by omega)]
theorem C5t{c:Int}(h:D2 c=true):isB (u8F c)=true:=by
 rw[V3]at h;rw[A1i];intro x hx;unfold u8F at hx;split at hx
 ·simp at hx;omega
 ·split at hx
  ·simp at hx;omega
  ·split at hx
   ·simp at hx;omega
   ·simp at hx;omega
theorem B6e:∀{a b:List Int},isB a=true→isB b=true→toB a=toB b→a=b
 |[],[],_,_,_=>rfl
 |[],_::_,_,_,h=>by simp[toB]at h
 |_::_,[],_,_,h=>by simp[toB]at h
 |x::a,y::b,ha,hb,h=>by
  rw[A1i]at ha hb;have hx:=ha x (by simp);have hy:=hb y (by simp);simp only[toB,Cn,Bq]at h;have h1:=congrArg Di h.1;rw[A0m (by omega),A0m (by omega)]at h1;rw[B6e (A1i.2 fun z hz=>ha z (by simp[hz])) (A1i.2 fun z hz=>hb z (by simp[hz])) h.2,show x=y by omega]
theorem C7B{c:Int}(h:D2 c=true):H5 (u8F c)=c:=by
 rw[V3]at h;unfold u8F;by_cases h1:c<128
 ·rw[if_pos h1];simp only[H5];omega
 rw[if_neg h1];by_cases h2:c<2048
 ·rw[if_pos h2];simp only[H5];omega
 rw[if_neg h2];by_cases h3:c<65536
 ·rw[if_pos h3];simp only[H5];omega
 ·rw[if_neg h3];simp only[H5];omega
theorem B6I{l:List Int}(h:isB l=true)(k:Nat):isB (l.take k)=true:=A1i.2 fun x hx=>A1i.1 h x (List.mem_of_mem_take hx)
theorem C73{l:List Int}(h:isB l=true)(k:Nat):isB (l.drop k)=true:=A1i.2 fun x hx=>A1i.1 h x (Gl hx)
theorem D0z(l:List Int)(k:Nat):toB (l.take k)=(toB l).take k:=by simp[toB,List.map_take]
theorem D1c(l:List Int)(k:Nat):toB (l.drop k)=(toB l).drop k:=by simp[toB,Fm]
theorem C2H{l:List Int}:toB l=[]↔l=[]:=by simp[toB]
def hit(l:List Int)(k:Nat):Prop:=P3 (H5 (l.take k))=l.take k
theorem D0M{l:List Int}{k:Nat}(h1:1≤k)(hk:k≤l.length)(h:hit l k):V8 (toB l)=false∧Bf (toB l)=((H5 (l.take k)).toNat,k)∧0≤H5 (l.take k):=by
 unfold hit at h;have au:(l.take k).length=k:=by rw[Cp];omega
 have hv:D2 (H5 (l.take k))=true:=by
  cases hv:D2 (H5 (l.take k))with
  |true=>rfl
  |false=>
   unfold P3 at h;rw[hv]at h;have:=congrArg Ai h;rw[au]at this;simp at this;omega
 have hp:P3 (H5 (l.take k))=u8F (H5 (l.take k)):=by unfold P3;rw[hv];rfl
 rw[hp]at h;have hs:toB l=toB (u8F (H5 (l.take k)))++toB (l.drop k):=by rw[h, ←B6o,Ev]
 obtain⟨d1,d2⟩:=B5U hv (toB (l.drop k));have fI:(u8F (H5 (l.take k))).length=k:=by rw[h,au]
 rw[←hs]at d1 d2;rw[fI]at d1;exact⟨d2,d1,by have:=V3.1 hv;omega⟩
theorem C43{l:List Int}(hB:isB l=true)(az:l≠[])(hb:V8 (toB l)=false):hit l (Bf (toB l)).2∧1≤(Bf (toB l)).2∧(Bf (toB l)).2≤4∧(Bf (toB l)).2≤l.length:=by
 have qS:toB l≠[]:=fun e=>az (C2H.1 e);have hv:=B09 (toB l);have he:=B4X qS hb;have hw:=Dg (toB l);have aQ:=Eu (toB l) qS;rw[Z0]at aQ;rw[←D0z]at he;have dT:=B6e (C5t hv) (B6I hB _) he;have hu:=A5H ((Bf (toB l)).1:Int);have hl:(l.take (Bf (toB l)).2).length=(Bf (toB l)).2:=by rw[Cp];omega
 rw[dT,hl]at hu;refine⟨?_,hw,by omega,aQ⟩;unfold hit;rw[←dT,C7B hv];unfold P3;rw[if_pos hv]
theorem B1q(l:List Int)(hB:isB l=true)(h1:1≤l.length)(hr:A3 l.length 1=true)(n:Nat)(hn:5<n):A2 A02 n Dc [.sl .u8 l none]=some (.tup [.int .i32 (P8 l).1,.int .i64 (P8 l).2]):=by
 have au:=G5.1 hr;have az:l≠[]:=fun e=>by subst e;simp at h1
 rw[C6Q];refine(H2 (fun k:Nat=>A4y l k) (fun k=>1≤k∧k≤5∧k≤l.length+1∧∀ j,1≤j→j<k→¬hit l j) (fun k=>5 - k) (fun k=>(some (.tup [.int .i32 (P8 l).1,.int .i64 (P8 l).2]):Option E6)) ?_ n 1 ⟨Bz _,by omega,by omega,fun j h1 h2=>by omega⟩ (by omega));intro k ⟨k1,k2,k3,cP⟩ K aV bA aN;rw[C5m];have gD:l.length<k∨4<k→P8 l=(0,0):=fun h=>by
  unfold P8;cases hb:V8 (toB l)with
  |true=>rfl
  |false=>
   obtain⟨g1,g2,g3,g4⟩:=C43 hB az hb;exact absurd g1 (cP _ g2 (by omega))
 by_cases h4:k≤4
 ·rw[decide_eq_true (by omega:(k:Int)≤4)];by_cases hk:k≤l.length
  ·have hs:sub l 0 (k:Int)=some (l.take k):=by
    have:=A4w (l:=l) (lo:=0) (hi:=k) (Bm _) hk;simpa using this
   have gv:(l.take k).length=k:=by rw[Cp];omega
   rw[decide_eq_true (by omega:(k:Int)≤(l.length:Int)),hs];dsimp only;rw[B6I hB k,decide_eq_true (by rw[gv];exact k1:1≤(l.take k).length),decide_eq_true (by rw[gv];exact h4:(l.take k).length≤4),I2 (by omega)];have cY:¬hit l k→K .normal (A4y l ((k+1:Nat):Int))=some (.tup [.int .i32 (P8 l).1,.int .i64 (P8 l).2]):=fun yu=>
    aN (k+1) ⟨by omega,by omega,by omega,fun j j1 j2=>by
     by_cases hj:j=k
     ·subst hj;exact yu
     ·exact cP j j1 (by omega)⟩ (by omega)
   by_cases iN:(P3 (H5 (l.take k))).length=k
   ·rw[beqT (by omega:((P3 (H5 (l.take k))).length:Int)=(k:Int)),G5.2 (by omega),G5.2 (by omega)];by_cases hh:hit l k
    ·obtain⟨g1,g2,g3⟩:=D0M k1 hk hh;have he:eqI (P3 (H5 (l.take k))) (l.take k)=true:=by unfold eqI;rw[show P3 (H5 (l.take k))=l.take k from hh];exact BEq.rfl
     rw[he];refine(bA _).trans ?_;unfold P8;rw[g1,g2];dsimp only;have:(((H5 (l.take k)).toNat:Nat):Int)=H5 (l.take k):=by omega
     rw[this];rfl
    ·have he:eqI (P3 (H5 (l.take k))) (l.take k)=false:=by unfold eqI;exact beq_false_of_ne hh
     rw[he];exact cY hh
   ·rw[beqF (by omega:((P3 (H5 (l.take k))).length:Int)≠(k:Int))];exact cY (fun hh=>iN (by rw[show P3 (H5 (l.take k))=l.take k from hh,gv]))
  ·rw[decide_eq_false (by omega:¬(k:Int)≤(l.length:Int)),gD (.inl (by omega))];exact(aV _ _).trans (C57 n l k _)
 ·rw[decide_eq_false (by omega:¬(k:Int)≤4),gD (.inr (by omega))];exact(aV _ _).trans (C6b n l k)
theorem C7G(l:List Int)(hB:isB l=true)(hl:smL l=true)(n:Nat)(hn:l.length<n):A2 A0G n Cy [.sl .u8 l none]=some (.tup [.sl .i32 (C4 (toB l)).1 (some 1),.int .i64 ((C4 (toB l)).2:Nat)]):=by
 have au:=Z1 hl;rw[C8G];refine(H2 (fun p:List Int×Nat=>A6y l p.1 p.2) (fun p=>p.1.length≤p.2∧p.2≤l.length) (fun p=>l.length - p.2) (fun p=>A0r p.1 p.2 (C4 (toB (l.drop p.2)))) ?_ n ([],0) (by simp) (by simp only;omega)).trans (by simp[A0r]);rintro⟨out,i⟩ ⟨h1,h2⟩ K aV bA aN;dsimp only at h1 h2 aN ⊢;rw[C9h];by_cases h:i<l.length
 ·have dm:(l.drop i).length=l.length - i:=Bi;have az:toB (l.drop i)≠[]:=fun e=>by
   have:=congrArg Ai e;rw[Z0,dm,Cb]at this;omega
  rw[decide_eq_true (by omega:(i:Int)<(l.length:Int)),cond_true,A59 (by omega)];dsimp only;rw[C73 hB i,decide_eq_true (by omega:1≤(l.drop i).length),G5.2 (by omega),G5.2 (by omega)];have hw:=Dg (toB (l.drop i));have aQ:=Eu (toB (l.drop i)) az;rw[Z0,dm]at aQ;cases hb:V8 (toB (l.drop i))with
  |true=>
   have:P8 (l.drop i)=(0,0):=by unfold P8;rw[hb];rfl
   rw[this,B1z hb];refine Cr (aV _ _) ((C24 n l out i 0 0 true).trans ?_);simp[A0r]
  |false=>
   have:P8 (l.drop i)=(((Bf (toB (l.drop i))).1:Int),((Bf (toB (l.drop i))).2:Int)):=by unfold P8;rw[hb];rfl
   rw[this];dsimp only;rw[beqF (by omega:((Bf (toB (l.drop i))).2:Int)≠0),A0N (by omega)];refine Cr (b:=K .normal (A6y l (out++[((Bf (toB (l.drop i))).1:Int)]) ((i+(Bf (toB (l.drop i))).2:Nat):Int))) rfl ?_;refine(aN (out++[((Bf (toB (l.drop i))).1:Int)],i+(Bf (toB (l.drop i))).2) ⟨by simp;omega,by simp only;omega⟩ (by simp only;omega)).trans ?_;dsimp only;rw[A8x az hb, ←D1c,Df];unfold A0r;simp[Fj]
 ·rw[decide_eq_false (by omega:¬(i:Int)<(l.length:Int)),cond_false,aV,C0Q,Bn (by omega),show toB []=[]from rfl,A9y];simp[A0r]
theorem C0i(x:Nat)(h:x<2147483648):bits .and .i32 (x:Int) 1023=((x % 1024:Nat):Int):=by
 show IntKind.i32.wrap ((Fc 32 (x:Int)&&& Fc 32 ((1023:Nat):Int)).toNat:Int)=_;rw[Gy,ofInt_u32 x (by omega),ofInt_u32 1023 (by omega),show(1023:Nat)=2^10 - 1 from rfl,Fz];exact wrap_i32_small _ (by omega)
theorem C22(x:Nat)(h:x<2147483648):bits .and .i64 (x:Int) 15=((x % 16:Nat):Int):=by
 show IntKind.i64.wrap ((Fc 64 (x:Int)&&& Fc 64 ((15:Nat):Int)).toNat:Int)=_;rw[Gy,ofInt_u64 x (by omega),ofInt_u64 15 (by omega),show(15:Nat)=2^4 - 1 from rfl,Fz];exact wrap_i64_small _ (by omega)
theorem B1k{c:Int}(h1:65536≤c)(h2:c≤1114111):D7 c=(55296+(c - 65536) / 1024,56320+(c - 65536) % 1024,true):=by
 unfold D7;rw[decide_eq_false (by omega:¬c<65536),decide_eq_false (by omega:¬1114111<c)];rfl
theorem A4U{c:Int}(h:c<65536∨1114111<c):D7 c=(0,0,false):=by
 unfold D7;rcases h with h|h
 ·rw[decide_eq_true h];rfl
 ·rw[decide_eq_true h,Bool.or_true];rfl
theorem C3X(c:Int)(n:Nat):A2 A98 n Tryz.f222 [.int .i32 c]=some (.tup [.int .i32 (D7 c).1,.int .i32 (D7 c).2.1,.bool (D7 c).2.2]):=by
 rw[C3t];by_cases h1:c<65536
 ·rw[decide_eq_true h1,A4U (.inl h1)];rfl
 ·rw[decide_eq_false h1];by_cases h2:1114111<c
  ·rw[decide_eq_true (show c>1114111 from h2),A4U (.inr h2)];rfl
  ·rw[decide_eq_false (show¬c>1114111 from h2),B1k (by omega) (by omega),w32 (n:=c - 65536) (by omega) (by omega)];have e:c - 65536=(((c - 65536).toNat:Nat):Int):=by omega
   have e2:bits .and .i32 (c - 65536) 1023=(c - 65536) % 1024:=by
    rw[e,C0i _ (by omega)];omega
   have e3:(c - 65536) / 2^(Bg 10)=(c - 65536) / 1024:=rfl;rw[e2,e3,w32 (n:=55296+_) (by omega) (by omega),w32 (n:=56320+_) (by omega) (by omega)];rfl
theorem C1S(c:Int)(n:Nat):A2 B2D n Tryz.f227 [.int .i32 c]=some (.tup [.int .i32 (D7 c).1,.int .i32 (D7 c).2.1,.bool (D7 c).2.2]):=by
 rw[C87];by_cases h1:c<65536
 ·rw[decide_eq_true h1,A4U (.inl h1)];rfl
 ·rw[decide_eq_false h1];by_cases h2:1114111<c
  ·rw[decide_eq_true (show c>1114111 from h2),A4U (.inr h2)];rfl
  ·rw[decide_eq_false (show¬c>1114111 from h2),B1k (by omega) (by omega),w32 (n:=c - 65536) (by omega) (by omega)];rw[Fb (by omega),Ei (by omega),w32 (n:=(c - 65536) / 1024) (by omega) (by omega),w32 (n:=55296+_) (by omega) (by omega),w32 (n:=56320+_) (by omega) (by omega)];rfl
def digT:List UInt8:=[48,49,50,51,52,53,54,55,56,57,65,66,67,68,69,70]
theorem C2o:∀ i:Fin 16,((digT[i.1]'i.2).toNat:Int)=Q7 i.1:=by decide
def Y0(c:Int):List Int:=[Q7 (c / 4096 % 16),Q7 (c / 256 % 16),Q7 (c / 16 % 16),Q7 (c % 16)]
theorem B4E(c:Int):H0 c=[92,117]++Y0 c:=rfl
theorem B9Q{c:Int}(h0:0≤c)(h1:c≤65535)(j:Nat)(hj:j<4):(Y0 c)[j]'(by simpa [Y0]using hj)=Q7 (c / 2^(12 - 4*j) % 16):=by
 have:j=0∨j=1∨j=2∨j=3:=by omega
 rcases this with rfl|rfl|rfl|rfl
 ·rfl
 ·rfl
 ·rfl
 ·show Q7 (c % 16)=Q7 (c / 2^0 % 16);rw[Int.pow_zero,Int.ediv_one]
theorem C3s(k:Nat):(0:Int)<2^k:=Gv (by omega)
theorem B4g{c:Int}(h0:0≤c)(h1:c≤65535)(k:Nat):0≤c / 2^k∧c / 2^k≤65535:=by
 have hp:=C3s k;exact⟨Int.ediv_nonneg h0 (by omega),Int.le_trans (Int.ediv_le_self _ h0) h1⟩
theorem B6Z{c:Int}(h0:0≤c)(h1:c≤65535)(k:Nat):∃ d:Nat,∃ hd:d<16,bits .and .i32 (c / 2^k) 15=(d:Int)∧bits .and .i64 (c / 2^k) 15=(d:Int)∧((digT[d]'hd).toNat:Int)=Q7 (c / 2^k % 16):=by
 obtain⟨b0,b1⟩:=B4g h0 h1 k;have e:c / 2^k=(((c / 2^k).toNat:Nat):Int):=by omega
 refine⟨(c / 2^k).toNat % 16,Nat.mod_lt _ (by omega),?_,?_,?_⟩
 ·rw[e,and15_i32 _ (by omega)];rfl
 ·rw[e,C22 _ (by omega)];rfl
 ·rw[C2o ⟨(c / 2^k).toNat % 16,Nat.mod_lt _ (by omega)⟩];dsimp only
  congr 1
  omega
theorem C9Q(l:List Int)(c:Int)(hr:A3 (l.length+6) 4=true)(h0:0≤c)(h1:c≤65535)(n:Nat)(hn:5<n):A2 A2b n Dp [.sl .i32 l (some 0),.int .i32 c]=some (.one (.sl .i32 (K7 l (H0 c)) (some 0))):=by
 have au:=G5.1 hr;rw[D0N,A3E hr (by omega:l.length+2≤l.length+6),cond_true];have hD:(Y0 c).length=4:=rfl;have bL:A5i (l++[92,117]) c 12=A5i (l++[92,117]++(Y0 c).take 0) c (12 - 4*((0:Nat):Int)):=by rw[Gc,Cd];rfl
 rw[bL];refine(H2 (fun j:Nat=>A5i (l++[92,117]++(Y0 c).take j) c (12 - 4*(j:Int))) (fun j=>j≤4) (fun j=>4 - j) (fun j=>(some (.one (.sl .i32 (K7 l (H0 c)) (some 0))):Option E6)) ?_ n 0 (Bm _) (by omega));intro j hj K aV bA aN;rw[C97];by_cases h:j<4
 ·obtain⟨d,hd,e1,_,e3⟩:=B6Z h0 h1 (12 - 4*j);have fF:(12 - 4*(j:Int)).toNat=12 - 4*j:=by omega
  have hb:=A2g (digT[d]'hd);rw[decide_eq_true (by omega:12 - 4*(j:Int)≥0),decide_eq_true (by omega:12 - 4*(j:Int)≤31),fF,e1,show idx [48,49,50,51,52,53,54,55,56,57,65,66,67,68,69,70] (d:Int)=some (digT[d]'hd)from D4 (l:=digT) hd];dsimp only;have hl:(l++[92,117]++(Y0 c).take j).length=l.length+2+j:=by simp[hD];omega
  have hw:Ba .i64 (12 - 4*(j:Int) - 4)=12 - 4*((j+1:Nat):Int):=by rw[P6 (by omega) (by omega)];omega
  rw[hl,G5.2 (by omega),w32 (by omega) (by omega),hw,e3, ←B9Q h0 h1 j h];refine Cr ?_ (aN (j+1) (by omega) (by omega));rw[Cj (by omega:j<(Y0 c).length), ←Eh];rfl
 ·have:j=4:=by omega
  subst this;rw[decide_eq_false (by decide:¬(12:Int) - 4*((4:Nat):Int)≥0),cond_false,aV,C8x,Bu (by omega)];unfold K7;rw[B4E,Eh]
theorem B4e{d:Int}(h0:0≤d)(h1:d<16):48≤Q7 d∧Q7 d≤70:=by unfold Q7;split<;>omega
theorem C2q{x:Int}(h:x<128):toB (u8F x)=[Dj x.toNat]:=by unfold u8F;rw[if_pos h];rfl
theorem C0c{x:Int}(h:x<128):B3 [x]=[Dj x.toNat]:=by rw[A0z,C2q h,A6v];rfl
theorem C1Q(c:Int)(h0:0≤c)(h1:c≤65535)(n:Nat)(hn:5<n):A2 A13 n Do [.int .i32 c]=some (.one (.str (B3 (H0 c)))):=by
 rw[C0h];have hD:(Y0 c).length=4:=rfl;refine(H2 (fun j:Nat=>A7x c digT ([92,117]++B3 ((Y0 c).take j)) (12 - 4*(j:Int))) (fun j=>j≤4) (fun j=>4 - j) (fun j=>(some (.one (.str (B3 (H0 c)))):Option E6)) ?_ n 0 (Bm _) (by omega));intro j hj K aV bA aN;rw[C5w];by_cases h:j<4
 ·obtain⟨d,hd,_,e2,e3⟩:=B6Z h0 h1 (12 - 4*j);obtain⟨b0,b1⟩:=B4g h0 h1 (12 - 4*j);have fF:(12 - 4*(j:Int)).toNat=12 - 4*j:=by omega
  have hs:sub digT (d:Int) ((d+1:Nat):Int)=some [digT[d]'hd]:=by
   rw[A4w (by omega) (by have:digT.length=16:=rfl;omega)];have:d+1 - d=1:=by omega
   rw[this,Cc (l:=digT) hd];rfl
  have Al:=B4e (d:=c / 2^(12 - 4*j) % 16) (Ej _ (by omega)) (Ek _ (by omega));have aF:B3 [Q7 (c / 2^(12 - 4*j) % 16)]=[digT[d]'hd]:=by
   rw[C0c (by omega), ←e3];simp
  rw[decide_eq_true (by omega:12 - 4*(j:Int)≥0),decide_eq_true (by omega:12 - 4*(j:Int)≤31),fF,P6 (n:=c / _) (by omega) (by omega),e2,I2 (by omega),hs];dsimp only;have fI:=A2p ((Y0 c).take j);have Am:((Y0 c).take j).length≤4:=by rw[Cp];omega
  have hw:Ba .i64 (12 - 4*(j:Int) - 4)=12 - 4*((j+1:Nat):Int):=by rw[P6 (by omega) (by omega)];omega
  have dm:decide ((([92,117]:List UInt8)++B3 ((Y0 c).take j)).length+[digT[d]'hd].length≤9223372036854775807)=true:=by
   refine decide_eq_true ?_;rw[Br];simp only[Bl,Cb];omega
  rw[dm,hw];refine Cr ?_ (aN (j+1) (by omega) (by omega));rw[Cj (by omega:j<(Y0 c).length),A1F,B9Q h0 h1 j h,aF, ←Eh];rfl
 ·have:j=4:=by omega
  subst this;rw[decide_eq_false (by decide:¬(12:Int) - 4*((4:Nat):Int)≥0),cond_false,aV,C42,Bu (by omega),B4E,A1F];rfl
theorem A4g(c:Int):(H0 c).length=6:=rfl
theorem B47{c:Int}(h:(D7 c).2.2=true):(0≤(D7 c).1∧(D7 c).1≤65535)∧(0≤(D7 c).2.1∧(D7 c).2.1≤65535)∧65536≤c∧c≤1114111:=by
 by_cases h1:c<65536∨1114111<c
 ·rw[A4U h1]at h;cases h
 ·rw[B1k (by omega) (by omega)];dsimp only;omega
theorem B7E{c:Int}(h:c<65536):(D7 c).2.2=false:=by rw[A4U (.inl h)]
theorem B42{c:Int}(h:c≠34∧c≠92∧c≠8∧c≠9∧c≠10∧c≠12∧c≠13):wrF c=if(D7 c).2.2 then H0 (D7 c).1++H0 (D7 c).2.1 else if c<32∨c=127 then H0 c else [c]:=by
 obtain⟨h1,h2,h3,h4,h5,h6,h7⟩:=h;unfold wrF;rw[if_neg (by omega),if_neg h3,if_neg h4,if_neg h5,if_neg h6,if_neg h7]
theorem A6J(c:Int):1≤(wrF c).length∧(wrF c).length≤12:=by
 unfold wrF
 repeat' split
 all_goals simp[A4g]
theorem B0y{c:Int}:(H0 c).all D2=true:=by
 have hd:∀ x:Int,0≤x→x<16→D2 (Q7 x)=true:=fun x h0 h1=>by
  have:=B4e h0 h1;rw[V3];omega
 unfold H0;simp only[Cf,List.all_nil,Gx];rw[hd _ (Ej _ (by omega)) (Ek _ (by omega)),hd _ (Ej _ (by omega)) (Ek _ (by omega)),hd _ (Ej _ (by omega)) (Ek _ (by omega)),hd _ (Ej _ (by omega)) (Ek _ (by omega))];decide
theorem C56{c:Int}(h:D2 c=true):(wrF c).all D2=true:=by
 unfold wrF;split
 ·rename_i h1;rcases h1 with rfl|rfl<;>decide
 ·split
  ·decide
  ·split
   ·decide
   ·split
    ·decide
    ·split
     ·decide
     ·split
      ·decide
      ·split
       ·rw[Cl,B0y,B0y];rfl
       ·split
        ·exact B0y
        ·simp[h]
theorem C7m(l:List Int)(c:Int)(hr:A3 (l.length+12) 4=true)(hv:D2 c=true)(n:Nat):A2 B1Y n Tryz.f197 [.sl .i32 l (some 0),.int .i32 c]=some (.one (.sl .i32 (K7 l (wrF c)) (some 0))):=by
 have h:=V3.1 hv;rw[C88,A3E hr (by omega:l.length+2≤l.length+12),A3E hr (by omega:l.length+6≤l.length+12),A3E hr (by omega:l.length+1≤l.length+12)];by_cases c1:c=34
 ·subst c1;rfl
 rw[beqF c1];by_cases c2:c=92
 ·subst c2;rfl
 rw[beqF c2];by_cases c3:c=8
 ·subst c3;rfl
 rw[beqF c3];by_cases c4:c=9
 ·subst c4;rfl
 rw[beqF c4];by_cases c5:c=10
 ·subst c5;rfl
 rw[beqF c5];by_cases c6:c=12
 ·subst c6;rfl
 rw[beqF c6];by_cases c7:c=13
 ·subst c7;rfl
 rw[beqF c7,B42 ⟨c1,c2,c3,c4,c5,c6,c7⟩];cases hs:(D7 c).2.2 with
 |true=>
  obtain⟨⟨s1,s2⟩,⟨s3,s4⟩,_⟩:=B47 hs;have hl:(K7 l (H0 (D7 c).1)).length+6=l.length+12:=by unfold K7;rw[Br,A4g]
  rw[decide_eq_true s1,decide_eq_true s2,decide_eq_true s3,decide_eq_true s4,hl,hr,if_pos rfl];show some _=some _;unfold K7;rw[Eh]
 |false=>
  rw[if_neg (by simp)];by_cases c8:c<32
  ·rw[decide_eq_true c8,decide_eq_true (by omega:0≤c),decide_eq_true (by omega:c≤65535),if_pos (.inl c8)];rfl
  ·rw[decide_eq_false c8];by_cases c9:c=127
   ·rw[beqT c9,decide_eq_true (by omega:0≤c),decide_eq_true (by omega:c≤65535),if_pos (.inr c9)];rfl
   ·rw[beqF c9,if_neg (by omega)];rfl
def wnT:List UInt8:=[34,92,98,102,110,114,116]
def wmT:List UInt8:=[34,92,8,12,10,13,9]
theorem C6H:∀ i:Fin 7,B3 (wrF ((wmT[i.1]'i.2).toNat:Int))=[92,wnT[i.1]'i.2]:=by decide+kernel
theorem D0h(c:Int)(hv:D2 c=true)(n:Nat)(hn:7<n):A2 A1N n Dr [.int .i32 c]=some (.one (.str (B3 (wrF c)))):=by
 have co:=V3.1 hv;rw[D1i];have hM:wmT.length=7:=rfl;refine(H2 (fun i:Nat=>A7b c wnT wmT i) (fun i=>i≤7∧∀ j:Nat,∀ hj:j<7,j<i→((wmT[j]'hj).toNat:Int)≠c) (fun i=>7 - i) (fun i=>(some (.one (.str (B3 (wrF c)))):Option E6)) ?_ n 0 ⟨Bm _,fun j _ h=>absurd h (Fi _)⟩ (by omega));intro i ⟨hi,hb⟩ K aV bA aN;rw[C1H];by_cases h:i<7
 ·have h1:=A2g (wmT[i]'h);have ht:=C6H ⟨i,h⟩;have hs:sub wnT (i:Int) ((i+1:Nat):Int)=some [wnT[i]'h]:=by
   rw[A4w (by omega) (by have:wnT.length=7:=rfl;omega)];have:i+1 - i=1:=by omega
   rw[this,Cc (l:=wnT) h];rfl
  rw[decide_eq_true (by omega:(i:Int)<(wmT.length:Int)),cond_true,D4 (l:=wmT) h,I2 (by omega),hs];dsimp only;rw[w32 (by omega) (by omega)];cases hc:((wmT[i]'h).toNat:Int)==c with
  |true=>
   simp only[beq_iff_eq]at hc;rw[←hc,ht];exact(bA _).trans rfl
  |false=>
   rw[cond_false];refine aN (i+1) ⟨by omega,fun j hj ee=>?_⟩ (by omega);by_cases ku:j<i
   ·exact hb j hj ku
   ·have:j=i:=by omega
    subst this;exact fun e=>by simp[e]at hc
 ·have g0:(34:Int)≠c:=hb 0 (by omega) (by omega);have g1:(92:Int)≠c:=hb 1 (by omega) (by omega);have g2:(8:Int)≠c:=hb 2 (by omega) (by omega);have g3:(12:Int)≠c:=hb 3 (by omega) (by omega);have g4:(10:Int)≠c:=hb 4 (by omega) (by omega);have g5:(13:Int)≠c:=hb 5 (by omega) (by omega);have g6:(9:Int)≠c:=hb 6 (by omega) (by omega);rw[decide_eq_false (by omega:¬(i:Int)<(wmT.length:Int)),cond_false,aV,C23,B42 ⟨by omega,by omega,by omega,by omega,by omega,by omega,by omega⟩];by_cases c8:c<32
  ·rw[decide_eq_true c8,decide_eq_true (by omega:0≤c),decide_eq_true (by omega:c≤65535),B7E (by omega),if_neg (by simp),if_pos (.inl c8)];rfl
  ·rw[decide_eq_false c8];by_cases c9:c=127
   ·rw[beqT c9,decide_eq_true (by omega:0≤c),decide_eq_true (by omega:c≤65535),B7E (by omega),if_neg (by simp),if_pos (.inr c9)];rfl
   ·rw[beqF c9];cases hs:(D7 c).2.2 with
    |true=>
     obtain⟨⟨s1,s2⟩,⟨s3,s4⟩,_⟩:=B47 hs;have l1:=A2p (H0 (D7 c).1);have l2:=A2p (H0 (D7 c).2.1);rw[A4g]at l1 l2;rw[decide_eq_true s1,decide_eq_true s2,decide_eq_true s3,decide_eq_true s4,decide_eq_true (by omega:(B3 (H0 (D7 c).1)).length+(B3 (H0 (D7 c).2.1)).length≤9223372036854775807),if_pos rfl,A1F];rfl
    |false=>
     rw[if_neg (by simp),if_neg (by omega),A6Y (by simp[hv])];rfl
theorem C4J(cs:List Int):(cs.flatMap wrF).length≤12*cs.length:=by
 induction cs with
 |nil=>simp
 |cons c cs ih=>have:=A6J c;rw[Ce,Br,Bl];omega
theorem B93{cs:List Int}(h:cs.all D2=true):(cs.flatMap wrF).all D2=true:=by
 induction cs with
 |nil=>rfl
 |cons c cs ih=>
  simp only[Cf,Bw]at h;rw[Ce,Cl,C56 h.1,ih h.2];rfl
theorem D0f{cs:List Int}(h:cs.all D2=true):(qtC cs).all D2=true:=by
 unfold qtC;rw[Cl,Cf,B93 h];decide
theorem B2d{cs:List Int}{p:Int→Bool}(h:cs.all p=true){i:Nat}(hi:i<cs.length):p cs[i]=true:=Cu.1 h _ (Bt hi)
theorem C2B(s:List UInt8)(hs:smS s=true)(n:Nat)(hn:s.length<n):A2 A1U n Ee [.str s]=some (.tup [.str (qtF s).1,.int .i64 (qtF s).2]):=by
 have au:=A5a.1 hs;obtain⟨d1,d2,d3,d4⟩:=decF_enc _ s (Bz _);rw[C6o,hs,cond_true];unfold qtF;by_cases h:(C4 s).2<s.length
 ·rw[decide_eq_true (by omega:(((C4 s).2:Nat):Int)<(s.length:Int)),if_pos h];rfl
 ·rw[decide_eq_false (by omega:¬(((C4 s).2:Nat):Int)<(s.length:Int)),if_neg h,cond_false];generalize cH:(C4 s).1=cs at d2 d4;refine(H2 (fun i:Nat=>A73 (34::(cs.take i).flatMap wrF) cs (cs.length:Int) i) (fun i=>i≤cs.length) (fun i=>cs.length - i) (fun i=>(some (.tup [.str (B3 (qtC cs)),.int .i64 0]):Option E6)) ?_ n 0 (Bm _) (by omega));intro i hi K aV bA aN;have bV:=C4J (cs.take i);have gv:(cs.take i).length≤i:=En _ _;rw[C5Y];by_cases h2:i<cs.length
  ·rw[decide_eq_true (by omega:(i:Int)<(cs.length:Int)),cond_true,D4 h2];dsimp only;rw[G5.2 (by rw[Bl];omega),B2d d2 h2,I2 (by omega)];refine Cr ?_ (aN (i+1) (by omega) (by omega));unfold K7;rw[Cj h2,Er];simp
  ·rw[decide_eq_false (by omega:¬(i:Int)<(cs.length:Int)),cond_false,aV,C5n,Bu (by omega)];rw[Bu (by omega)]at bV;rw[G5.2 (by rw[Bl];omega),T2.2 (by rw[Br,Bl];simp only[Bl,Cb];omega),A6Y (show((34::cs.flatMap wrF)++[34]).all D2=true from D0f d2)];rfl
theorem B6W(s:List UInt8):toB (s.map fun c=>(c.toNat:Int))=s:=by
 unfold toB;rw[List.map_map];have:((fun n:Int=>Dj n.toNat)∘fun c:UInt8=>(c.toNat:Int))=id:=by
  funext c
  simp
 rw[this,List.map_id]
theorem B9a(s:List UInt8):isB (s.map fun c=>(c.toNat:Int))=true:=by
 rw[A1i];intro x hx;obtain⟨c,_,rfl⟩:=List.mem_map.1 hx;exact A2g c
theorem C6O(cs:List Int):B3 (cs.flatMap wrF)=cs.flatMap fun c=>B3 (wrF c):=by
 induction cs with
 |nil=>rfl
 |cons c cs ih=>rw[Ce,Ce,A1F,ih]
theorem C25(cs:List Int):(cs.flatMap fun c=>B3 (wrF c)).length≤48*cs.length:=by
 induction cs with
 |nil=>simp
 |cons c cs ih=>have:=A6J c;have h2:=A2p (wrF c);rw[Ce,Br,Bl];omega
theorem C66(s:List UInt8)(hs:smS s=true)(n:Nat)(hn:s.length<n):A2 A0w n Ed [.str s]=some (.tup [.str (qtF s).1,.int .i64 (qtF s).2]):=by
 have au:=A5a.1 hs;obtain⟨d1,d2,d3,d4⟩:=decF_enc _ s (Bz _);rw[B2f,G5.2 (by omega),B6W,B9a,A5Y.2 (by rw[Eo];omega)];unfold qtF;by_cases h:(C4 s).2<s.length
 ·rw[V5 (by omega:(((C4 s).2:Nat):Int)≠(s.length:Int)),if_pos h];rfl
 ·rw[Y8 (by omega:(((C4 s).2:Nat):Int)=(s.length:Int)),if_neg h];show C9 _ n _ _=_;generalize cH:(C4 s).1=cs at d2 d4;refine(H2 (fun i:Nat=>A8S cs (34::(cs.take i).flatMap fun c=>B3 (wrF c)) i) (fun i=>i≤cs.length) (fun i=>cs.length - i) (fun i=>(some (.tup [.str (B3 (qtC cs)),.int .i64 0]):Option E6)) ?_ n 0 (Bm _) (by omega));intro i hi K aV bA aN;have bV:=C25 (cs.take i);have gv:(cs.take i).length≤i:=En _ _;rw[C5T];by_cases h2:i<cs.length
  ·have hw:=A6J cs[i];have mw:=A2p (wrF cs[i]);rw[decide_eq_true (by omega:(i:Int)<(cs.length:Int)),cond_true,D4 h2];dsimp only;have dm:decide ((34::(cs.take i).flatMap fun c=>B3 (wrF c)).length+(B3 (wrF cs[i])).length≤9223372036854775807)=true:=decide_eq_true (by rw[Bl];omega);rw[B2d d2 h2,dm,I2 (by omega)];refine Cr ?_ (aN (i+1) (by omega) (by omega));rw[Cj h2,Er];simp
  ·rw[decide_eq_false (by omega:¬(i:Int)<(cs.length:Int)),cond_false,aV,C1I,Bu (by omega)];rw[Bu (by omega)]at bV;have dm:decide ((34::cs.flatMap fun c=>B3 (wrF c)).length+([34]:List Nat).length≤9223372036854775807)=true:=decide_eq_true (by rw[Bl];simp only[Bl,Cb];omega);rw[dm,cond_true];unfold qtC;rw[A1F,A0z,C6O];rfl
end Go.Aev.Bv
namespace Go.Aev.Bv
open Go.Proofs
def E41:Env Ty6 A4:=mk6 noT noC (lkE [(0,[2]),(1,[0,3,4,5,6,7,8])]) 9
theorem C6f(n:Nat)(a0:Int):A2 E41 n Tryz.f194 [.int .i32 a0]=
  bif(a0==9)==false then(some (.one (.bool (a0==32))))else(some (.one (.bool true))):=by
 kernel_rfl
def T28:T6:=fun f ls=>match f with
 |194=>S41 ls
 |_=>none
def E28:Env Ty6 A4:=mk6 T28 noC (lkE [(0,[2]),(2,[4,5,6,7,8,9,10,11,12,13]),(3,[14,15,16]),(4,[0,3,14,17])]) 18
def A7Z(x0:List Int)(x3:Int):S6:=⟨[(0,.one (.sl .i32 x0 none)),(3,.one (.int .i64 x3))],[]⟩
theorem C06(n:Nat)(a0:List Int):A2 E28 n Da [.sl .i32 a0 none]=
  C9 (lbC E28 (A0 Da [1,1,0,0,0]) 10002 n) n (A7Z a0 0) (A8 0 (B9 (B1 E28 n (A0 Da [1,1,1])) (B2 E28 Tryz.f237.results.toList))):=by
 kernel_rfl
theorem C9f(n:Nat)(x0:List Int)(x3:Int)(K:Ex→S6→Option E6):lbC E28 (A0 Da [1,1,0,0,0]) 10002 n (A7Z x0 x3) K=
  bif(decide (x3<(Ai x0:Int)))==true then(match idx x0 x3 with|none=>none|some y1=>(bif J6 y1 then(K .normal (A7Z x0 (Ba .i64 (x3+1))))else(K (.exit 0) ⟨[(0,.one (.sl .i32 x0 none)),(3,.one (.int .i64 x3)),(14,.one (.bool (J6 y1)))],[]⟩)))else(K (.exit 0) ⟨[(0,.one (.sl .i32 x0 none)),(3,.one (.int .i64 x3)),(14,.one (.bool false))],[]⟩):=by
 kernel_rfl
theorem D00(n:Nat)(x0:List Int)(x3:Int)(l8:Bool):(A8 0 (B9 (B1 E28 n (A0 Da [1,1,1])) (B2 E28 Tryz.f237.results.toList))) (.exit 0) ⟨[(0,.one (.sl .i32 x0 none)),(3,.one (.int .i64 x3)),(14,.one (.bool l8))],[]⟩=
  some (.one (.int .i64 x3)):=by
 kernel_rfl
theorem C20(n:Nat)(x0:List Int)(x3:Int):(A8 0 (B9 (B1 E28 n (A0 Da [1,1,1])) (B2 E28 Tryz.f237.results.toList))) (.exit 0) ⟨[(0,.one (.sl .i32 x0 none)),(3,.one (.int .i64 x3)),(14,.one (.bool false))],[]⟩=
  some (.one (.int .i64 x3)):=by
 kernel_rfl
def T27:T6:=fun f ls=>match f with
 |237=>S28 ls
 |_=>none
def E27:Env Ty6 A4:=mk6 T27 noC (lkE [(0,[2]),(1,[0,3,4,5,6,7])]) 8
theorem B03(n:Nat)(a0:List Int):A2 E27 n Tryz.f219 [.sl .i32 a0 none]=
  bif D0 a0 then(some (.one (.bool ((G2 a0)==(Ai a0:Int)))))else none:=by
 kernel_rfl
def E56:Env Ty6 A4:=mk6 noT noC (lkE [(0,[2]),(1,[0,3,4,5,6,7,8])]) 9
theorem B1N(n:Nat)(a0:Int):A2 E56 n Tryz.f200 [.int .i32 a0]=
  bif(a0==9)==false then(some (.one (.bool (a0==32))))else(some (.one (.bool true))):=by
 kernel_rfl
def T42:T6:=fun f ls=>match f with
 |200=>S56 ls
 |_=>none
def E42:Env Ty6 A4:=mk6 T42 noC (lkE [(0,[2]),(2,[4,5,6,7,8,9,10,11,12,13]),(3,[14,15,16]),(4,[0,3,14,17])]) 18
def A68(x0:List Int)(x3:Int):S6:=⟨[(0,.one (.sl .i32 x0 none)),(3,.one (.int .i64 x3))],[]⟩
theorem B0F(n:Nat)(a0:List Int):A2 E42 n Db [.sl .i32 a0 none]=
  C9 (lbC E42 (A0 Db [1,1,0,0,0]) 10002 n) n (A68 a0 0) (A8 0 (B9 (B1 E42 n (A0 Db [1,1,1])) (B2 E42 Tryz.f225.results.toList))):=by
 kernel_rfl
theorem D0k(n:Nat)(x0:List Int)(x3:Int)(K:Ex→S6→Option E6):lbC E42 (A0 Db [1,1,0,0,0]) 10002 n (A68 x0 x3) K=
  bif(decide (x3<(Ai x0:Int)))==true then(match idx x0 x3 with|none=>none|some y1=>(bif J6 y1 then(K .normal (A68 x0 (Ba .i64 (x3+1))))else(K (.exit 0) ⟨[(0,.one (.sl .i32 x0 none)),(3,.one (.int .i64 x3)),(14,.one (.bool (J6 y1)))],[]⟩)))else(K (.exit 0) ⟨[(0,.one (.sl .i32 x0 none)),(3,.one (.int .i64 x3)),(14,.one (.bool false))],[]⟩):=by
 kernel_rfl
theorem D0d(n:Nat)(x0:List Int)(x3:Int)(l8:Bool):(A8 0 (B9 (B1 E42 n (A0 Db [1,1,1])) (B2 E42 Tryz.f225.results.toList))) (.exit 0) ⟨[(0,.one (.sl .i32 x0 none)),(3,.one (.int .i64 x3)),(14,.one (.bool l8))],[]⟩=
  some (.one (.int .i64 x3)):=by
 kernel_rfl
theorem C3S(n:Nat)(x0:List Int)(x3:Int):(A8 0 (B9 (B1 E42 n (A0 Db [1,1,1])) (B2 E42 Tryz.f225.results.toList))) (.exit 0) ⟨[(0,.one (.sl .i32 x0 none)),(3,.one (.int .i64 x3)),(14,.one (.bool false))],[]⟩=
  some (.one (.int .i64 x3)):=by
 kernel_rfl
def T30:T6:=fun f ls=>match f with
 |225=>S42 ls
 |_=>none
def E30:Env Ty6 A4:=mk6 T30 noC (lkE [(0,[2]),(1,[0,3,4,5,6,7])]) 8
theorem B24(n:Nat)(a0:List Int):A2 E30 n Tryz.f224 [.sl .i32 a0 none]=
  bif D0 a0 then(some (.one (.bool ((G2 a0)==(Ai a0:Int)))))else none:=by
 kernel_rfl
def T29:T6:=fun f ls=>match f with
 |225=>S42 ls
 |_=>none
def E29:Env Ty6 A4:=mk6 T29 noC (lkE [(0,[2]),(3,[6,7,8]),(4,[5,10,11,32]),(5,[9,12,13,14,15,16]),(6,[17,18,19,20,21,22,23,24,25,26,27,28,29,30,31]),(7,[5,32,33]),(8,[0,4,9,34]),(9,[3,35]),(10,[3,35,36])]) 37
def A31(x0:List (List Int))(x3:Int)(x4:Int):S6:=⟨[(0,.one (.sl .rs x0 none)),(3,.one (.int .i64 x3)),(4,.one (.int .i64 x4))],[]⟩
theorem C8K(n:Nat)(a0:List (List Int)):A2 E29 n Dl [.sl .rs a0 none]=
  C9 (lbC E29 (A0 Dl [1,1,0,1,0,0]) 10003 n) n (A31 a0 (-1) 1) (A8 0 (B9 (B1 E29 n (A0 Dl [1,1,1])) (B2 E29 Tryz.f240.results.toList))):=by
 kernel_rfl
theorem C3f(n:Nat)(x0:List (List Int))(x3:Int)(x4:Int)(K:Ex→S6→Option E6):lbC E29 (A0 Dl [1,1,0,1,0,0]) 10003 n (A31 x0 x3 x4) K=
  bif decide (x4<(Ai x0:Int))then(match idx x0 x4 with|none=>none|some y1=>(bif D0 y1 then(match idx x0 x4 with|none=>none|some y2=>(bif(decide ((G2 y1)<(Ai y2:Int)))==true then(bif(decide (x3<0))==false then(bif decide ((G2 y1)<x3)then(K .normal (A31 x0 (G2 y1) (Ba .i64 (x4+1))))else(K .normal (A31 x0 x3 (Ba .i64 (x4+1)))))else(K .normal (A31 x0 (G2 y1) (Ba .i64 (x4+1)))))else(K .normal (A31 x0 x3 (Ba .i64 (x4+1))))))else none))else(K (.exit 0) ⟨[(0,.one (.sl .rs x0 none)),(3,.one (.int .i64 x3)),(4,.one (.int .i64 x4)),(9,.one (.bool (decide (x4<(Ai x0:Int)))))],[]⟩):=by
 kernel_rfl
theorem C1m(n:Nat)(x0:List (List Int))(x3:Int)(x4:Int)(x9:Bool):(A8 0 (B9 (B1 E29 n (A0 Dl [1,1,1])) (B2 E29 Tryz.f240.results.toList))) (.exit 0) ⟨[(0,.one (.sl .rs x0 none)),(3,.one (.int .i64 x3)),(4,.one (.int .i64 x4)),(9,.one (.bool x9))],[]⟩=
  bif decide (x3<0)then(some (.one (.int .i64 0)))else(some (.one (.int .i64 x3))):=by
 kernel_rfl
theorem C2J(c:Int)(n:Nat):A2 E41 n Tryz.f194 [.int .i32 c]=some (.one (.bool (J6 c))):=by
 rw[C6f];unfold J6;cases h:c==9<;>simp[h]
theorem C0U(c:Int)(n:Nat):A2 E56 n Tryz.f200 [.int .i32 c]=some (.one (.bool (J6 c))):=by
 rw[B1N];unfold J6;cases h:c==9<;>simp[h]
theorem A2W(x:Int)(l:List Int):M5 (x::l)=if J6 x then M5 l+1 else 0:=by
 unfold M5;rw[Gi];split<;>simp
theorem B73{l:List Int}{i:Nat}(h:i<l.length):i+M5 (l.drop i)=if J6 l[i]then(i+1)+M5 (l.drop (i+1))else i:=by
 rw[Cc h,A2W];split<;>omega
theorem C3U(l:List Int):M5 l≤l.length:=by
 induction l with
 |nil=>simp[M5]
 |cons x l ih=>rw[A2W];split<;>simp<;>omega
theorem A9e(l:List Int):(G2 l==(l.length:Int))=B5 l:=by
 have h:M5 l=l.length↔B5 l=true:=by
  induction l with
  |nil=>simp[M5,B5]
  |cons x l ih=>
   rw[A2W];unfold B5 at ih ⊢;cases hx:J6 x with
   |true=>simp[hx, ←ih]
   |false=>simp[hx]
 unfold G2;cases hb:B5 l with
 |true=>rw[h.2 hb];simp
 |false=>
  have:M5 l≠l.length:=fun e=>by rw[h.1 e]at hb;cases hb
  simp;omega
theorem C37(l:List Int)(hl:D0 l=true)(n:Nat)(hn:l.length<n):A2 E28 n Da [.sl .i32 l none]=some (.one (.int .i64 (G2 l))):=by
 have au:=A3u hl;rw[C06];refine(H2 (fun i:Nat=>A7Z l i) (fun i=>i≤l.length) (fun i=>l.length - i) (fun i=>some (.one (.int .i64 ((i+M5 (l.drop i):Nat):Int)))) ?_ n 0 (Bm _) (by omega)).trans (by simp[G2]);intro i hi K aV bA hn;rw[C9f];simp only[bT,Cw];by_cases h:i<l.length
 ·rw[if_pos (by omega),D4 h,B73 h];dsimp only;cases hw:J6 l[i]with
  |true=>
   simp only[cond_true,if_true];rw[I2 (by omega),hn (i+1) (by omega) (by omega)]
  |false=>simp only[cond_false,aV,D00];rfl
 ·rw[if_neg (by omega),aV,C20,Bn (by omega)];rfl
theorem C0p(l:List Int)(hl:D0 l=true)(n:Nat)(hn:l.length<n):A2 E42 n Db [.sl .i32 l none]=some (.one (.int .i64 (G2 l))):=by
 have au:=A3u hl;rw[B0F];refine(H2 (fun i:Nat=>A68 l i) (fun i=>i≤l.length) (fun i=>l.length - i) (fun i=>some (.one (.int .i64 ((i+M5 (l.drop i):Nat):Int)))) ?_ n 0 (Bm _) (by omega)).trans (by simp[G2]);intro i hi K aV bA hn;rw[D0k];simp only[bT,Cw];by_cases h:i<l.length
 ·rw[if_pos (by omega),D4 h,B73 h];dsimp only;cases hw:J6 l[i]with
  |true=>
   simp only[cond_true,if_true];rw[I2 (by omega),hn (i+1) (by omega) (by omega)]
  |false=>simp only[cond_false,aV,D0d];rfl
 ·rw[if_neg (by omega),aV,C3S,Bn (by omega)];rfl
theorem D1j(l:List Int)(hl:D0 l=true)(n:Nat):A2 E27 n Tryz.f219 [.sl .i32 l none]=some (.one (.bool (B5 l))):=by
 rw[B03,hl,A9e];rfl
theorem C6V(l:List Int)(hl:D0 l=true)(n:Nat):A2 E30 n Tryz.f224 [.sl .i32 l none]=some (.one (.bool (B5 l))):=by
 rw[B24,hl,A9e];rfl
def T16:T6:=fun f ls=>match f with
 |224=>S30 ls
 |240=>S29 ls
 |_=>none
def E16:Env Ty6 A4:=mk6 T16 noC (lkE [(0,[2]),(1,[10,11]),(4,[12,13,14]),(5,[16,17]),(6,[15,18,19,20,21]),(7,[22,23,24,25,26,27,28]),(8,[29]),(9,[29,30]),(10,[31,32,33,34]),(11,[31]),(12,[6,35,36,37]),(13,[7,38,39,40,41]),(14,[0,3,5,15]),(15,[42,43,44,45,46,47,48,49,50,51]),(16,[52,53,54]),(17,[52,55,56]),(18,[57,58,59,60,61,62,63,64,65,66]),(19,[67,68,69]),(20,[4,8,9,67,70,71,72,73])]) 74
def A12(x0:List (List Int))(x3:Int)(x4:List (List Int))(x5:Int):S6:=⟨[(0,.one (.sl .rs x0 none)),(3,.one (.int .i64 x3)),(4,.one (.sl .rs x4 (some 104))),(5,.one (.int .i64 x5))],[104]⟩
def A5D(x4:List (List Int))(x8:Int):S6:=⟨[(4,.one (.sl .rs x4 (some 104))),(8,.one (.int .i64 x8))],[104]⟩
def A5t(x4:List (List Int))(x8:Int)(x9:Int):S6:=⟨[(4,.one (.sl .rs x4 (some 104))),(8,.one (.int .i64 x8)),(9,.one (.int .i64 x9))],[104]⟩
theorem B2C(n:Nat)(a0:List (List Int)):A2 E16 n Bo [.sl .rs a0 none]=
  bif M4 a0 then(C9 (lbC E16 (A0 Bo [1,1,1,0,1,0,0]) 10004 n) n (A12 a0 (U4 a0) [] 0) (A8 0 (B9 (B1 E16 n (A0 Bo [1,1,1,1])) (B2 E16 Tryz.f234.results.toList))))else none:=by
 kernel_rfl
theorem C1Y(n:Nat)(x0:List (List Int))(x3:Int)(x4:List (List Int))(x5:Int)(K:Ex→S6→Option E6):lbC E16 (A0 Bo [1,1,1,0,1,0,0]) 10004 n (A12 x0 x3 x4 x5) K=
  bif decide (x5<(Ai x0:Int))then(match idx x0 x5 with|none=>none|some y1=>(bif(decide (x5>0))==true then(bif decide ((Ai y1:Int)≤x3)then(bif A3 (0+0) 4 then(bif A3 (Ai x4+1) 24 then(K .normal (A12 x0 x3 (x4++[[]]) (Ba .i64 (x5+1))))else none)else none)else(bif decide (x5>0)then(match sub y1 x3 (Ai y1:Int)with|none=>none|some y2=>(bif A3 (0+Ai y2) 4 then(bif A3 (Ai x4+1) 24 then(K .normal (A12 x0 x3 (x4++[y2]) (Ba .i64 (x5+1))))else none)else none))else(bif A3 (0+Ai y1) 4 then(bif A3 (Ai x4+1) 24 then(K .normal (A12 x0 x3 (x4++[y1]) (Ba .i64 (x5+1))))else none)else none)))else(bif decide (x5>0)then(match sub y1 x3 (Ai y1:Int)with|none=>none|some y3=>(bif A3 (0+Ai y3) 4 then(bif A3 (Ai x4+1) 24 then(K .normal (A12 x0 x3 (x4++[y3]) (Ba .i64 (x5+1))))else none)else none))else(bif A3 (0+Ai y1) 4 then(bif A3 (Ai x4+1) 24 then(K .normal (A12 x0 x3 (x4++[y1]) (Ba .i64 (x5+1))))else none)else none))))else(K (.exit 0) ⟨[(0,.one (.sl .rs x0 none)),(3,.one (.int .i64 x3)),(4,.one (.sl .rs x4 (some 104))),(5,.one (.int .i64 x5)),(15,.one (.bool (decide (x5<(Ai x0:Int)))))],[104]⟩):=by
 kernel_rfl
theorem C2p(n:Nat)(x0:List (List Int))(x3:Int)(x4:List (List Int))(x5:Int)(yv:Bool):(A8 0 (B9 (B1 E16 n (A0 Bo [1,1,1,1])) (B2 E16 Tryz.f234.results.toList))) (.exit 0) ⟨[(0,.one (.sl .rs x0 none)),(3,.one (.int .i64 x3)),(4,.one (.sl .rs x4 (some 104))),(5,.one (.int .i64 x5)),(15,.one (.bool yv))],[104]⟩=
  C9 (lbC E16 (A0 Bo [1,1,1,1,1,0,0,0]) 10015 n) n (A5D x4 0) (A8 2 (B9 (B1 E16 n (A0 Bo [1,1,1,1,1,1])) (B2 E16 Tryz.f234.results.toList))):=by
 kernel_rfl
theorem C5Q(n:Nat)(x4:List (List Int))(x8:Int)(K:Ex→S6→Option E6):lbC E16 (A0 Bo [1,1,1,1,1,0,0,0]) 10015 n (A5D x4 x8) K=
  bif(decide (x8<(Ai x4:Int)))==true then(match idx x4 x8 with|none=>none|some y4=>(bif D0 y4 then(bif B5 y4 then(K .normal (A5D x4 (Ba .i64 (x8+1))))else(K (.exit 2) ⟨[(4,.one (.sl .rs x4 (some 104))),(8,.one (.int .i64 x8)),(52,.one (.bool (B5 y4)))],[104]⟩))else none))else(K (.exit 2) ⟨[(4,.one (.sl .rs x4 (some 104))),(8,.one (.int .i64 x8)),(52,.one (.bool false))],[104]⟩):=by
 kernel_rfl
theorem C33(n:Nat)(x4:List (List Int))(x8:Int)(yw:Bool):(A8 2 (B9 (B1 E16 n (A0 Bo [1,1,1,1,1,1])) (B2 E16 Tryz.f234.results.toList))) (.exit 2) ⟨[(4,.one (.sl .rs x4 (some 104))),(8,.one (.int .i64 x8)),(52,.one (.bool yw))],[104]⟩=
  C9 (lbC E16 (A0 Bo [1,1,1,1,1,1,1,0,0,0]) 10018 n) n (A5t x4 x8 (Ai x4:Int)) (A8 4 (B9 (B1 E16 n (A0 Bo [1,1,1,1,1,1,1,1])) (B2 E16 Tryz.f234.results.toList))):=by
 kernel_rfl
theorem C0t(n:Nat)(x4:List (List Int))(x8:Int):(A8 2 (B9 (B1 E16 n (A0 Bo [1,1,1,1,1,1])) (B2 E16 Tryz.f234.results.toList))) (.exit 2) ⟨[(4,.one (.sl .rs x4 (some 104))),(8,.one (.int .i64 x8)),(52,.one (.bool false))],[104]⟩=
  C9 (lbC E16 (A0 Bo [1,1,1,1,1,1,1,0,0,0]) 10018 n) n (A5t x4 x8 (Ai x4:Int)) (A8 4 (B9 (B1 E16 n (A0 Bo [1,1,1,1,1,1,1,1])) (B2 E16 Tryz.f234.results.toList))):=by
 kernel_rfl
theorem C7a(n:Nat)(x4:List (List Int))(x8:Int)(x9:Int)(K:Ex→S6→Option E6):lbC E16 (A0 Bo [1,1,1,1,1,1,1,0,0,0]) 10018 n (A5t x4 x8 x9) K=
  bif(decide (x9>x8))==true then(match idx x4 (Ba .i64 (x9 - 1))with|none=>none|some y5=>(bif D0 y5 then(bif B5 y5 then(K .normal (A5t x4 x8 (Ba .i64 (x9 - 1))))else(K (.exit 4) ⟨[(4,.one (.sl .rs x4 (some 104))),(8,.one (.int .i64 x8)),(9,.one (.int .i64 x9)),(67,.one (.bool (B5 y5)))],[104]⟩))else none))else(K (.exit 4) ⟨[(4,.one (.sl .rs x4 (some 104))),(8,.one (.int .i64 x8)),(9,.one (.int .i64 x9)),(67,.one (.bool false))],[104]⟩):=by
 kernel_rfl
theorem C9z(n:Nat)(x4:List (List Int))(x8:Int)(x9:Int)(yx:Bool):(A8 4 (B9 (B1 E16 n (A0 Bo [1,1,1,1,1,1,1,1])) (B2 E16 Tryz.f234.results.toList))) (.exit 4) ⟨[(4,.one (.sl .rs x4 (some 104))),(8,.one (.int .i64 x8)),(9,.one (.int .i64 x9)),(67,.one (.bool yx))],[104]⟩=
  match sub x4 x8 x9 with|none=>none|some y6=>(some (.one (.sl .rs y6 none))):=by
 kernel_rfl
theorem C3Y(n:Nat)(x4:List (List Int))(x8:Int)(x9:Int):(A8 4 (B9 (B1 E16 n (A0 Bo [1,1,1,1,1,1,1,1])) (B2 E16 Tryz.f234.results.toList))) (.exit 4) ⟨[(4,.one (.sl .rs x4 (some 104))),(8,.one (.int .i64 x8)),(9,.one (.int .i64 x9)),(67,.one (.bool false))],[104]⟩=
  match sub x4 x8 x9 with|none=>none|some y7=>(some (.one (.sl .rs y7 none))):=by
 kernel_rfl
theorem D0U(l:List Int):decide (G2 l<(l.length:Int))= !B5 l:=by
 rw[←A9e];have:=C3U l;unfold G2;by_cases h:M5 l=l.length
 ·rw[h];simp
 ·have h1:((M5 l:Int)==(l.length:Int))=false:=by simp;omega
  rw[h1];simp;omega
theorem B1J(m:Int)(l:List Int)(r:List (List Int)):U0 m (l::r)=U0 (if !B5 l&&(decide (m<0)||decide (G2 l<m))then G2 l else m) r:=rfl
theorem C8P(ls:List (List Int))(hl:M4 ls=true)(n:Nat)(hn:ls.length<n):A2 E29 n Dl [.sl .rs ls none]=some (.one (.int .i64 (U4 ls))):=by
 have au:=A5u hl;rw[C8K];refine(H2 (fun p:Int×Nat=>A31 ls p.1 p.2) (fun p=>1≤p.2) (fun p=>ls.length - p.2) (fun p=>some (.one (.int .i64 (if U0 p.1 (ls.drop p.2)<0 then 0 else U0 p.1 (ls.drop p.2))))) ?_ n (-1,1) (Bz _) (by simp only;omega)).trans rfl;rintro⟨m,i⟩ hi K aV bA hn;dsimp only at hi hn ⊢;rw[C3f];simp only[bT,Cw];by_cases h:i<ls.length
 ·rw[if_pos (by omega),D4 h,Cc h,B1J];dsimp only;rw[A0n hl (Bt h)];simp only[cond_true,Cw];have hb:=D0U ls[i];have hw:Ba .i64 ((i:Int)+1)=((i+1:Nat):Int):=I2 (by omega);rw[hw];have h1:=fun m'=>hn (m',i+1) (by simp) (by dsimp only;omega);dsimp only at h1;simp only[h1,bF];by_cases c1:G2 ls[i]<(ls[i].length:Int)
  ·rw[if_pos c1];rw[decide_eq_true c1]at hb;rw[←hb];by_cases c2:m<0
   ·simp[c2]
   ·by_cases c3:G2 ls[i]<m<;>simp[c2,c3]
  ·rw[if_neg c1];rw[decide_eq_false c1]at hb;rw[←hb];simp
 ·rw[if_neg (by omega),aV,C1m,Bn (by omega)];simp only[U0,Cw];by_cases hm:m<0<;>simp[hm]
section
variable {α:Type}(p:α→Bool)
def tw(l:List α):Nat:=(l.takeWhile p).length
def rt(l:List α):Nat:=(l.reverse.dropWhile p).length
theorem A77(x:α)(l:List α):tw p (x::l)=if p x then tw p l+1 else 0:=by
 unfold tw;rw[Gi];split<;>simp
theorem C7A{l:List α}{i:Nat}(h:i<l.length):i+tw p (l.drop i)=if p l[i]then(i+1)+tw p (l.drop (i+1))else i:=by
 rw[Cc h,A77];split<;>omega
theorem D0r{l:List α}{i:Nat}(h:i<l.length):rt p (l.take (i+1))=if p l[i]then rt p (l.take i)else i+1:=by
 unfold rt;rw[←Gg h,Gk,List.reverse_singleton,List.singleton_append,Ez];split
 ·rfl
 ·simp;omega
theorem C18(l:List α):l.drop (tw p l)=l.dropWhile p:=by
 induction l with
 |nil=>simp[tw]
 |cons x l ih=>
  rw[A77,Ez];cases h:p x<;>simp[ih]
theorem C8W(l:List α):l.take (rt p l)=(l.reverse.dropWhile p).reverse:=by
 have h:l.reverse=l.reverse.takeWhile p++l.reverse.dropWhile p:=(List.takeWhile_append_dropWhile ..).symm;have h2:l=(l.reverse.dropWhile p).reverse++(l.reverse.takeWhile p).reverse:=by
  have h3:=congrArg List.reverse h;rw[Gj,Gk]at h3;exact h3
 unfold rt;have h4:(l.reverse.dropWhile p).length=(l.reverse.dropWhile p).reverse.length:=by simp
 rw[h4];generalize (l.reverse.dropWhile p).reverse=a at*;generalize (l.reverse.takeWhile p).reverse=b at*;subst h2;rw[List.take_left'];rfl
theorem B8q{β:Type}(q:β→Bool):∀{l:List α}{m:List β},l.map p=m.map q→tw p l=tw q m
 |[],[],_=>rfl
 |[],_::_,h=>by simp at h
 |_::_,[],h=>by simp at h
 |x::l,y::m,h=>by
  simp only[Cn,Bq]at h;rw[A77,A77,h.1,B8q q h.2]
theorem B5A{β:Type}(q:β→Bool):∀{l:List α}{m:List β},l.map p=m.map q→(l.dropWhile p).length=(m.dropWhile q).length
 |[],[],_=>rfl
 |[],_::_,h=>by simp at h
 |_::_,[],h=>by simp at h
 |x::l,y::m,h=>by
  have h0:=h;simp only[Cn,Bq]at h;rw[Ez,Ez,h.1];cases q y with
  |true=>exact B5A q h.2
  |false=>simpa using congrArg Ai h0
theorem C7U{β:Type}(q:β→Bool){l:List α}{m:List β}(h:l.map p=m.map q):rt p l=rt q m:=by
 unfold rt;exact B5A p q (by rw[Gm,Gm,h])
end
theorem C3h{l m:List (List Int)}(h:m.map B5=l.map B5):(l.drop (tw B5 m)).take (rt B5 (m.drop (tw B5 m)))=Q5 l:=by
 rw[B8q B5 B5 h];rw[C7U B5 B5 (l:=m.drop (tw B5 l)) (m:=l.drop (tw B5 l)) (by rw[Fm,Fm,h])];rw[C8W,C18];rfl
theorem B3y:∀(ls:List (List Int))(m:Int),(0≤m→0≤U0 m ls∧U0 m ls≤m)∧(∀ l∈ls,B5 l=false→0≤U0 m ls∧U0 m ls≤G2 l)
 |[],m=>⟨fun h=>⟨h,Int.le_refl _⟩,fun l hl=>by cases hl⟩
 |x::ls,m=>by
  rw[B1J];have hx:0≤G2 x:=by unfold G2;omega
  by_cases hb:B5 x=true
  ·have h1:(if !B5 x&&(decide (m<0)||decide (G2 x<m))then G2 x else m)=m:=by simp[hb]
   rw[h1];obtain⟨a,b⟩:=B3y ls m;refine⟨a,fun l hl dZ=>?_⟩;rcases Fl.1 hl with rfl|hl
   ·rw[hb]at dZ;cases dZ
   ·exact b l hl dZ
  ·have bw:B5 x=false:=by simpa using hb
   generalize hm:(if !B5 x&&(decide (m<0)||decide (G2 x<m))then G2 x else m)=m';have h0:0≤m'∧m'≤G2 x∧(0≤m→m'≤m):=by
    rw[bw]at hm;by_cases c1:m<0
    ·simp[c1]at hm;omega
    ·by_cases c2:G2 x<m
     ·simp[c2]at hm;omega
     ·simp[c1,c2]at hm;omega
   obtain⟨a,b⟩:=B3y ls m';have a':=a h0.1;refine⟨fun h=>⟨a'.1,by have:=h0.2.2 h;omega⟩,fun l hl dZ=>?_⟩;rcases Fl.1 hl with rfl|hl
   ·exact⟨a'.1,by omega⟩
   ·exact b l hl dZ
theorem C9d{l:List Int}{n:Nat}(h:B5 l=false→n≤M5 l):B5 (l.drop n)=B5 l:=by
 cases hb:B5 l with
 |true=>
  unfold B5 at hb ⊢;simp only[Cu]at hb ⊢;exact fun x hx=>hb x (Gl hx)
 |false=>
  have hn:=h hb;have dl:B5 l=(B5 (l.take n)&&B5 (l.drop n)):=by
   unfold B5;rw[←Cl,Ev]
  have gE:B5 (l.take n)=true:=by
   clear dl hb h
   induction l generalizing n with
   |nil=>simp[B5]
   |cons x l ih=>
    cases n with
    |zero=>rfl
    |succ n=>
     rw[A2W]at hn;cases hw:J6 x with
     |false=>rw[hw]at hn;simp at hn
     |true=>
      rw[hw]at hn;simp only[if_true]at hn;have:=ih (n:=n) (by omega);unfold B5 at this ⊢;simp[hw,this]
  rw[gE,hb]at dl;simpa using dl.symm
def A0O(c:Int)(ls:List (List Int)):List (List Int):=ls.take 1++(ls.drop 1).map fun l=>l.drop c.toNat
theorem A9t(ls:List (List Int)):N8 ls=A0O (U0 (-1) (ls.drop 1)) ls:=by
 unfold N8 A0O U4;have:(if U0 (-1) (ls.drop 1)<0 then(0:Int)else U0 (-1) (ls.drop 1)).toNat=(U0 (-1) (ls.drop 1)).toNat:=by split<;>omega
 simp only[this]
theorem A6t(c:Int)(ls:List (List Int)):(A0O c ls).length=ls.length:=by
 unfold A0O;simp;omega
theorem B4o{c:Int}{ls:List (List Int)}{i:Nat}(h:i<ls.length):(A0O c ls)[i]'(by rw[A6t];exact h)=if 0<i then ls[i].drop c.toNat else ls[i]:=by
 unfold A0O;by_cases hi:0<i
 ·rw[if_pos hi,List.getElem_append_right (by simp;omega)];simp
  congr 2
  omega
 ·have:i=0:=by omega
  subst this;rw[if_neg hi,List.getElem_append_left (by simp;omega)];simp
theorem C7n{c:Int}{ls:List (List Int)}(h:M4 ls=true):M4 (A0O c ls)=true:=by
 unfold M4;rw[A6t];have h0:=h;simp only[M4,Bw]at h;rw[h.1,Ft,Cu];intro x hx;obtain⟨i,hi,rfl⟩:=List.getElem_of_mem hx;have aT:i<ls.length:=by rw[A6t]at hi;exact hi
 rw[B4o aT];have:=T2.1 (A0n h0 (Bt aT));split
 ·rw[T2,Bi];omega
 ·exact A0n h0 (Bt aT)
theorem B5R(ls:List (List Int))(hl:M4 ls=true)(f:Nat)(hf:f≤ls.length)(n:Nat)(hn:ls.length<n):
  C9 (lbC E16 (A0 Bo [1,1,1,1,1,1,1,0,0,0]) 10018 n) n (A5t ls f (ls.length:Int)) (A8 4 (B9 (B1 E16 n (A0 Bo [1,1,1,1,1,1,1,1])) (B2 E16 Tryz.f234.results.toList)))=
   some (.one (.sl .rs ((ls.drop f).take (rt B5 (ls.drop f))) none)):=by
 have au:=A5u hl;have e0:(ls.length:Int)=((f+(ls.length - f):Nat):Int):=by omega
 rw[e0];refine(H2 (fun t:Nat=>A5t ls f ((f+t:Nat):Int)) (fun t=>f+t≤ls.length) (fun t=>t) (fun t=>(some (.one (.sl .rs ((ls.drop f).take (rt B5 ((ls.drop f).take t))) none)):Option E6)) ?_ n (ls.length - f) (by omega) (by omega)).trans (by rw[show(ls.drop f).take (ls.length - f)=ls.drop f from Bu (by simp)]);intro t ht K aV bA aN;have bZ:∀ t,f+t≤ls.length→sub ls (f:Int) ((f+t:Nat):Int)=some ((ls.drop f).take t):=fun t ht=>by
  rw[A4w (by omega) ht];have:f+t - f=t:=by omega
  rw[this]
 rw[C7a];simp only[bT,Cw];cases t with
 |zero=>
  rw[if_neg (by omega),aV,C3Y,bZ 0 ht];rfl
 |succ t=>
  rw[if_pos (by omega)];have e:((f+(t+1):Nat):Int)=((f+t+1:Nat):Int):=by omega
  have aB:f+t<ls.length:=by omega
  have itq:t<(ls.drop f).length:=by simp;omega
  rw[e,C7l (by omega),D4 aB];dsimp only;rw[A0n hl (Bt aB),cond_true,D0r B5 itq];have hg:(ls.drop f)[t]=ls[f+t]:=by simp
  rw[hg];cases hb:B5 ls[f+t]with
  |true=>
   simp only[cond_true,if_true];exact aN t (by omega) (by omega)
  |false=>
   simp only[cond_false];have h2:=bZ (t+1) ht;rw[←Fj]at h2;rw[aV,C9z,h2];rfl
theorem C7E(ls:List (List Int))(hl:M4 ls=true)(n:Nat)(hn:ls.length<n):
  C9 (lbC E16 (A0 Bo [1,1,1,1,1,0,0,0]) 10015 n) n (A5D ls 0) (A8 2 (B9 (B1 E16 n (A0 Bo [1,1,1,1,1,1])) (B2 E16 Tryz.f234.results.toList)))=
   some (.one (.sl .rs (Q5 ls) none)):=by
 have au:=A5u hl;refine(H2 (fun i:Nat=>A5D ls i) (fun i=>i≤ls.length) (fun i=>ls.length - i) (fun i=>(some (.one (.sl .rs ((ls.drop (i+tw B5 (ls.drop i))).take (rt B5 (ls.drop (i+tw B5 (ls.drop i))))) none)):Option E6)) ?_ n 0 (Bm _) (by omega)).trans ?_
 ·intro i hi K aV bA aN;rw[C5Q];simp only[bT,Cw];by_cases h:i<ls.length
  ·rw[if_pos (by omega),D4 h];dsimp only;rw[A0n hl (Bt h),cond_true,C7A B5 h];cases hb:B5 ls[i]with
   |true=>
    simp only[cond_true,if_true];rw[I2 (by omega)];exact aN (i+1) (by omega) (by omega)
   |false=>
    simp only[cond_false];rw[aV,C33];exact B5R ls hl i hi n hn
  ·rw[if_neg (by omega),aV,C0t];have h2:tw B5 (ls.drop i)=0:=by rw[Bn (by omega)];rfl
   rw[h2];exact B5R ls hl i hi n hn
 ·have h0:0+tw B5 (ls.drop 0)=tw B5 ls:=by simp
  rw[h0];exact congrArg (fun x:List (List Int)=>(some (.one (.sl .rs x none)):Option E6)) (C3h rfl)
theorem D1l(ls:List (List Int)):0≤U4 ls:=by
 unfold U4;dsimp only;split<;>omega
theorem C79(ls:List (List Int))(hl:M4 ls=true)(n:Nat)(hn:ls.length<n):A2 E16 n Bo [.sl .rs ls none]=some (.one (.sl .rs (I5 ls) none)):=by
 have au:=A5u hl;rw[B2C,hl,cond_true];have gA:∀{i:Nat}(h:i<ls.length),(N8 ls)[i]'(by rw[A9t,A6t];exact h)=if 0<i then ls[i].drop (U4 ls).toNat else ls[i]:=by
  intro i h;have h1:N8 ls=A0O (U4 ls) ls:=rfl;simp only[h1];exact B4o h
 have dw:(N8 ls).length=ls.length:=by rw[A9t,A6t]
 have fD:=D1l ls;refine(H2 (fun i:Nat=>A12 ls (U4 ls) ((N8 ls).take i) i) (fun i=>i≤ls.length) (fun i=>ls.length - i) (fun i=>(some (.one (.sl .rs (I5 ls) none)):Option E6)) ?_ n 0 (Bm _) (by omega));intro i hi K aV bA aN;rw[C1Y];simp only[bT,Cw];by_cases h:i<ls.length
 ·rw[if_pos (by omega),D4 h];dsimp only;have yr:=T2.1 (A0n hl (Bt h));have hr:A3 (((N8 ls).take i).length+1) 24=true:=G5.2 (by rw[Cp];omega);have hw:Ba .i64 ((i:Int)+1)=((i+1:Nat):Int):=I2 (by omega);have bJ:∀ y:List Int,y=(N8 ls)[i]'(by rw[dw];exact h)→K .normal (A12 ls (U4 ls) ((N8 ls).take i++[y]) ((i+1:Nat):Int))=some (.one (.sl .rs (I5 ls) none)):=by
   intro y hy;rw[hy,Gg (by rw[dw];exact h)];exact aN (i+1) (by omega) (by omega)
  have aI:=gA h;have jB:∀ k:Nat,k≤ls[i].length→A3 (0+k) 4=true:=fun k hk=>G5.2 (by omega);rw[hr,hw];simp only[cond_true];by_cases h0:0<i
  ·rw[if_pos h0]at aI;rw[if_pos (by omega)];by_cases h1:(ls[i].length:Int)≤U4 ls
   ·rw[if_pos h1,jB 0 (Bm _),cond_true];refine bJ [] ?_;rw[aI,Bn (by omega)]
   ·rw[if_neg h1,if_pos (by omega)];have h2:U4 ls=((U4 ls).toNat:Int):=by omega
    rw[h2,A59 (by omega), ←h2];dsimp only;rw[jB _ (by simp),cond_true];exact bJ _ aI.symm
  ·rw[if_neg h0]at aI;rw[if_neg (by omega),if_neg (by omega),jB _ (Bz _),cond_true];exact bJ _ aI.symm
 ·rw[if_neg (by omega),aV,C2p,Bu (by omega)];have tT:M4 (N8 ls)=true:=C7n hl;exact C7E (N8 ls) tT n (by omega)
end Go.Aev.Bv
namespace Go.Aev.Bv
open Go.Proofs Go.Lib
theorem C80{l:List Int}(h:B5 l=false)(h0:0<l.length):decide (G2 l=0)= !J6 l[0]:=by
 match l,h0 with
 |x::r,_=>
  show decide (G2 (x::r)=0)= !J6 x;unfold G2;rw[A2W];cases J6 x<;>simp;omega
theorem C6e{l:List Int}(h:B5 l=false):0<l.length:=by
 cases l with
 |nil=>cases h
 |cons=>simp
def A0s(l:List Int):Bool:= !B5 l&&decide (G2 l=0)
theorem C9F(l:List Int):A0s l=(decide (G2 l=0)&&decide (0<(l.length:Int))):=by
 have hb:=A9e l;unfold A0s;rw[←hb];by_cases h0:G2 l=0
 ·rw[h0];by_cases h1:l.length=0
  ·rw[h1];rfl
  ·rw[beqF (by omega:(0:Int)≠(l.length:Int)),decide_eq_true (by omega:0<(l.length:Int))];rfl
 ·rw[decide_eq_false h0,Bool.and_false,Bool.false_and]
theorem B5S{ls:List (List Int)}(h:0<ls.length):S8 ls=(!B5 ls[0]&&(!B5 (ls[ls.length - 1]'(by omega))&&(decide (ls.length=1)||ls.any A0s))):=by
 have h1:ls.headD []=ls[0]:=by
  cases ls with
  |nil=>simp at h
  |cons a r=>rfl
 have h2:ls.getLastD []=ls[ls.length - 1]'(by omega):=by
  have az:ls≠[]:=fun e=>by subst e;simp at h
  rw[List.getLastD_eq_getLast?,List.getLast?_eq_getElem?,Ck (by omega)];rfl
 unfold S8;rw[h1,h2];rfl
theorem B4f{ls:List (List Int)}{i:Nat}(h:i<ls.length):(ls.drop i).any A0s=(A0s ls[i]||(ls.drop (i+1)).any A0s):=by
 rw[Cc h,Fp]
theorem C6P(ls:List (List Int))(hl:M4 ls=true)(h1:1≤ls.length)(n:Nat)(hn:ls.length<n):A2 A2c n Dx [.sl .rs ls none]=some (.one (.bool (S8 ls))):=by
 have au:=A5u hl;have ji:idx ls 0=some ls[0]:=D4 (i:=0) (by omega);have jK:idx ls ((ls.length - 1:Nat):Int)=some (ls[ls.length - 1]'(by omega)):=D4 (by omega);have hw:Ba .i64 ((ls.length:Int) - 1)=((ls.length - 1:Nat):Int):=by rw[P6 (by omega) (by omega)];omega
 rw[C2V,ji,hw,jK,B5S (by omega)];dsimp only;rw[A0n hl (Bt _),A0n hl (Bt _)];cases mO:B5 ls[0]with
 |true=>rfl
 |false=>
  cases pw:B5 (ls[ls.length - 1]'(by omega))with
  |true=>rfl
  |false=>
   by_cases aF:ls.length=1
   ·rw[beqT (by omega:(ls.length:Int)=1),decide_eq_true aF];rfl
   ·rw[beqF (by omega:(ls.length:Int)≠1),decide_eq_false aF];show C9 _ n _ _=_;refine(H2 (fun i:Nat=>A64 ls (ls.length:Int) i) (fun i=>i≤ls.length) (fun i=>ls.length - i) (fun i=>(some (.one (.bool ((ls.drop i).any A0s))):Option E6)) ?_ n 0 (Bm _) (by omega)).trans rfl;intro i hi K aV bA aN;rw[C17];by_cases h:i<ls.length
    ·rw[decide_eq_true (by omega:(i:Int)<(ls.length:Int)),cond_true,D4 h,I2 (by omega),B4f h];dsimp only;rw[A0n hl (Bt h)];have bJ:=aN (i+1) (by omega) (by omega);unfold A0s;cases hb:B5 ls[i]with
     |true=>exact bJ
     |false=>
      have hp:=C6e hb;have hy:idx ls[i] 0=some ls[i][0]:=D4 (i:=0) hp;rw[hy,C80 hb hp];dsimp only;cases An:J6 ls[i][0]with
      |true=>exact bJ
      |false=>exact(bA _).trans rfl
    ·rw[decide_eq_false (by omega:¬(i:Int)<(ls.length:Int)),cond_false,aV,D0c,Bn (by omega)];rfl
theorem C1r(ls:List (List Int))(hl:M4 ls=true)(h1:1≤ls.length)(n:Nat)(hn:ls.length<n):A2 A1G n Du [.sl .rs ls none]=some (.one (.bool (S8 ls))):=by
 have au:=A5u hl;have ji:idx ls 0=some ls[0]:=D4 (i:=0) (by omega);have jK:idx ls ((ls.length - 1:Nat):Int)=some (ls[ls.length - 1]'(by omega)):=D4 (by omega);have hw:Ba .i64 ((ls.length:Int) - 1)=((ls.length - 1:Nat):Int):=by rw[P6 (by omega) (by omega)];omega
 rw[C9X,ji,hw,jK,B5S (by omega)];dsimp only;rw[A0n hl (Bt _),A0n hl (Bt _)];cases mO:B5 ls[0]with
 |true=>rfl
 |false=>
  cases pw:B5 (ls[ls.length - 1]'(by omega))with
  |true=>rfl
  |false=>
   show C9 _ n _ _=_;refine(H2 (fun i:Nat=>A5C ls i) (fun i=>i≤ls.length) (fun i=>ls.length - i) (fun i=>(some (.one (.bool ((ls.drop i).any A0s||decide (ls.length=1)))):Option E6)) ?_ n 0 (Bm _) (by omega)).trans (by rw[List.drop_zero,Bool.or_comm];rfl);intro i hi K aV bA aN;rw[C2I];by_cases h:i<ls.length
   ·rw[decide_eq_true (by omega:(i:Int)<(ls.length:Int)),cond_true,D4 h,I2 (by omega),B4f h];dsimp only;rw[A0n hl (Bt h),C9F];have bJ:=aN (i+1) (by omega) (by omega);by_cases c0:G2 ls[i]=0
    ·rw[beqT c0,decide_eq_true c0];by_cases c1:0<(ls[i].length:Int)
     ·rw[decide_eq_true (show(ls[i].length:Int)>0 from c1)];exact(bA _).trans rfl
     ·rw[decide_eq_false (show¬(ls[i].length:Int)>0 from c1)];exact bJ
    ·rw[beqF c0,decide_eq_false c0];exact bJ
   ·rw[decide_eq_false (by omega:¬(i:Int)<(ls.length:Int)),cond_false,aV,C0w,Bn (by omega)];by_cases aF:ls.length=1
    ·rw[beqT (by omega:(ls.length:Int)=1),decide_eq_true aF];rfl
    ·rw[beqF (by omega:(ls.length:Int)≠1),decide_eq_false aF];rfl
theorem B3k(r:List Int):maskF (34::34::34::r)=92::34::34::34::maskF r:=rfl
theorem A9b{c:Int}{r:List Int}(h:I6 (c::r)=false):maskF (c::r)=c::maskF r:=by
 conv=>lhs;unfold maskF
 split
 ·rename_i bW;rw[bW]at h;cases h
 ·rename_i bW;cases bW;rfl
 ·rename_i bW;cases bW
theorem A9S(l:List Int):(maskF l).length≤2*l.length:=by
 fun_induction maskF l with
 |case1 r ih=>simp;omega
 |case2 c r h ih=>simp;omega
 |case3=>simp
theorem B7u{p:Int→Bool}(yy:p 92=true)(l:List Int)(h:l.all p=true):(maskF l).all p=true:=by
 fun_induction maskF l with
 |case1 r ih=>
  simp only[Cf,Bw]at h ⊢;exact⟨yy,h.1,h.2.1,h.2.2.1,ih h.2.2.2⟩
 |case2 c r az ih=>
  simp only[Cf,Bw]at h ⊢;exact⟨h.1,ih h.2⟩
 |case3=>rfl
theorem C1A{c:Int}{r b:List Int}(h:I6 (c::r)=false):I6 (c::r++10::b)=false:=by
 cases hq:I6 (c::r++10::b)with
 |false=>rfl
 |true=>
  obtain⟨z,hz⟩:=A06.1 hq
  match r,hz with
  |[],hz=>simp at hz
  |[x],hz=>simp at hz
  |x::y::r',hz=>
   simp only[Ct,Bq]at hz;obtain⟨rfl,rfl,rfl,_⟩:=hz;cases h
theorem C8m(a b:List Int):maskF (a++10::b)=maskF a++10::maskF b:=by
 fun_induction maskF a with
 |case1 r ih=>rw[Ct,Ct,Ct,B3k,ih];rfl
 |case2 c r az ih=>
  have hq:I6 (c::r)=false:=by
   cases hq:I6 (c::r)with
   |false=>rfl
   |true=>
    obtain⟨z,hz⟩:=A06.1 hq;simp only[Bq]at hz;exact absurd hz.2 (fun e=>az z hz.1 e)
  have:=C1A (b:=b) hq;rw[Ct]at this ⊢;rw[A9b this,ih];rfl
 |case3=>rw[Dd,A9b (by
   cases hq:I6 (10::b)with
   |false=>rfl
   |true=>obtain⟨z,hz⟩:=A06.1 hq;simp at hz)];rfl
theorem B1M(m cur:List Int):H3 cur m≠[]:=by
 induction m generalizing cur with
 |nil=>simp[H3]
 |cons c r ih=>
  rw[W4];split
  ·simp
  ·split
   ·exact ih _
   ·exact ih _
theorem A7W{l:List Int}{ls:List (List Int)}(h:ls≠[]):H7 (l::ls)=l++10::H7 ls:=by
 match ls,h with
 |x::r,_=>simp[H7]
def A5U(c:Int):Bool:= !(c==13)
theorem B1Z:∀(m cur:List Int),m.all A5U=true→H7 (H3 cur m)=cur++m
 |[],cur,_=>by simp[H3,H7]
 |c::r,cur,h=>by
  simp only[Cf,Bw]at h;have hc:c≠13:=fun e=>by have:=h.1;rw[e]at this;cases this
  rw[W4,A2T];by_cases fh:c=10
  ·rw[if_pos fh];simp only[if_true];rw[A7W (B1M r []),B1Z r [] h.2,fh];rfl
  ·rw[if_neg fh,if_neg hc];simp only[Et,if_false];rw[if_neg hc,B1Z r _ h.2];simp
theorem B4q{m:List Int}(h:m.all A5U=true):H7 (B4 m)=m:=B1Z m [] h
theorem B8O:∀(ls:List (List Int)),ls≠[]→maskF (H7 ls)++[10]=ls.flatMap fun l=>maskF l++[10]
 |[l],_=>by simp[H7]
 |l::x::r,_=>by
  rw[A7W (by simp),C8m,Ce, ←B8O (x::r) (by simp)];simp
theorem C1p{m:List Int}(h:m.all A5U=true):maskF m++[10]=(B4 m).flatMap fun l=>maskF l++[10]:=by
 rw[←B8O (B4 m) (B1M m []),B4q h]
theorem A9q{p:Int→Bool}:∀(m cur:List Int),cur.all p=true→m.all p=true→∀ l∈H3 cur m,l.all p=true
 |[],cur,hc,_,l,hl=>by simp[H3]at hl;rw[hl];exact hc
 |c::r,cur,hc,hm,l,hl=>by
  simp only[Cf,Bw]at hm;rw[W4]at hl;split at hl
  ·rcases Fl.1 hl with rfl|hl
   ·exact hc
   ·exact A9q r [] rfl hm.2 l hl
  ·split at hl
   ·exact A9q r cur hc hm.2 l hl
   ·exact A9q r _ (by rw[Cl,hc];simp[hm.1]) hm.2 l hl
theorem C3o(l:List Int)(hl:smL l=true)(n:Nat)(hn:l.length<n):A2 A1A n Ds [.sl .i32 l none]=some (.one (.sl .i32 (maskF l) (some 1))):=by
 have au:=Z1 hl;rw[C86];refine(H2 (fun p:List Int×Nat=>A1W l p.1 p.2) (fun p=>p.1.length≤2*p.2∧p.2≤l.length) (fun p=>l.length - p.2) (fun p=>(some (.one (.sl .i32 (p.1++maskF (l.drop p.2)) (some 1))):Option E6)) ?_ n ([],0) (by simp) (by simp only;omega)).trans (by simp);rintro⟨out,i⟩ ⟨h1,h2⟩ K aV bA aN;dsimp only at h1 h2 aN ⊢;rw[C3J];by_cases h:i<l.length
 ·have hd:=R8 h;rw[decide_eq_true (by omega:(i:Int)<(l.length:Int)),cond_true,show(2:Int)=((2:Nat):Int)from rfl,A0N (by omega),show(3:Int)=((3:Nat):Int)from rfl,A0N (by omega),I2 (by omega),D4 h,G5.2 (by omega),G5.2 (by omega)];have fO:I6 (l.drop i)=false→K .normal (A1W l (out++[l[i]]) ((i+1:Nat):Int))=some (.one (.sl .i32 (out++maskF (l.drop i)) (some 1))):=fun hq=>by
   refine(aN (out++[l[i]],i+1) ⟨by simp;omega,by simp only;omega⟩ (by simp only;omega)).trans ?_;rw[hd]at hq ⊢;rw[A9b hq];simp
  by_cases h3:i+2<l.length
  ·have l9:I6 (l.drop i)=(l[i]==34&&(l[i+1]==34&&l[i+2]==34)):=by
    rw[B3r (by rw[Bi];omega)];simp
   rw[decide_eq_true (by omega:((i+2:Nat):Int)<(l.length:Int)),D4 (by omega),D4 (by omega)];dsimp only;by_cases c0:l[i]=34
   ·rw[beqT c0]at l9 ⊢;by_cases c1:l[i+1]=34
    ·rw[beqT c1]at l9 ⊢;by_cases c2:l[i+2]=34
     ·rw[beqT c2];refine(aN (out++[92,34,34,34],i+3) ⟨by simp;omega,by simp only;omega⟩ (by simp only;omega)).trans ?_;rw[hd,R8 (i:=i+1) (by omega),R8 (i:=i+1+1) (by omega),c0,c1,show l[i+1+1]=34 from c2,B3k];simp
     ·rw[beqF c2]at l9 ⊢;exact fO l9
    ·rw[beqF c1]at l9 ⊢;exact fO l9
   ·rw[beqF c0]at l9 ⊢;exact fO l9
  ·rw[decide_eq_false (by omega:¬((i+2:Nat):Int)<(l.length:Int))];exact fO (B8S (by rw[Bi];omega))
 ·rw[decide_eq_false (by omega:¬(i:Int)<(l.length:Int)),cond_false,aV,C0x,Bn (by omega)];exact congrArg (fun z:List Int=>(some (.one (.sl .i32 z (some 1))):Option E6)) (Cd out).symm
def okC(c:Int):Bool:=M8 c&& !(c==13)
theorem B1R{cs:List Int}(h:cs.all okC=true):cs.all A5U=true:=Cu.2 fun x hx=>by
 have:=Cu.1 h x hx;unfold okC at this;simp only[Bw]at this;exact this.2
theorem B2m{cs:List Int}(h:cs.all okC=true):cs.all D2=true:=Cu.2 fun x hx=>by
 have:=Cu.1 h x hx;unfold okC at this;simp only[Bw]at this;exact B7f this.1
theorem A69(s:List UInt8):btF s=if s=[]then([34,34,34,34,34,34],true)else if(C4 s).2<s.length then([],false)else if !(C4 s).1.all okC then([],false)else if !S8 (B4 (C4 s).1)then([],false)else(B3 (btC (C4 s).1),true):=rfl
theorem B7P{s:List UInt8}(az:s≠[])(h:¬(C4 s).2<s.length):(C4 s).1≠[]:=fun e=>by
 obtain⟨d1,d2,d3,d4⟩:=decF_enc _ s (Bz _);rw[e,A6v,Bu (by omega)]at d1;exact az d1.symm
theorem B7R{cs:List Int}{p:Int→Bool}{i:Nat}(h:i<cs.length):(cs.take (i+1)).all p=((cs.take i).all p&&p cs[i]):=by
 rw[Cj h,Cl];simp
theorem A9D{cs:List Int}{p:Int→Bool}{i:Nat}(h:i<cs.length)(hp:p cs[i]=false):cs.all p=false:=by
 cases ha:cs.all p with
 |false=>rfl
 |true=>rw[B2d ha h]at hp;cases hp
theorem B4J{cs:List Int}(hl:smL cs=true){pre:List Int}(lT:pre.length≤4)(hv:cs.all okC=true)(yz:pre.all D2=true)(n:Nat)(hn:cs.length<n):
  C9 (lbC J3 (A0 By [1,1,1,1,1,1,1,1,1,0,1,0,0]) 10019 n) n (A2v cs pre 0) (A8 2 (B9 (B1 J3 n (A0 By [1,1,1,1,1,1,1,1,1,1])) (B2 J3 Tryz.f155.results.toList)))=
   some (.tup [.str (B3 (pre++maskF cs++[10,34,34,34])),.bool true]):=by
 have au:=Z1 hl;refine(H2 (fun p:List Int×Nat=>A2v cs p.1 p.2) (fun p=>p.1.length≤4+2*p.2∧p.2≤cs.length∧p.1++maskF (cs.drop p.2)=pre++maskF cs) (fun p=>cs.length - p.2) (fun p=>(some (.tup [.str (B3 (pre++maskF cs++[10,34,34,34])),.bool true]):Option E6)) ?_ n (pre,0) ⟨by simp only;omega,by simp,rfl⟩ (by simp only;omega));rintro⟨out,i⟩ ⟨h1,h2,h3⟩ K aV bA aN;dsimp only at h1 h2 h3 aN ⊢;rw[C4Q];by_cases h:i<cs.length
 ·have hd:=R8 h;have hw:Ba .i64 (Ba .i64 ((i:Int)+2)+1)=((i+3:Nat):Int):=by
   rw[P6 (n:=(i:Int)+2) (by omega) (by omega),P6 (by omega) (by omega)];omega
  rw[decide_eq_true (by omega:(i:Int)<(cs.length:Int)),cond_true,A59 (by omega),D4 h,I2 (by omega),G5.2 (by omega),G5.2 (by omega),hw];dsimp only;rw[C6v (A50 hl)];cases hq:I6 (cs.drop i)with
  |true=>
   obtain⟨r,hr⟩:=A06.1 hq;have eU:cs.drop (i+3)=r:=by
    have:=congrArg (Bj 3) hr;simpa using this
   have du:i+3≤cs.length:=by
    have:=congrArg Ai hr;rw[Bi]at this;simp at this;omega
   refine aN (out++[92,34,34,34],i+3) ⟨by simp;omega,by simp only;omega,?_⟩ (by simp only;omega);dsimp only;rw[eU, ←h3,hr,B3k];simp
  |false=>
   refine aN (out++[cs[i]],i+1) ⟨by simp;omega,by simp only;omega,?_⟩ (by simp only;omega);dsimp only;rw[←h3];rw[hd]at hq ⊢;rw[A9b hq];simp
 ·rw[Bn (by omega),show maskF []=[]from rfl,Cd]at h3;rw[decide_eq_false (by omega:¬(i:Int)<(cs.length:Int)),cond_false,aV,C16];have aX:(out++[10,34,34,34]).all D2=true:=by
   rw[h3,Cl,Cl,yz,B7u (by decide) cs (B2m hv)];decide
  rw[G5.2 (by omega),T2.2 (by rw[Br];simp only[Bl,Cb];omega),A6Y aX,h3];rfl
theorem B5Y{s:List UInt8}(hs:smS s=true):smL (C4 s).1=true:=by
 have au:=A5a.1 hs;obtain⟨d1,d2,d3,d4⟩:=decF_enc _ s (Bz _);exact A5Y.2 (by omega)
theorem B0L{cs:List Int}(hl:smL cs=true):M4 (B4 cs)=true∧1≤(B4 cs).length:=by
 have au:=Z1 hl;have ht:=A6N cs;refine⟨B4k (by omega) (by omega),?_⟩;have:=B1M cs [];have h0:0<(B4 cs).length:=De.2 this;omega
theorem C1D(s:List UInt8)(hs:smS s=true)(n:Nat)(hn:s.length<n):A2 J3 n By [.str s]=some (.tup [.str (btF s).1,.bool (btF s).2]):=by
 have au:=A5a.1 hs;obtain⟨d1,d2,d3,d4⟩:=decF_enc _ s (Bz _);rw[B21,hs,A69];by_cases az:s=[]
 ·subst az;rfl
 have lJ:(s==[])=false:=by simp[az]
 rw[lJ,if_neg az];by_cases hd:(C4 s).2<s.length
 ·rw[decide_eq_true (by omega:(((C4 s).2:Nat):Int)<(s.length:Int)),if_pos hd];rfl
 ·rw[decide_eq_false (by omega:¬(((C4 s).2:Nat):Int)<(s.length:Int)),if_neg hd];show C9 _ n _ _=_;have iu:=B7P az hd;have e8:=B5Y hs;obtain⟨eY,gm⟩:=B0L e8;generalize (C4 s).1=cs at d2 d4 iu e8 eY gm;refine(H2 (fun i:Nat=>A4G cs cs (cs.length:Int) i) (fun i=>i≤cs.length∧(cs.take i).all okC=true) (fun i=>cs.length - i) (fun i=>(some (.tup [.str (if !cs.all okC then([],false)else if !S8 (B4 cs)then([],false)else(B3 (btC cs),true)).1,.bool (if !cs.all okC then(([]:List UInt8),false)else if !S8 (B4 cs)then([],false)else(B3 (btC cs),true)).2]):Option E6)) ?_ n 0 ⟨Bm _,rfl⟩ (by omega));intro i ⟨hi,bO⟩ K aV bA aN;rw[C04];by_cases h:i<cs.length
  ·rw[decide_eq_true (by omega:(i:Int)<(cs.length:Int)),cond_true,D4 h,I2 (by omega)];dsimp only;cases ez:M8 cs[i]with
   |false=>
    rw[A9D (p:=okC) h (by unfold okC;rw[ez];rfl)];exact(bA _).trans rfl
   |true=>
    by_cases iw:cs[i]=13
    ·rw[beqT iw,A9D (p:=okC) h (by unfold okC;rw[ez,beqT iw];rfl)];exact(bA _).trans rfl
    ·rw[beqF iw];exact aN (i+1) ⟨by omega,by rw[B7R h,bO];unfold okC;rw[ez,beqF iw];rfl⟩ (by omega)
  ·rw[Bu (by omega)]at bO;rw[decide_eq_false (by omega:¬(i:Int)<(cs.length:Int)),cond_false,aV,C4W,e8,eY,decide_eq_true gm,bO];cases hf:S8 (B4 cs)with
   |false=>rfl
   |true=>
    have fD:0<cs.length:=De.2 iu;have ji:idx cs 0=some cs[0]:=D4 (i:=0) fD;have tU:cs.headD 0=cs[0]:=by
     cases cs with
     |nil=>exact absurd rfl iu
     |cons=>rfl
    have ma:=B4J e8 (pre:=[34,34,34]++[10]) (by simp) bO (by decide) n (by omega);have lm:=B4J e8 (pre:=[34,34,34]) (by simp) bO (by decide) n (by omega);rw[ji];dsimp only;rw[show A3 (3+1) 4=true from rfl,ma,lm];have cg:B3 (btC cs)=if decide (1<(B4 cs).length)|| !J6 cs[0]then B3 ([34,34,34]++[10]++maskF cs++[10,34,34,34])else B3 ([34,34,34]++maskF cs++[10,34,34,34]):=by
     unfold btC;rw[tU];split
     ·rfl
     ·rfl
    rw[cg];by_cases fI:1<(B4 cs).length
    ·rw[decide_eq_true (by omega:((B4 cs).length:Int)>1),decide_eq_true fI];rfl
    ·rw[decide_eq_false (by omega:¬((B4 cs).length:Int)>1),decide_eq_false fI];cases J6 cs[0]<;>rfl
theorem B8C{cs:List Int}(hl:smL cs=true)(hv:cs.all okC=true){pre:List UInt8}(lT:pre.length≤4)(n:Nat)(hn:cs.length+2<n):
  C9 (lbC M0 (A0 Bx [1,1,1,1,1,1,1,1,1,1,1,0,1,0,0]) 10021 n) n (A1Q [34,34,34] (B4 cs) pre 0) (A8 2 (B9 (B1 M0 n (A0 Bx [1,1,1,1,1,1,1,1,1,1,1,1])) (B2 M0 Tryz.f163.results.toList)))=
   some (.tup [.str (pre++((B4 cs).flatMap fun l=>B3 (maskF l)++[10])++[34,34,34]),.bool true]):=by
 have au:=Z1 hl;obtain⟨eY,gm⟩:=B0L hl;have ht:=A6N cs;have cD:∀ l∈B4 cs,l.all okC=true:=fun l hm=>A9q cs [] rfl hv l hm;have bV:∀(ls:List (List Int)),(ls.flatMap fun l=>B3 (maskF l)++[10]).length≤8*K9 ls+ls.length:=by
  intro ls
  induction ls with
  |nil=>simp
  |cons l r ih=>
   have h1:=A2p (maskF l);have h2:=A9S l;rw[Ce,Br,Br,A1y,Bl];simp only[Bl,Cb];omega
 have bL:A1Q [34,34,34] (B4 cs) pre 0=A1Q [34,34,34] (B4 cs) (pre++((B4 cs).take 0).flatMap fun l=>B3 (maskF l)++[10]) ((0:Nat):Int):=by rw[Gc,List.flatMap_nil,Cd];rfl
 rw[bL];refine(H2 (fun i:Nat=>A1Q [34,34,34] (B4 cs) (pre++((B4 cs).take i).flatMap fun l=>B3 (maskF l)++[10]) i) (fun i=>i≤(B4 cs).length) (fun i=>(B4 cs).length - i) (fun i=>(some (.tup [.str (pre++((B4 cs).flatMap fun l=>B3 (maskF l)++[10])++[34,34,34]),.bool true]):Option E6)) ?_ n 0 (Bm _) (by omega))
 ·intro i hi K aV bA aN;have hf:=bV ((B4 cs).take i);have nV:=A7N (Gf i (B4 cs));have gv:((B4 cs).take i).length≤i:=En _ _;rw[C6n];by_cases h:i<(B4 cs).length
  ·have hm:=A9c (Bt h);have eH:=A9S (B4 cs)[i];have ed:=B7u (p:=D2) (by decide) _ (B2m (cD _ (Bt h)));have dT:=A2p (maskF (B4 cs)[i]);rw[decide_eq_true (by omega:(i:Int)<((B4 cs).length:Int)),cond_true,D4 h,I2 (by omega)];dsimp only;have aO:decide ((pre++((B4 cs).take i).flatMap fun l=>B3 (maskF l)++[10]).length+(B3 (maskF (B4 cs)[i])).length≤9223372036854775807)=true:=decide_eq_true (by rw[Br];omega);have aU:decide (((pre++((B4 cs).take i).flatMap fun l=>B3 (maskF l)++[10])++B3 (maskF (B4 cs)[i])).length+([10]:List Nat).length≤9223372036854775807)=true:=decide_eq_true (by rw[Br,Br];simp only[Bl,Cb];omega);rw[A5Y.2 (by omega),T2.2 (by omega),A6Y ed];dsimp only;rw[aO,aU];refine Cr ?_ (aN (i+1) (by omega) (by omega));rw[Cj h,Er];simp
  ·rw[decide_eq_false (by omega:¬(i:Int)<((B4 cs).length:Int)),cond_false,aV,C5b];rw[Bu (by omega)]at hf ⊢;have aO:decide ((pre++(B4 cs).flatMap fun l=>B3 (maskF l)++[10]).length+([34,34,34]:List UInt8).length≤9223372036854775807)=true:=decide_eq_true (by rw[Br];simp only[Bl,Cb];omega);rw[aO];rfl
theorem C4h{α:Type}(f:α→List Int)(ls:List α):B3 (ls.flatMap f)=ls.flatMap fun l=>B3 (f l):=by
 induction ls with
 |nil=>rfl
 |cons l r ih=>rw[Ce,Ce,A1F,ih]
theorem B64{cs:List Int}(h:cs.all A5U=true)(pre:List Int):B3 (pre++maskF cs++[10,34,34,34])=B3 pre++((B4 cs).flatMap fun l=>B3 (maskF l)++[10])++[34,34,34]:=by
 have e:pre++maskF cs++[10,34,34,34]=pre++(maskF cs++[10])++[34,34,34]:=by simp
 rw[e,A1F,A1F,C1p h,C4h];have h1:B3 [34,34,34]=[34,34,34]:=by decide+kernel
 have h2:(fun l=>B3 (maskF l++[10]))=fun l=>B3 (maskF l)++[10]:=by
  funext l
  rw[A1F];rfl
 rw[h1,h2]
theorem C7J(s:List UInt8)(hs:smS s=true)(n:Nat)(hn:s.length+2<n):A2 M0 n Bx [.str s]=some (.tup [.str (btF s).1,.bool (btF s).2]):=by
 have au:=A5a.1 hs;obtain⟨d1,d2,d3,d4⟩:=decF_enc _ s (Bz _);rw[B3g,G5.2 (by omega),B6W,B9a,A5Y.2 (by rw[Eo];omega),A69];by_cases hd:(C4 s).2<s.length
 ·have az:s≠[]:=fun e=>by subst e;simp at hd
  rw[V5 (by omega:(((C4 s).2:Nat):Int)≠(s.length:Int)),if_neg az,if_pos hd];rfl
 ·rw[Y8 (by omega:(((C4 s).2:Nat):Int)=(s.length:Int)),if_neg hd];show C9 _ n _ _=_;by_cases az:s=[]
  ·subst az;rw[if_pos rfl];show C9 _ n (A6C [] [] 0) _=_;obtain⟨m,rfl⟩:∃ m,n=m+1:=⟨n - 1,by omega⟩;rw[B1W,B5M];rw[show decide ((0:Int)<(([]:List Int).length:Int))=false from rfl,cond_false];exact(B7I (m+1) [] [] 0 false).trans rfl
  rw[if_neg az];have iu:=B7P az hd;have e8:=B5Y hs;obtain⟨eY,gm⟩:=B0L e8;generalize (C4 s).1=cs at d2 d4 iu e8 eY gm;refine(H2 (fun i:Nat=>A6C s cs i) (fun i=>i≤cs.length∧(cs.take i).all okC=true) (fun i=>cs.length - i) (fun i=>(some (.tup [.str (if !cs.all okC then([],false)else if !S8 (B4 cs)then([],false)else(B3 (btC cs),true)).1,.bool (if !cs.all okC then(([]:List UInt8),false)else if !S8 (B4 cs)then([],false)else(B3 (btC cs),true)).2]):Option E6)) ?_ n 0 ⟨Bm _,rfl⟩ (by omega));intro i ⟨hi,bO⟩ K aV bA aN;rw[B5M];by_cases h:i<cs.length
  ·rw[decide_eq_true (by omega:(i:Int)<(cs.length:Int)),cond_true,D4 h,I2 (by omega)];dsimp only;cases ez:M8 cs[i]with
   |false=>
    rw[A9D (p:=okC) h (by unfold okC;rw[ez];rfl)];exact(bA _).trans rfl
   |true=>
    by_cases iw:cs[i]=13
    ·rw[beqT iw,A9D (p:=okC) h (by unfold okC;rw[ez,beqT iw];rfl)];exact(bA _).trans rfl
    ·rw[beqF iw];exact aN (i+1) ⟨by omega,by rw[B7R h,bO];unfold okC;rw[ez,beqF iw];rfl⟩ (by omega)
  ·rw[Bu (by omega)]at bO;have lJ:(s==[])=false:=by simp[az]
   rw[decide_eq_false (by omega:¬(i:Int)<(cs.length:Int)),cond_false,aV,B7I,e8,eY,decide_eq_true gm,bO,lJ];cases hf:S8 (B4 cs)with
   |false=>rfl
   |true=>
    have fD:0<cs.length:=De.2 iu;have tU:cs.headD 0=cs[0]:=by
     cases cs with
     |nil=>exact absurd rfl iu
     |cons=>rfl
    have ma:=B8C e8 bO (pre:=[34,34,34]++[10]) (by simp) n (by omega);have lm:=B8C e8 bO (pre:=[34,34,34]) (by simp) n (by omega);have yA:B3 ([34,34,34]++[10])=[34,34,34]++[10]:=by decide+kernel
    have e3:B3 [34,34,34]=[34,34,34]:=by decide+kernel
    have fh:=B64 (B1R bO) ([34,34,34]++[10]);have h3:=B64 (B1R bO) [34,34,34];rw[yA]at fh;rw[e3]at h3;have cg:B3 (btC cs)=if decide (1<(B4 cs).length)|| !J6 cs[0]then B3 ([34,34,34]++[10]++maskF cs++[10,34,34,34])else B3 ([34,34,34]++maskF cs++[10,34,34,34]):=by
     unfold btC;rw[tU];split
     ·rfl
     ·rfl
    rw[cg,fh,h3];by_cases fI:1<(B4 cs).length
    ·rw[decide_eq_true (by omega:((B4 cs).length:Int)>1),decide_eq_true fI];exact ma
    ·have aF:B4 cs=[cs]:=by
      have hj:=B4q (B1R bO)
      match dw:B4 cs,gm,fI with
      |[x],_,_=>
       rw[dw]at hj;simp[H7]at hj;rw[hj]
      |x::y::r,_,h2=>simp at h2
     have ji:idx (B4 cs) 0=some cs:=by rw[aF];rfl
     have bP:idx cs 0=some cs[0]:=D4 (i:=0) fD;rw[decide_eq_false (by omega:¬((B4 cs).length:Int)>1),decide_eq_false fI,ji];dsimp only;rw[bP];dsimp only;cases J6 cs[0]with
     |true=>exact lm
     |false=>exact ma
end Go.Aev.Bv
namespace Go.Aev.Bv
open Go.Proofs Go.RowKit
def IB:Inv:=fun w wm=>Lib.Utf8Tabs 1 2 w∧(256≤wm 1∧32≤wm 2)
theorem IB_mono:∀ w m w' m',IB w m→Ext w m w' m'→IB w' m':=by
 intro w m w' m' ⟨⟨h1,h2⟩,h3,h4⟩ hx;have l0:=hx.le 1;have l1:=hx.le 2;refine⟨⟨fun c hc=>?_,fun i hi=>⟨?_,?_⟩⟩,by omega,by omega⟩
 ·rw[hx.cell 1 c (by omega)];exact h1 c hc
 ·rw[hx.cell 2 _ (by omega)];exact(h2 i hi).1
 ·rw[hx.cell 2 _ (by omega)];exact(h2 i hi).2
def opt(S:List L6→Option (Bool×E6)):List L6→Option E6:=fun ls=>match S ls with
 |some (true,e)=>some e
 |_=>none
theorem F2{S:List L6→Option (Bool×E6)}{ls:List L6}{r:E6}(h:opt S ls=some r):∃ e,S ls=some (true,e)∧e=r:=by
 unfold opt at h;split at h
 ·rename_i e he;exact⟨e,he,by simpa using h⟩
 ·cases h
theorem D3{f:Bp}{S:List L6→Option (Bool×E6)}(h:Sound Bb U6 IB f (opt S)){ls:List L6}{r:E6}(hr:S ls=some (true,r)):
  (∀ args w,(Cx f args).run Bb w=.ok (.enter f args) w)∧A1R Bb U6 IB f ls r:=
 ⟨h.enter,h.ok ls r (by unfold opt;rw[hr])⟩
theorem and1{a b:Bool}(h:(a&&b)=true):a=true:=(Bw _ _ ▸ h).1
theorem and2{a b:Bool}(h:(a&&b)=true):b=true:=(Bw _ _ ▸ h).2
theorem dec1{p:Prop} [Decidable p] (h:decide p=true):p:=of_decide_eq_true h
theorem C3Q(l:List Int)(i:Int)(h:(D0 l&&decide (0≤i)&&decide (i<(l.length:Int)))=true)(n:Nat):A2 E52 n Fg [.sl .i32 l none,.int .i64 i]=some (.one (.bool (N7 (l.drop i.toNat)))):=by
 have h1:=dec1 (and2 h);have h2:=dec1 (and2 (and1 h));have:=C1O l (and1 (and1 h)) i.toNat (by omega) n;rw[show((i.toNat:Nat):Int)=i by omega]at this;exact this
theorem sound_ext{P:Program}{f:Bp}{S:List L6→Option E6}{I:Inv}(eZ:∀ args w,(Cx f args).run P w=.ok (.enter f args) w)
  (h:∀ ls r,S ls=some r→R9 ls=false∧r.isIter=false∧(∀ d,r.has d=false)∧∀(w:World)(g:Gh)(vs:List Value),I w g.wm→LsRep U6 w g ls vs→
   ∃ v,(∀(w':World)(g':Gh),ERep U6 w' g' r v)∧Calls P f vs.toArray w fun e w'=>e=.returned v∧Below w.heap.size w w'):Sound P U6 I f S:=by
 refine⟨eZ,fun ls r hS w g vs hI hz aq _ _=>?_⟩;obtain⟨h1,h2,h3,h4⟩:=h ls r hS;obtain⟨v,hv,hc⟩:=h4 w g vs hI aq;refine hc.mono fun e w' ⟨he,hb⟩=>⟨v,g,he,?_⟩;rw[h1];refine{os:=hb.os,tape:=hb.tape,output:=hb.output,size:=hb.size,frame:=fun b bw _=>⟨hb.block b bw,rfl⟩,ext:=⟨fun b c e0 fz h0=>⟨c,fz,by rw[hb.block b (Array.getElem?_eq_some_iff.1 h0).1];exact h0⟩,fun b off ho=>?_,fun _=>Bz _⟩,zero:=fun b bw=>hz b (Fx hb.size bw),rep:=hv _ _,nit:=h2,tip:=fun d hd=>?_,disj:=fun d e b hd=>?_,mine:=fun d b hd=>?_}
 ·have hY:off<g.wm b:=ho;have aB:b<w.heap.size:=by
   rcases Fw b w.heap.size with h5|h5
   ·exact h5
   ·have:=hz b h5;omega
  simp only[World.cell?,hb.block b aB]
 ·rw[h3]at hd;cases hd
 ·rw[h3]at hd;cases hd
 ·rw[h3]at hd;cases hd
theorem C70{w:World}{g:Gh}{s:List UInt8}{vs:List Value}(h:LsRep U6 w g [.str s] vs):vs=[.string ⟨s.toArray⟩]:=by
 match vs,h with
 |[v],h=>rw[CRep.str_inv h.1.1]
theorem rep_str2{w:World}{g:Gh}{s t:List UInt8}{vs:List Value}(h:LsRep U6 w g [.str s,.str t] vs):vs=[.string ⟨s.toArray⟩,.string ⟨t.toArray⟩]:=by
 match vs,h with
 |[v,u],h=>rw[CRep.str_inv h.1.1,CRep.str_inv h.2.1.1]
theorem rep_strint{w:World}{g:Gh}{s:List UInt8}{k:IntKind}{n:Int}{vs:List Value}(h:LsRep U6 w g [.str s,.int k n] vs):vs=[.string ⟨s.toArray⟩,.int k n]:=by
 match vs,h with
 |[v,x],h=>rw[CRep.str_inv h.1.1,CRep.int_inv h.2.1.1]
theorem szB(s:List UInt8):(Fs s.toArray).size=s.length:=by simp[Gw]
theorem C1K(l:List Int)(i:Int)(h:(D0 l&&decide (0≤i)&&decide (i<(l.length:Int)))=true)(n:Nat):A2 E54 n Fe [.sl .i32 l none,.int .i64 i]=some (.one (.bool (M3 (l.drop i.toNat)))):=by
 have h1:=dec1 (and2 h);have h2:=dec1 (and2 (and1 h));have:=C4o l (and1 (and1 h)) i.toNat (by omega) n;rw[show((i.toNat:Nat):Int)=i by omega]at this;exact this
theorem C3T(l:List Int)(i:Int)(h:(D0 l&&decide (0≤i)&&decide (i<(l.length:Int)))=true)(n:Nat):A2 E34 n Ff [.sl .i32 l none,.int .i64 i]=some (.tup [.int .i32 (I3 (l.drop i.toNat)).1,.int .i64 (I3 (l.drop i.toNat)).2]):=by
 have h1:=dec1 (and2 h);have h2:=dec1 (and2 (and1 h));have:=C6t l (and1 (and1 h)) i.toNat (by omega) n;rw[show((i.toNat:Nat):Int)=i by omega]at this;exact this
theorem C6J(l:List Int)(i:Int)(h:(D0 l&&decide (0≤i)&&decide (i≤(l.length:Int)+12))=true)(n:Nat)(hn:4<n):A2 E48 n Cz [.sl .i32 l none,.int .i64 i]=some (.one (.int .i32 (I8 (l.drop i.toNat)))):=by
 have h1:=dec1 (and2 h);have h2:=dec1 (and2 (and1 h));have:=C6Y l (and1 (and1 h)) i.toNat (by omega) n hn;rw[show((i.toNat:Nat):Int)=i by omega]at this;exact this
theorem A5o:Sound Bb U6 IB 194 (opt S41):=by
 refine E7 (E:=E41) ⟨u6_ok,E9,F0,fun g ls r h=>?_,fun f ls cs rs av h=>by(change none=some (rs,av)at h;cases h),fun w m hI nm ls cs rs av h=>(by(cases h)),fun f ls cs rs h=>by(change none=some rs at h;cases h),IB_mono⟩ Tryz.func194 rfl Tryz.call194 (fun ls r h=>?_)
 ·change noT g ls=some (true,r)at h;unfold noT at h;cases h
 ·obtain⟨e,h1,h2⟩:=F2 h;unfold S41 at h1;split at h1
  ·rename_i a0;simp only[Be,Bd]at h1;obtain⟨hg,rfl⟩:=h1;subst h2;exact⟨0,C2J a0 _⟩
  ·cases h1
theorem A4K:Sound Bb U6 IB 200 (opt S56):=by
 refine E7 (E:=E56) ⟨u6_ok,E9,F0,fun g ls r h=>?_,fun f ls cs rs av h=>by(change none=some (rs,av)at h;cases h),fun w m hI nm ls cs rs av h=>(by(cases h)),fun f ls cs rs h=>by(change none=some rs at h;cases h),IB_mono⟩ Tryz.func200 rfl Tryz.call200 (fun ls r h=>?_)
 ·change noT g ls=some (true,r)at h;unfold noT at h;cases h
 ·obtain⟨e,h1,h2⟩:=F2 h;unfold S56 at h1;split at h1
  ·rename_i a0;simp only[Be,Bd]at h1;obtain⟨hg,rfl⟩:=h1;subst h2;exact⟨0,C0U a0 _⟩
  ·cases h1
theorem C5g:Sound Bb U6 IB 237 (opt S28):=by
 refine E7 (E:=E28) ⟨u6_ok,E9,F0,fun g ls r h=>?_,fun f ls cs rs av h=>by(change none=some (rs,av)at h;cases h),fun w m hI nm ls cs rs av h=>(by(cases h)),fun f ls cs rs h=>by(change none=some rs at h;cases h),IB_mono⟩ Tryz.func237 rfl Tryz.call237 (fun ls r h=>?_)
 ·change T28 g ls=some (true,r)at h;unfold T28 at h;split at h
  ·exact D3 A5o h
  ·cases h
 ·obtain⟨e,h1,h2⟩:=F2 h;unfold S28 at h1;split at h1
  ·rename_i a0;simp only[Be,Bd]at h1;obtain⟨hg,rfl⟩:=h1;subst h2;exact⟨Ai a0+1,C37 a0 hg _ (Bh _)⟩
  ·cases h1
theorem A2N:Sound Bb U6 IB 225 (opt S42):=by
 refine E7 (E:=E42) ⟨u6_ok,E9,F0,fun g ls r h=>?_,fun f ls cs rs av h=>by(change none=some (rs,av)at h;cases h),fun w m hI nm ls cs rs av h=>(by(cases h)),fun f ls cs rs h=>by(change none=some rs at h;cases h),IB_mono⟩ Tryz.func225 rfl Tryz.call225 (fun ls r h=>?_)
 ·change T42 g ls=some (true,r)at h;unfold T42 at h;split at h
  ·exact D3 A4K h
  ·cases h
 ·obtain⟨e,h1,h2⟩:=F2 h;unfold S42 at h1;split at h1
  ·rename_i a0;simp only[Be,Bd]at h1;obtain⟨hg,rfl⟩:=h1;subst h2;exact⟨Ai a0+1,C0p a0 hg _ (Bh _)⟩
  ·cases h1
theorem A5G:Sound Bb U6 IB 219 (opt S27):=by
 refine E7 (E:=E27) ⟨u6_ok,E9,F0,fun g ls r h=>?_,fun f ls cs rs av h=>by(change none=some (rs,av)at h;cases h),fun w m hI nm ls cs rs av h=>(by(cases h)),fun f ls cs rs h=>by(change none=some rs at h;cases h),IB_mono⟩ Tryz.func219 rfl Tryz.call219 (fun ls r h=>?_)
 ·change T27 g ls=some (true,r)at h;unfold T27 at h;split at h
  ·exact D3 C5g h
  ·cases h
 ·obtain⟨e,h1,h2⟩:=F2 h;unfold S27 at h1;split at h1
  ·rename_i a0;simp only[Be,Bd]at h1;obtain⟨hg,rfl⟩:=h1;subst h2;exact⟨0,D1j a0 hg _⟩
  ·cases h1
theorem A80:Sound Bb U6 IB 224 (opt S30):=by
 refine E7 (E:=E30) ⟨u6_ok,E9,F0,fun g ls r h=>?_,fun f ls cs rs av h=>by(change none=some (rs,av)at h;cases h),fun w m hI nm ls cs rs av h=>(by(cases h)),fun f ls cs rs h=>by(change none=some rs at h;cases h),IB_mono⟩ Tryz.func224 rfl Tryz.call224 (fun ls r h=>?_)
 ·change T30 g ls=some (true,r)at h;unfold T30 at h;split at h
  ·exact D3 A2N h
  ·cases h
 ·obtain⟨e,h1,h2⟩:=F2 h;unfold S30 at h1;split at h1
  ·rename_i a0;simp only[Be,Bd]at h1;obtain⟨hg,rfl⟩:=h1;subst h2;exact⟨0,C6V a0 hg _⟩
  ·cases h1
theorem B15:Sound Bb U6 IB 240 (opt S29):=by
 refine E7 (E:=E29) ⟨u6_ok,E9,F0,fun g ls r h=>?_,fun f ls cs rs av h=>by(change none=some (rs,av)at h;cases h),fun w m hI nm ls cs rs av h=>(by(cases h)),fun f ls cs rs h=>by(change none=some rs at h;cases h),IB_mono⟩ Tryz.func240 rfl Tryz.call240 (fun ls r h=>?_)
 ·change T29 g ls=some (true,r)at h;unfold T29 at h;split at h
  ·exact D3 A2N h
  ·cases h
 ·obtain⟨e,h1,h2⟩:=F2 h;unfold S29 at h1;split at h1
  ·rename_i a0;simp only[Be,Bd]at h1;obtain⟨hg,rfl⟩:=h1;subst h2;exact⟨Ai a0+1,C8P a0 hg _ (Bh _)⟩
  ·cases h1
theorem B2A:Sound Bb U6 IB 234 (opt S16):=by
 refine E7 (E:=E16) ⟨u6_ok,E9,F0,fun g ls r h=>?_,fun f ls cs rs av h=>by(change none=some (rs,av)at h;cases h),fun w m hI nm ls cs rs av h=>(by(cases h)),fun f ls cs rs h=>by(change none=some rs at h;cases h),IB_mono⟩ Tryz.func234 rfl Tryz.call234 (fun ls r h=>?_)
 ·change T16 g ls=some (true,r)at h;unfold T16 at h;split at h
  ·exact D3 A80 h
  ·exact D3 B15 h
  ·cases h
 ·obtain⟨e,h1,h2⟩:=F2 h;unfold S16 at h1;split at h1
  ·rename_i a0;simp only[Be,Bd]at h1;obtain⟨hg,rfl⟩:=h1;subst h2;exact⟨Ai a0+1,C79 a0 hg _ (Bh _)⟩
  ·cases h1
theorem C4d:Sound Bb U6 IB 245 (opt S60):=by
 refine E7 (E:=E60) ⟨u6_ok,E9,F0,fun g ls r h=>?_,fun f ls cs rs av h=>by(change none=some (rs,av)at h;cases h),fun w m hI nm ls cs rs av h=>(by(cases h)),fun f ls cs rs h=>by(change none=some rs at h;cases h),IB_mono⟩ Tryz.func245 rfl Tryz.call245 (fun ls r h=>?_)
 ·change noT g ls=some (true,r)at h;unfold noT at h;cases h
 ·obtain⟨e,h1,h2⟩:=F2 h;unfold S60 at h1;split at h1
  ·rename_i a0;simp only[Be,Bd]at h1;obtain⟨hg,rfl⟩:=h1;subst h2;exact⟨16+1,D07 a0 _ (Bh _)⟩
  ·cases h1
theorem B2V:Sound Bb U6 IB 244 (opt S49):=by
 refine E7 (E:=E49) ⟨u6_ok,E9,F0,fun g ls r h=>?_,fun f ls cs rs av h=>by(change none=some (rs,av)at h;cases h),fun w m hI nm ls cs rs av h=>(by(cases h)),fun f ls cs rs h=>by(change none=some rs at h;cases h),IB_mono⟩ Tryz.func244 rfl Tryz.call244 (fun ls r h=>?_)
 ·change noT g ls=some (true,r)at h;unfold noT at h;cases h
 ·obtain⟨e,h1,h2⟩:=F2 h;unfold S49 at h1;split at h1
  ·rename_i a0 a1;simp only[Be,Bd]at h1;obtain⟨hg,rfl⟩:=h1;subst h2;exact⟨0,C0j a0 a1 _⟩
  ·cases h1
theorem A40:Sound Bb U6 IB 191 (opt S32):=by
 refine E7 (E:=E32) ⟨u6_ok,E9,F0,fun g ls r h=>?_,fun f ls cs rs av h=>by(change none=some (rs,av)at h;cases h),fun w m hI nm ls cs rs av h=>(by(cases h)),fun f ls cs rs h=>by(change none=some rs at h;cases h),IB_mono⟩ Tryz.func191 rfl Tryz.call191 (fun ls r h=>?_)
 ·change noT g ls=some (true,r)at h;unfold noT at h;cases h
 ·obtain⟨e,h1,h2⟩:=F2 h;unfold S32 at h1;split at h1
  ·rename_i a0;simp only[Be,Bd]at h1;obtain⟨hg,rfl⟩:=h1;subst h2;exact⟨0,C8X a0 _⟩
  ·cases h1
theorem B9E:Sound Bb U6 IB 175 (opt S61):=by
 refine E7 (E:=E61) ⟨u6_ok,E9,F0,fun g ls r h=>?_,fun f ls cs rs av h=>by(change none=some (rs,av)at h;cases h),fun w m hI nm ls cs rs av h=>(by(cases h)),fun f ls cs rs h=>by(change none=some rs at h;cases h),IB_mono⟩ Tryz.func175 rfl Tryz.call175 (fun ls r h=>?_)
 ·change noT g ls=some (true,r)at h;unfold noT at h;cases h
 ·obtain⟨e,h1,h2⟩:=F2 h;unfold S61 at h1;split at h1
  ·rename_i a0;simp only[Be,Bd]at h1;obtain⟨hg,rfl⟩:=h1;subst h2;exact⟨0,C0q a0 _⟩
  ·cases h1
theorem B2H:Sound Bb U6 IB 174 (opt S62):=by
 refine E7 (E:=E62) ⟨u6_ok,E9,F0,fun g ls r h=>?_,fun f ls cs rs av h=>by(change none=some (rs,av)at h;cases h),fun w m hI nm ls cs rs av h=>(by(cases h)),fun f ls cs rs h=>by(change none=some rs at h;cases h),IB_mono⟩ Tryz.func174 rfl Tryz.call174 (fun ls r h=>?_)
 ·change noT g ls=some (true,r)at h;unfold noT at h;cases h
 ·obtain⟨e,h1,h2⟩:=F2 h;unfold S62 at h1;split at h1
  ·rename_i a0 a1;simp only[Be,Bd]at h1;obtain⟨hg,rfl⟩:=h1;subst h2;exact⟨Ai a1+1,C3Z a0 a1 hg _ (Bh _)⟩
  ·cases h1
theorem A6o:Sound Bb U6 IB 121 (opt S53):=by
 refine E7 (E:=E53) ⟨u6_ok,E9,F0,fun g ls r h=>?_,fun f ls cs rs av h=>by(change none=some (rs,av)at h;cases h),fun w m hI nm ls cs rs av h=>(by(cases h)),fun f ls cs rs h=>by(change none=some rs at h;cases h),IB_mono⟩ Tryz.func121 rfl Tryz.call121 (fun ls r h=>?_)
 ·change T53 g ls=some (true,r)at h;unfold T53 at h;split at h
  ·exact D3 B2H h
  ·exact D3 B9E h
  ·cases h
 ·obtain⟨e,h1,h2⟩:=F2 h;unfold S53 at h1;split at h1
  ·rename_i a0;simp only[Be,Bd]at h1;obtain⟨hg,rfl⟩:=h1;subst h2;exact⟨0,C7e a0 _⟩
  ·cases h1
theorem A7F:Sound Bb U6 IB 220 (opt S44):=by
 refine E7 (E:=E44) ⟨u6_ok,E9,F0,fun g ls r h=>?_,fun f ls cs rs av h=>by(change none=some (rs,av)at h;cases h),fun w m hI nm ls cs rs av h=>(by(cases h)),fun f ls cs rs h=>by(change none=some rs at h;cases h),IB_mono⟩ Tryz.func220 rfl Tryz.call220 (fun ls r h=>?_)
 ·change noT g ls=some (true,r)at h;unfold noT at h;cases h
 ·obtain⟨e,h1,h2⟩:=F2 h;unfold S44 at h1;split at h1
  ·rename_i a0;simp only[Be,Bd]at h1;obtain⟨hg,rfl⟩:=h1;subst h2;exact⟨0,C1e a0 _⟩
  ·cases h1
theorem C6A:Sound Bb U6 IB 238 (opt S59):=by
 refine E7 (E:=E59) ⟨u6_ok,E9,F0,fun g ls r h=>?_,fun f ls cs rs av h=>by(change none=some (rs,av)at h;cases h),fun w m hI nm ls cs rs av h=>(by(cases h)),fun f ls cs rs h=>by(change none=some rs at h;cases h),IB_mono⟩ Tryz.func238 rfl Tryz.call238 (fun ls r h=>?_)
 ·change noT g ls=some (true,r)at h;unfold noT at h;cases h
 ·obtain⟨e,h1,h2⟩:=F2 h;unfold S59 at h1;split at h1
  ·rename_i a0 a1;simp only[Be,Bd]at h1;obtain⟨hg,rfl⟩:=h1;subst h2;exact⟨0,C3n a0 a1 (and1 (and1 hg)) (and2 (and1 hg)) (dec1 (and2 hg)) _⟩
  ·cases h1
theorem B17:Sound Bb U6 IB 221 (opt S45):=by
 refine E7 (E:=E45) ⟨u6_ok,E9,F0,fun g ls r h=>?_,fun f ls cs rs av h=>by(change none=some (rs,av)at h;cases h),fun w m hI nm ls cs rs av h=>(by(cases h)),fun f ls cs rs h=>by(change none=some rs at h;cases h),IB_mono⟩ Tryz.func221 rfl Tryz.call221 (fun ls r h=>?_)
 ·change T45 g ls=some (true,r)at h;unfold T45 at h;split at h
  ·exact D3 C6A h
  ·cases h
 ·obtain⟨e,h1,h2⟩:=F2 h;unfold S45 at h1;split at h1
  ·rename_i a0 a1;simp only[Be,Bd]at h1;obtain⟨hg,rfl⟩:=h1;subst h2;exact⟨0,C3w a0 a1 (and1 hg) (and2 hg) _⟩
  ·cases h1
theorem B65:Sound Bb U6 IB 172 (opt S50):=by
 refine E7 (E:=E50) ⟨u6_ok,E9,F0,fun g ls r h=>?_,fun f ls cs rs av h=>by(change none=some (rs,av)at h;cases h),fun w m hI nm ls cs rs av h=>(by(cases h)),fun f ls cs rs h=>by(change none=some rs at h;cases h),IB_mono⟩ Tryz.func172 rfl Tryz.call172 (fun ls r h=>?_)
 ·change T50 g ls=some (true,r)at h;unfold T50 at h;split at h
  ·exact D3 B9E h
  ·cases h
 ·obtain⟨e,h1,h2⟩:=F2 h;unfold S50 at h1;split at h1
  ·rename_i a0;simp only[Be,Bd]at h1;obtain⟨hg,rfl⟩:=h1;subst h2;exact⟨0,B0u a0 _⟩
  ·cases h1
theorem A7Q:Sound Bb U6 IB 196 (opt S33):=by
 refine E7 (E:=E33) ⟨u6_ok,E9,F0,fun g ls r h=>?_,fun f ls cs rs av h=>by(change none=some (rs,av)at h;cases h),fun w m hI nm ls cs rs av h=>(by(cases h)),fun f ls cs rs h=>by(change none=some rs at h;cases h),IB_mono⟩ Tryz.func196 rfl Tryz.call196 (fun ls r h=>?_)
 ·change T33 g ls=some (true,r)at h;unfold T33 at h;split at h
  ·exact D3 A7F h
  ·exact D3 B17 h
  ·cases h
 ·obtain⟨e,h1,h2⟩:=F2 h;unfold S33 at h1;split at h1
  ·rename_i a0;simp only[Be,Bd]at h1;obtain⟨hg,rfl⟩:=h1;subst h2;exact⟨Ai a0+1,C9y a0 hg _ (Bh _)⟩
  ·cases h1
theorem A8M:Sound Bb U6 IB 125 (opt S35):=by
 refine E7 (E:=E35) ⟨u6_ok,E9,F0,fun g ls r h=>?_,fun f ls cs rs av h=>by(change none=some (rs,av)at h;cases h),fun w m hI nm ls cs rs av h=>(by(cases h)),fun f ls cs rs h=>by(change none=some rs at h;cases h),IB_mono⟩ Tryz.func125 rfl Tryz.call125 (fun ls r h=>?_)
 ·change T35 g ls=some (true,r)at h;unfold T35 at h;split at h
  ·exact D3 B65 h
  ·cases h
 ·obtain⟨e,h1,h2⟩:=F2 h;unfold S35 at h1;split at h1
  ·rename_i a0;simp only[Be,Bd]at h1;obtain⟨hg,rfl⟩:=h1;subst h2;exact⟨Ai a0+1,C8v a0 hg _ (Bh _)⟩
  ·cases h1
theorem A67:Sound Bb U6 IB 241 (opt S46):=by
 refine E7 (E:=E46) ⟨u6_ok,E9,F0,fun g ls r h=>?_,fun f ls cs rs av h=>by(change none=some (rs,av)at h;cases h),fun w m hI nm ls cs rs av h=>(by(cases h)),fun f ls cs rs h=>by(change none=some rs at h;cases h),IB_mono⟩ Tryz.func241 rfl Tryz.call241 (fun ls r h=>?_)
 ·change T46 g ls=some (true,r)at h;unfold T46 at h;split at h
  ·exact D3 A6o h
  ·cases h
 ·obtain⟨e,h1,h2⟩:=F2 h;unfold S46 at h1;split at h1
  ·rename_i a0;simp only[Be,Bd]at h1;obtain⟨hg,rfl⟩:=h1;subst h2;exact⟨0,C2Z a0 _⟩
  ·cases h1
theorem B94:Sound Bb U6 IB 242 (opt S47):=by
 refine E7 (E:=E47) ⟨u6_ok,E9,F0,fun g ls r h=>?_,fun f ls cs rs av h=>by(change none=some (rs,av)at h;cases h),fun w m hI nm ls cs rs av h=>(by(cases h)),fun f ls cs rs h=>by(change none=some rs at h;cases h),IB_mono⟩ Tryz.func242 rfl Tryz.call242 (fun ls r h=>?_)
 ·change noT g ls=some (true,r)at h;unfold noT at h;cases h
 ·obtain⟨e,h1,h2⟩:=F2 h;unfold S47 at h1;split at h1
  ·rename_i a0;simp only[Be,Bd]at h1;obtain⟨hg,rfl⟩:=h1;subst h2;exact⟨8+1,C7f a0 _ (Bh _)⟩
  ·cases h1
theorem C7W:Sound Bb U6 IB 243 (opt S48):=by
 refine E7 (E:=E48) ⟨u6_ok,E9,F0,fun g ls r h=>?_,fun f ls cs rs av h=>by(change none=some (rs,av)at h;cases h),fun w m hI nm ls cs rs av h=>(by(cases h)),fun f ls cs rs h=>by(change none=some rs at h;cases h),IB_mono⟩ Tryz.func243 rfl Tryz.call243 (fun ls r h=>?_)
 ·change T48 g ls=some (true,r)at h;unfold T48 at h;split at h
  ·exact D3 C4d h
  ·cases h
 ·obtain⟨e,h1,h2⟩:=F2 h;unfold S48 at h1;split at h1
  ·rename_i a0 a1;simp only[Be,Bd]at h1;obtain⟨hg,rfl⟩:=h1;subst h2;exact⟨4+1,C6J a0 a1 hg _ (Bh _)⟩
  ·cases h1
theorem B3W:Sound Bb U6 IB 235 (opt S34):=by
 refine E7 (E:=E34) ⟨u6_ok,E9,F0,fun g ls r h=>?_,fun f ls cs rs av h=>by(change none=some (rs,av)at h;cases h),fun w m hI nm ls cs rs av h=>(by(cases h)),fun f ls cs rs h=>by(change none=some rs at h;cases h),IB_mono⟩ Tryz.func235 rfl Tryz.call235 (fun ls r h=>?_)
 ·change T34 g ls=some (true,r)at h;unfold T34 at h;split at h
  ·exact D3 A67 h
  ·exact D3 B94 h
  ·exact D3 C7W h
  ·exact D3 B2V h
  ·cases h
 ·obtain⟨e,h1,h2⟩:=F2 h;unfold S34 at h1;split at h1
  ·rename_i a0 a1;simp only[Be,Bd]at h1;obtain⟨hg,rfl⟩:=h1;subst h2;exact⟨0,C3T a0 a1 hg _⟩
  ·cases h1
theorem snd21:Sound Bb U6 IB 214 (opt S21):=by
 refine E7 (E:=E21) ⟨u6_ok,E9,F0,fun g ls r h=>?_,fun f ls cs rs av h=>by(change none=some (rs,av)at h;cases h),fun w m hI nm ls cs rs av h=>(by(cases h)),fun f ls cs rs h=>by(change none=some rs at h;cases h),IB_mono⟩ Tryz.func214 rfl Tryz.call214 (fun ls r h=>?_)
 ·change T21 g ls=some (true,r)at h;unfold T21 at h;split at h
  ·exact D3 A8M h
  ·exact D3 B3W h
  ·cases h
 ·obtain⟨e,h1,h2⟩:=F2 h;unfold S21 at h1;split at h1
  ·rename_i a0;simp only[Be,Bd]at h1;obtain⟨hg,rfl⟩:=h1;subst h2;exact⟨Ai a0+1,D0y a0 hg _ (Bh _)⟩
  ·cases h1
theorem C2M:Sound Bb U6 IB 195 (opt S51):=by
 refine E7 (E:=E51) ⟨u6_ok,E9,F0,fun g ls r h=>?_,fun f ls cs rs av h=>by(change none=some (rs,av)at h;cases h),fun w m hI nm ls cs rs av h=>(by(cases h)),fun f ls cs rs h=>by(change none=some rs at h;cases h),IB_mono⟩ Tryz.func195 rfl Tryz.call195 (fun ls r h=>?_)
 ·change noT g ls=some (true,r)at h;unfold noT at h;cases h
 ·obtain⟨e,h1,h2⟩:=F2 h;unfold S51 at h1;split at h1
  ·rename_i a0;simp only[Be,Bd]at h1;obtain⟨hg,rfl⟩:=h1;subst h2;exact⟨0,C5e a0 hg _⟩
  ·cases h1
theorem C8C:Sound Bb U6 IB 218 (opt S52):=by
 refine E7 (E:=E52) ⟨u6_ok,E9,F0,fun g ls r h=>?_,fun f ls cs rs av h=>by(change none=some (rs,av)at h;cases h),fun w m hI nm ls cs rs av h=>(by(cases h)),fun f ls cs rs h=>by(change none=some rs at h;cases h),IB_mono⟩ Tryz.func218 rfl Tryz.call218 (fun ls r h=>?_)
 ·change noT g ls=some (true,r)at h;unfold noT at h;cases h
 ·obtain⟨e,h1,h2⟩:=F2 h;unfold S52 at h1;split at h1
  ·rename_i a0 a1;simp only[Be,Bd]at h1;obtain⟨hg,rfl⟩:=h1;subst h2;exact⟨0,C3Q a0 a1 hg _⟩
  ·cases h1
theorem A87:Sound Bb U6 IB 239 (opt S54):=by
 refine E7 (E:=E54) ⟨u6_ok,E9,F0,fun g ls r h=>?_,fun f ls cs rs av h=>by(change none=some (rs,av)at h;cases h),fun w m hI nm ls cs rs av h=>(by(cases h)),fun f ls cs rs h=>by(change none=some rs at h;cases h),IB_mono⟩ Tryz.func239 rfl Tryz.call239 (fun ls r h=>?_)
 ·change noT g ls=some (true,r)at h;unfold noT at h;cases h
 ·obtain⟨e,h1,h2⟩:=F2 h;unfold S54 at h1;split at h1
  ·rename_i a0 a1;simp only[Be,Bd]at h1;obtain⟨hg,rfl⟩:=h1;subst h2;exact⟨0,C1K a0 a1 hg _⟩
  ·cases h1
theorem C2s:Sound Bb U6 IB 192 (opt S37):=by
 refine E7 (E:=E37) ⟨u6_ok,E9,F0,fun g ls r h=>?_,fun f ls cs rs av h=>by(change none=some (rs,av)at h;cases h),fun w m hI nm ls cs rs av h=>(by(cases h)),fun f ls cs rs h=>by(change none=some rs at h;cases h),IB_mono⟩ Tryz.func192 rfl Tryz.call192 (fun ls r h=>?_)
 ·change T37 g ls=some (true,r)at h;unfold T37 at h;split at h
  ·exact D3 C8C h
  ·cases h
 ·obtain⟨e,h1,h2⟩:=F2 h;unfold S37 at h1;split at h1
  ·rename_i a0;simp only[Be,Bd]at h1;obtain⟨hg,rfl⟩:=h1;subst h2;exact⟨Ai a0+1,C7V a0 hg _ (Bh _)⟩
  ·cases h1
theorem C68:Sound Bb U6 IB 232 (opt S38):=by
 refine E7 (E:=E38) ⟨u6_ok,E9,F0,fun g ls r h=>?_,fun f ls cs rs av h=>by(change none=some (rs,av)at h;cases h),fun w m hI nm ls cs rs av h=>(by(cases h)),fun f ls cs rs h=>by(change none=some rs at h;cases h),IB_mono⟩ Tryz.func232 rfl Tryz.call232 (fun ls r h=>?_)
 ·change T38 g ls=some (true,r)at h;unfold T38 at h;split at h
  ·exact D3 A6o h
  ·exact D3 A87 h
  ·cases h
 ·obtain⟨e,h1,h2⟩:=F2 h;unfold S38 at h1;split at h1
  ·rename_i a0;simp only[Be,Bd]at h1;obtain⟨hg,rfl⟩:=h1;subst h2;exact⟨Ai a0+1,D0e a0 hg _ (Bh _)⟩
  ·cases h1
theorem B2I:Sound Bb U6 IB 122 (opt S55):=by
 refine E7 (E:=E55) ⟨u6_ok,E9,F0,fun g ls r h=>?_,fun f ls cs rs av h=>by(change none=some (rs,av)at h;cases h),fun w m hI nm ls cs rs av h=>(by(cases h)),fun f ls cs rs h=>by(change none=some rs at h;cases h),IB_mono⟩ Tryz.func122 rfl Tryz.call122 (fun ls r h=>?_)
 ·change noT g ls=some (true,r)at h;unfold noT at h;cases h
 ·obtain⟨e,h1,h2⟩:=F2 h;unfold S55 at h1;split at h1
  ·rename_i a0;simp only[Be,Bd]at h1;obtain⟨hg,rfl⟩:=h1;subst h2;exact⟨Ai a0+1,C4A a0 hg _ (Bh _)⟩
  ·cases h1
theorem B6u:Sound Bb U6 IB 198 (opt S39):=by
 refine E7 (E:=E39) ⟨u6_ok,E9,F0,fun g ls r h=>?_,fun f ls cs rs av h=>by(change none=some (rs,av)at h;cases h),fun w m hI nm ls cs rs av h=>(by(cases h)),fun f ls cs rs h=>by(change none=some rs at h;cases h),IB_mono⟩ Tryz.func198 rfl Tryz.call198 (fun ls r h=>?_)
 ·change T39 g ls=some (true,r)at h;unfold T39 at h;split at h
  ·exact D3 B2I h
  ·cases h
 ·obtain⟨e,h1,h2⟩:=F2 h;unfold S39 at h1;split at h1
  ·rename_i a0;simp only[Be,Bd]at h1;obtain⟨hg,rfl⟩:=h1;subst h2;exact⟨Ai a0+2+1,C2i a0 hg _ (Bh _)⟩
  ·cases h1
theorem D0I:Sound Bb U6 IB 233 (opt S40):=by
 refine E7 (E:=E40) ⟨u6_ok,E9,F0,fun g ls r h=>?_,fun f ls cs rs av h=>by(change none=some (rs,av)at h;cases h),fun w m hI nm ls cs rs av h=>(by(cases h)),fun f ls cs rs h=>by(change none=some rs at h;cases h),IB_mono⟩ Tryz.func233 rfl Tryz.call233 (fun ls r h=>?_)
 ·change T40 g ls=some (true,r)at h;unfold T40 at h;split at h
  ·exact D3 A87 h
  ·cases h
 ·obtain⟨e,h1,h2⟩:=F2 h;unfold S40 at h1;split at h1
  ·rename_i a0;simp only[Be,Bd]at h1;obtain⟨hg,rfl⟩:=h1;subst h2;exact⟨Ai a0+1,C6w a0 hg _ (Bh _)⟩
  ·cases h1
theorem snd23:Sound Bb U6 IB 212 (opt S23):=by
 refine E7 (E:=E23) ⟨u6_ok,E9,F0,fun g ls r h=>?_,fun f ls cs rs av h=>by(change none=some (rs,av)at h;cases h),fun w m hI nm ls cs rs av h=>(by(cases h)),fun f ls cs rs h=>by(change none=some rs at h;cases h),IB_mono⟩ Tryz.func212 rfl Tryz.call212 (fun ls r h=>?_)
 ·change T23 g ls=some (true,r)at h;unfold T23 at h;split at h
  ·exact D3 A8M h
  ·exact D3 B6u h
  ·exact D3 C68 h
  ·exact D3 D0I h
  ·exact D3 B2A h
  ·cases h
 ·obtain⟨e,h1,h2⟩:=F2 h;unfold S23 at h1;split at h1
  ·rename_i a0;simp only[Be,Bd]at h1;obtain⟨hg,rfl⟩:=h1;subst h2;exact⟨Ai a0+2+1,C1W a0 hg _ (Bh _)⟩
  ·cases h1
theorem C76:Sound Bb U6 IB 217 (opt B11):=by
 refine sound_ext Tryz.call217 fun ls r h=>?_;obtain⟨e,h1,rfl⟩:=F2 h;unfold B11 at h1;split at h1
 ·rename_i a0;simp only[Be,Bd]at h1;obtain⟨hg,rfl⟩:=h1;refine⟨rfl,rfl,fun d=>rfl,fun w g vs hI hr=>?_⟩;rw[C70 hr];exact⟨_,fun w' g'=>⟨[.int .i32 (Gu ⟨a0.toArray⟩).1,.int .i64 (Gu ⟨a0.toArray⟩).2],rfl,LRep.int _ _,LRep.int _ _,trivial⟩,Tryz.utf8_DecodeRuneInString ⟨a0.toArray⟩ w hI.1⟩
 ·cases h1
theorem B6l:Sound Bb U6 IB 190 (opt A9g):=by
 refine E7 (E:=A10) ⟨u6_ok,E9,F0,fun g ls r h=>?_,fun f ls cs rs av h=>by(change none=some (rs,av)at h;cases h),fun w m hI nm ls cs rs av h=>(by(cases h)),fun f ls cs rs h=>by(change none=some rs at h;cases h),IB_mono⟩ Tryz.func190 rfl Tryz.call190 (fun ls r h=>?_)
 ·change B26 g ls=some (true,r)at h;unfold B26 at h;split at h
  ·exact D3 C76 h
  ·cases h
 ·obtain⟨e,h1,h2⟩:=F2 h;unfold A9g at h1;split at h1
  ·rename_i a0;simp only[Be,Bd]at h1;obtain⟨hg,rfl⟩:=h1;subst h2;exact⟨Ai a0+1,C3W a0 hg _ (Bh _)⟩
  ·cases h1
theorem C1F:Sound Bb U6 IB 173 (opt B16):=by
 refine E7 (E:=A1J) ⟨u6_ok,E9,F0,fun g ls r h=>?_,fun f ls cs rs av h=>by(change none=some (rs,av)at h;cases h),fun w m hI nm ls cs rs av h=>(by(cases h)),fun f ls cs rs h=>by(change none=some rs at h;cases h),IB_mono⟩ Tryz.func173 rfl Tryz.call173 (fun ls r h=>?_)
 ·change noT g ls=some (true,r)at h;unfold noT at h;cases h
 ·obtain⟨e,h1,h2⟩:=F2 h;unfold B16 at h1;split at h1
  ·rename_i a0 a1;simp only[Be,Bd]at h1;obtain⟨hg,rfl⟩:=h1;subst h2;exact⟨Ai a0+1,C3l a0 a1 (and1 hg) (and2 hg) _ (Bh _)⟩
  ·cases h1
theorem C9M:Sound Bb U6 IB 171 (opt B3c):=by
 refine E7 (E:=A17) ⟨u6_ok,E9,F0,fun g ls r h=>?_,fun f ls cs rs av h=>by(change none=some (rs,av)at h;cases h),fun w m hI nm ls cs rs av h=>(by(cases h)),fun f ls cs rs h=>by(change none=some rs at h;cases h),IB_mono⟩ Tryz.func171 rfl Tryz.call171 (fun ls r h=>?_)
 ·change noT g ls=some (true,r)at h;unfold noT at h;cases h
 ·obtain⟨e,h1,h2⟩:=F2 h;unfold B3c at h1;split at h1
  ·rename_i a0;simp only[Be,Bd]at h1;obtain⟨hg,rfl⟩:=h1;subst h2;exact⟨4+1,D0S a0 (and1 (and1 hg)) (dec1 (and2 (and1 hg))) (dec1 (and2 hg)) _ (Bh _)⟩
  ·cases h1
theorem C4i:Sound Bb U6 IB 120 (opt A96):=by
 refine E7 (E:=A02) ⟨u6_ok,E9,F0,fun g ls r h=>?_,fun f ls cs rs av h=>by(change none=some (rs,av)at h;cases h),fun w m hI nm ls cs rs av h=>(by(cases h)),fun f ls cs rs h=>by(change none=some rs at h;cases h),IB_mono⟩ Tryz.func120 rfl Tryz.call120 (fun ls r h=>?_)
 ·change B1r g ls=some (true,r)at h;unfold B1r at h;split at h
  ·exact D3 C9M h
  ·exact D3 B65 h
  ·exact D3 C1F h
  ·cases h
 ·obtain⟨e,h1,h2⟩:=F2 h;unfold A96 at h1;split at h1
  ·rename_i a0;simp only[Be,Bd]at h1;obtain⟨hg,rfl⟩:=h1;subst h2;exact⟨5+1,B1q a0 (and1 (and1 hg)) (dec1 (and2 (and1 hg))) (and2 hg) _ (Bh _)⟩
  ·cases h1
theorem snd223:Sound Bb U6 IB 52 (opt S223):=by
 refine E7 (E:=A0G) ⟨u6_ok,E9,F0,fun g ls r h=>?_,fun f ls cs rs av h=>by(change none=some (rs,av)at h;cases h),fun w m hI nm ls cs rs av h=>(by(cases h)),fun f ls cs rs h=>by(change none=some rs at h;cases h),IB_mono⟩ Tryz.func52 rfl Tryz.call52 (fun ls r h=>?_)
 ·change B0D g ls=some (true,r)at h;unfold B0D at h;split at h
  ·exact D3 C4i h
  ·cases h
 ·obtain⟨e,h1,h2⟩:=F2 h;unfold S223 at h1;split at h1
  ·rename_i a0;simp only[Be,Bd]at h1;obtain⟨hg,rfl⟩:=h1;subst h2;exact⟨Ai a0+1,C7G a0 (and1 hg) (and2 hg) _ (Bh _)⟩
  ·cases h1
theorem D0o:Sound Bb U6 IB 222 (opt B3i):=by
 refine E7 (E:=A98) ⟨u6_ok,E9,F0,fun g ls r h=>?_,fun f ls cs rs av h=>by(change none=some (rs,av)at h;cases h),fun w m hI nm ls cs rs av h=>(by(cases h)),fun f ls cs rs h=>by(change none=some rs at h;cases h),IB_mono⟩ Tryz.func222 rfl Tryz.call222 (fun ls r h=>?_)
 ·change noT g ls=some (true,r)at h;unfold noT at h;cases h
 ·obtain⟨e,h1,h2⟩:=F2 h;unfold B3i at h1;split at h1
  ·rename_i a0;simp only[Be,Bd]at h1;obtain⟨hg,rfl⟩:=h1;subst h2;exact⟨0,C3X a0 _⟩
  ·cases h1
theorem C9u:Sound Bb U6 IB 227 (opt B1j):=by
 refine E7 (E:=B2D) ⟨u6_ok,E9,F0,fun g ls r h=>?_,fun f ls cs rs av h=>by(change none=some (rs,av)at h;cases h),fun w m hI nm ls cs rs av h=>(by(cases h)),fun f ls cs rs h=>by(change none=some rs at h;cases h),IB_mono⟩ Tryz.func227 rfl Tryz.call227 (fun ls r h=>?_)
 ·change noT g ls=some (true,r)at h;unfold noT at h;cases h
 ·obtain⟨e,h1,h2⟩:=F2 h;unfold B1j at h1;split at h1
  ·rename_i a0;simp only[Be,Bd]at h1;obtain⟨hg,rfl⟩:=h1;subst h2;exact⟨0,C1S a0 _⟩
  ·cases h1
theorem B9X:Sound Bb U6 IB 223 (opt B3t):=by
 refine E7 (E:=A2b) ⟨u6_ok,E9,F0,fun g ls r h=>?_,fun f ls cs rs av h=>by(change none=some (rs,av)at h;cases h),fun w m hI nm ls cs rs av h=>(by(cases h)),fun f ls cs rs h=>by(change none=some rs at h;cases h),IB_mono⟩ Tryz.func223 rfl Tryz.call223 (fun ls r h=>?_)
 ·change noT g ls=some (true,r)at h;unfold noT at h;cases h
 ·obtain⟨e,h1,h2⟩:=F2 h;unfold B3t at h1;split at h1
  ·rename_i a0 a1;simp only[Be,Bd]at h1;obtain⟨hg,rfl⟩:=h1;subst h2;exact⟨5+1,C9Q a0 a1 (and1 (and1 hg)) (dec1 (and2 (and1 hg))) (dec1 (and2 hg)) _ (Bh _)⟩
  ·cases h1
theorem C3H:Sound Bb U6 IB 197 (opt B3m):=by
 refine E7 (E:=B1Y) ⟨u6_ok,E9,F0,fun g ls r h=>?_,fun f ls cs rs av h=>by(change none=some (rs,av)at h;cases h),fun w m hI nm ls cs rs av h=>(by(cases h)),fun f ls cs rs h=>by(change none=some rs at h;cases h),IB_mono⟩ Tryz.func197 rfl Tryz.call197 (fun ls r h=>?_)
 ·change B1h g ls=some (true,r)at h;unfold B1h at h;split at h
  ·exact D3 D0o h
  ·exact D3 B9X h
  ·cases h
 ·obtain⟨e,h1,h2⟩:=F2 h;unfold B3m at h1;split at h1
  ·rename_i a0 a1;simp only[Be,Bd]at h1;obtain⟨hg,rfl⟩:=h1;subst h2;exact⟨0,C7m a0 a1 (and1 hg) (and2 hg) _⟩
  ·cases h1
theorem C96:Sound Bb U6 IB 226 (opt B4b):=by
 refine E7 (E:=A13) ⟨u6_ok,E9,F0,fun g ls r h=>?_,fun f ls cs rs av h=>by(change none=some (rs,av)at h;cases h),fun w m hI nm ls cs rs av h=>(by(cases h)),fun f ls cs rs h=>by(change none=some rs at h;cases h),IB_mono⟩ Tryz.func226 rfl Tryz.call226 (fun ls r h=>?_)
 ·change noT g ls=some (true,r)at h;unfold noT at h;cases h
 ·obtain⟨e,h1,h2⟩:=F2 h;unfold B4b at h1;split at h1
  ·rename_i a0;simp only[Be,Bd]at h1;obtain⟨hg,rfl⟩:=h1;subst h2;exact⟨5+1,C1Q a0 (dec1 (and1 hg)) (dec1 (and2 hg)) _ (Bh _)⟩
  ·cases h1
theorem C36:Sound Bb U6 IB 202 (opt B2k):=by
 refine E7 (E:=A1N) ⟨u6_ok,E9,F0,fun g ls r h=>?_,fun f ls cs rs av h=>by(change none=some (rs,av)at h;cases h),fun w m hI nm ls cs rs av h=>(by(cases h)),fun f ls cs rs h=>by(change none=some rs at h;cases h),IB_mono⟩ Tryz.func202 rfl Tryz.call202 (fun ls r h=>?_)
 ·change B3A g ls=some (true,r)at h;unfold B3A at h;split at h
  ·exact D3 A8M h
  ·exact D3 C96 h
  ·exact D3 C9u h
  ·cases h
 ·obtain⟨e,h1,h2⟩:=F2 h;unfold B2k at h1;split at h1
  ·rename_i a0;simp only[Be,Bd]at h1;obtain⟨hg,rfl⟩:=h1;subst h2;exact⟨7+1,D0h a0 hg _ (Bh _)⟩
  ·cases h1
theorem snd207:Sound Bb U6 IB 156 (opt S207):=by
 refine E7 (E:=A1U) ⟨u6_ok,E9,F0,fun g ls r h=>?_,fun f ls cs rs av h=>by(change none=some (rs,av)at h;cases h),fun w m hI nm ls cs rs av h=>(by(cases h)),fun f ls cs rs h=>by(change none=some rs at h;cases h),IB_mono⟩ Tryz.func156 rfl Tryz.call156 (fun ls r h=>?_)
 ·change B1Q g ls=some (true,r)at h;unfold B1Q at h;split at h
  ·exact D3 B6l h
  ·exact D3 A7Q h
  ·exact D3 C3H h
  ·cases h
 ·obtain⟨e,h1,h2⟩:=F2 h;unfold S207 at h1;split at h1
  ·rename_i a0;simp only[Be,Bd]at h1;obtain⟨hg,rfl⟩:=h1;subst h2;exact⟨Ai a0+1,C2B a0 hg _ (Bh _)⟩
  ·cases h1
theorem snd208:Sound Bb U6 IB 164 (opt S208):=by
 refine E7 (E:=A0w) ⟨u6_ok,E9,F0,fun g ls r h=>?_,fun f ls cs rs av h=>by(change none=some (rs,av)at h;cases h),fun w m hI nm ls cs rs av h=>(by(cases h)),fun f ls cs rs h=>by(change none=some rs at h;cases h),IB_mono⟩ Tryz.func164 rfl Tryz.call164 (fun ls r h=>?_)
 ·change B35 g ls=some (true,r)at h;unfold B35 at h;split at h
  ·exact D3 snd223 h
  ·exact D3 C36 h
  ·cases h
 ·obtain⟨e,h1,h2⟩:=F2 h;unfold S208 at h1;split at h1
  ·rename_i a0;simp only[Be,Bd]at h1;obtain⟨hg,rfl⟩:=h1;subst h2;exact⟨Ai a0+1,C66 a0 hg _ (Bh _)⟩
  ·cases h1
theorem C8a:Sound Bb U6 IB 193 (opt A92):=by
 refine E7 (E:=A2c) ⟨u6_ok,E9,F0,fun g ls r h=>?_,fun f ls cs rs av h=>by(change none=some (rs,av)at h;cases h),fun w m hI nm ls cs rs av h=>(by(cases h)),fun f ls cs rs h=>by(change none=some rs at h;cases h),IB_mono⟩ Tryz.func193 rfl Tryz.call193 (fun ls r h=>?_)
 ·change B3Q g ls=some (true,r)at h;unfold B3Q at h;split at h
  ·exact D3 A5o h
  ·exact D3 A5G h
  ·cases h
 ·obtain⟨e,h1,h2⟩:=F2 h;unfold A92 at h1;split at h1
  ·rename_i a0;simp only[Be,Bd]at h1;obtain⟨hg,rfl⟩:=h1;subst h2;exact⟨Ai a0+1,C6P a0 (and1 hg) (dec1 (and2 hg)) _ (Bh _)⟩
  ·cases h1
theorem C01:Sound Bb U6 IB 199 (opt B0X):=by
 refine E7 (E:=A1G) ⟨u6_ok,E9,F0,fun g ls r h=>?_,fun f ls cs rs av h=>by(change none=some (rs,av)at h;cases h),fun w m hI nm ls cs rs av h=>(by(cases h)),fun f ls cs rs h=>by(change none=some rs at h;cases h),IB_mono⟩ Tryz.func199 rfl Tryz.call199 (fun ls r h=>?_)
 ·change B3u g ls=some (true,r)at h;unfold B3u at h;split at h
  ·exact D3 A80 h
  ·exact D3 A2N h
  ·cases h
 ·obtain⟨e,h1,h2⟩:=F2 h;unfold B0X at h1;split at h1
  ·rename_i a0;simp only[Be,Bd]at h1;obtain⟨hg,rfl⟩:=h1;subst h2;exact⟨Ai a0+1,C1r a0 (and1 hg) (dec1 (and2 hg)) _ (Bh _)⟩
  ·cases h1
theorem B91:Sound Bb U6 IB 201 (opt B01):=by
 refine E7 (E:=A1A) ⟨u6_ok,E9,F0,fun g ls r h=>?_,fun f ls cs rs av h=>by(change none=some (rs,av)at h;cases h),fun w m hI nm ls cs rs av h=>(by(cases h)),fun f ls cs rs h=>by(change none=some rs at h;cases h),IB_mono⟩ Tryz.func201 rfl Tryz.call201 (fun ls r h=>?_)
 ·change noT g ls=some (true,r)at h;unfold noT at h;cases h
 ·obtain⟨e,h1,h2⟩:=F2 h;unfold B01 at h1;split at h1
  ·rename_i a0;simp only[Be,Bd]at h1;obtain⟨hg,rfl⟩:=h1;subst h2;exact⟨Ai a0+1,C3o a0 hg _ (Bh _)⟩
  ·cases h1
theorem snd209:Sound Bb U6 IB 155 (opt S209):=by
 refine E7 (E:=J3) ⟨u6_ok,E9,F0,fun g ls r h=>?_,fun f ls cs rs av h=>by(change none=some (rs,av)at h;cases h),fun w m hI nm ls cs rs av h=>(by(cases h)),fun f ls cs rs h=>by(change none=some rs at h;cases h),IB_mono⟩ Tryz.func155 rfl Tryz.call155 (fun ls r h=>?_)
 ·change B3J g ls=some (true,r)at h;unfold B3J at h;split at h
  ·exact D3 B6l h
  ·exact D3 A40 h
  ·exact D3 C2s h
  ·exact D3 C8a h
  ·exact D3 A5o h
  ·exact D3 C2M h
  ·exact D3 A7Q h
  ·cases h
 ·obtain⟨e,h1,h2⟩:=F2 h;unfold S209 at h1;split at h1
  ·rename_i a0;simp only[Be,Bd]at h1;obtain⟨hg,rfl⟩:=h1;subst h2;exact⟨Ai a0+1,C1D a0 hg _ (Bh _)⟩
  ·cases h1
theorem snd210:Sound Bb U6 IB 163 (opt S210):=by
 refine E7 (E:=M0) ⟨u6_ok,E9,F0,fun g ls r h=>?_,fun f ls cs rs av h=>by(change none=some (rs,av)at h;cases h),fun w m hI nm ls cs rs av h=>(by(cases h)),fun f ls cs rs h=>by(change none=some rs at h;cases h),IB_mono⟩ Tryz.func163 rfl Tryz.call163 (fun ls r h=>?_)
 ·change B3n g ls=some (true,r)at h;unfold B3n at h;split at h
  ·exact D3 snd223 h
  ·exact D3 A6o h
  ·exact D3 A8M h
  ·exact D3 B6u h
  ·exact D3 C01 h
  ·exact D3 A4K h
  ·exact D3 B91 h
  ·cases h
 ·obtain⟨e,h1,h2⟩:=F2 h;unfold S210 at h1;split at h1
  ·rename_i a0;simp only[Be,Bd]at h1;obtain⟨hg,rfl⟩:=h1;subst h2;exact⟨Ai a0+2+1,C7J a0 hg _ (Bh _)⟩
  ·cases h1
end Go.Aev.Bv
namespace Go.Aev
open Go.Proofs
theorem Sound.sub{P:Program}{I:Inv}{f:Bp}{S S':List L6→Option E6}(h:Sound P U6 I f S')(hs:∀ ls r,S ls=some r→S' ls=some r):Sound P U6 I f S:=⟨h.enter,fun ls r hr=>h.ok ls r (hs ls r hr)⟩
theorem A4c{S:List L6→Option (Bool×E6)}{ls:List L6}{r:E6}(h:S ls=some (true,r)):Bv.opt S ls=some r:=by unfold Bv.opt;rw[h]
theorem h52:Sound Bb U6 Bv.IB 52 (sG S52):=Bv.snd223.sub fun ls r hr=>by
 unfold sG S52 at hr;split at hr
 ·rename_i a0;have h:=E2 (X:=F52 a0) rfl rfl hr;unfold F52 at h;cases hd:isB a0&&smL a0 with
  |false=>rw[hd]at h;cases h
  |true=>rw[hd]at h;cases h;exact A4c (S:=Bv.S223) (by show some (_,_)=_;rw[hd])
 ·cases hr
theorem C7Q:Sound Bb U6 Bv.IB 155 (sG A9m):=Bv.snd209.sub fun ls r hr=>by
 unfold sG A9m at hr;split at hr
 ·rename_i a0;have h:=E2 (X:=A2D a0) rfl rfl hr;unfold A2D at h;cases hd:smS a0 with
  |false=>rw[hd]at h;cases h
  |true=>rw[hd]at h;cases h;exact A4c (S:=Bv.S209) (by show some (_,_)=_;rw[hd])
 ·cases hr
theorem C8S:Sound Bb U6 Bv.IB 156 (sG A9A):=Bv.snd207.sub fun ls r hr=>by
 unfold sG A9A at hr;split at hr
 ·rename_i a0;have h:=E2 (X:=A2h a0) rfl rfl hr;unfold A2h at h;cases hd:smS a0 with
  |false=>rw[hd]at h;cases h
  |true=>rw[hd]at h;cases h;exact A4c (S:=Bv.S207) (by show some (_,_)=_;rw[hd])
 ·cases hr
theorem C3y:Sound Bb U6 Bv.IB 163 (sG A8i):=Bv.snd210.sub fun ls r hr=>by
 unfold sG A8i at hr;split at hr
 ·rename_i a0;have h:=E2 (X:=A1E a0) rfl rfl hr;unfold A1E at h;cases hd:smS a0 with
  |false=>rw[hd]at h;cases h
  |true=>rw[hd]at h;cases h;exact A4c (S:=Bv.S210) (by show some (_,_)=_;rw[hd])
 ·cases hr
theorem C8Z:Sound Bb U6 Bv.IB 164 (sG A7s):=Bv.snd208.sub fun ls r hr=>by
 unfold sG A7s at hr;split at hr
 ·rename_i a0;have h:=E2 (X:=A1a a0) rfl rfl hr;unfold A1a at h;cases hd:smS a0 with
  |false=>rw[hd]at h;cases h
  |true=>rw[hd]at h;cases h;exact A4c (S:=Bv.S208) (by show some (_,_)=_;rw[hd])
 ·cases hr
theorem C3p:Sound Bb U6 Bv.IB 212 (sG A8F):=Bv.snd23.sub fun ls r hr=>by
 unfold sG A8F at hr;split at hr
 ·rename_i a0;have h:=E2 (X:=A14 a0) rfl rfl hr;unfold A14 at h;cases hd:smL a0 with
  |false=>rw[hd]at h;cases h
  |true=>rw[hd]at h;cases h;exact A4c (S:=Bv.S23) (by show some (_,_)=_;rw[hd])
 ·cases hr
theorem C0a:Sound Bb U6 Bv.IB 214 (sG A9l):=Bv.snd21.sub fun ls r hr=>by
 unfold sG A9l at hr;split at hr
 ·rename_i a0;have h:=E2 (X:=A1M a0) rfl rfl hr;unfold A1M at h;cases hd:D0 a0 with
  |false=>rw[hd]at h;cases h
  |true=>rw[hd]at h;cases h;exact A4c (S:=Bv.S21) (by show some (_,_)=_;rw[hd])
 ·cases hr
theorem h47:Sound Bb U6 Bv.IB 47 (sG S47):=by
 refine Bv.sound_ext Tryz.call47 fun ls r h=>?_;unfold sG S47 at h;split at h
 ·rename_i a0 a1;have h:=E2 (X:=F47 a0 a1) rfl rfl h;unfold F47 at h;cases hd:decide (a0.length≤2)&&decide (0≤a1)&&decide (a1≤1000)with
  |false=>rw[hd]at h;cases h
  |true=>
   rw[hd]at h;cases h;have c1:=Bv.dec1 (Bv.and1 (Bv.and1 hd));have c2:=Bv.dec1 (Bv.and2 (Bv.and1 hd));have c3:=Bv.dec1 (Bv.and2 hd);refine⟨rfl,rfl,fun d=>rfl,fun w g vs _ hr=>?_⟩;rw[Bv.rep_strint hr];have aC:(Fs a0.toArray).size*a1.toNat≤140737488355328:=by
    rw[Bv.szB];have:a0.length*a1.toNat≤2*1000:=Nat.mul_le_mul c1 (by omega);omega
   have:=Tryz.strings_Repeat ⟨a0.toArray⟩ a1.toNat w (by omega) aC;rw[show((a1.toNat:Nat):Int)=a1 by omega]at this;exact⟨_,fun w' g'=>LRep.str _,this⟩
 ·cases h
theorem h48:Sound Bb U6 Bv.IB 48 (sG S48):=by
 refine Bv.sound_ext Tryz.call48 fun ls r h=>?_;unfold sG S48 at h;split at h
 ·rename_i a0 a1;have h:=E2 (X:=F48 a0 a1) rfl rfl h;unfold F48 at h;cases hd:smS a0&&(a1==[93])with
  |false=>rw[hd]at h;cases h
  |true=>
   rw[hd]at h;cases h;have c2:a1=[93]:=by simpa using Bv.and2 hd
   subst c2;refine⟨rfl,rfl,fun d=>rfl,fun w g vs _ hr=>?_⟩;rw[Bv.rep_str2 hr];exact⟨_,fun w' g'=>LRep.int _ _,(Tryz.strings_Count_one ⟨a0.toArray⟩ 93 w).mono fun e w' ⟨he,hw⟩=>⟨he,hw ▸ Fv _ _⟩⟩
 ·cases h
theorem h65:Sound Bb U6 Bv.IB 65 (sG S65):=by
 refine Bv.sound_ext Tryz.call65 fun ls r h=>?_;unfold sG S65 at h;split at h
 ·rename_i a0 a1;have h:=E2 (X:=F65 a0 a1) rfl rfl h;unfold F65 at h;cases hd:smS a0&&(a1==[32])with
  |false=>rw[hd]at h;cases h
  |true=>
   rw[hd]at h;cases h;refine⟨rfl,rfl,fun d=>rfl,fun w g vs _ hr=>?_⟩;rw[Bv.rep_str2 hr];exact⟨_,fun w' g'=>LRep.str _,(Tryz.strings_TrimPrefix ⟨a0.toArray⟩ ⟨a1.toArray⟩ w).mono fun e w' ⟨he,hw⟩=>⟨he,hw ▸ Fv _ _⟩⟩
 ·cases h
theorem hbI:HB Bv.IB:=⟨Bv.IB_mono,B15,C6z,h47,h48,h65,C7Q,C8S,C3y,C8Z,C3p,C0a,h52⟩
@[reducible] def gd{R:Type}(c:Bool)(x:Option R):Option R:=bif c then x else none
abbrev B6:=List L6×List (List L6)
@[reducible] def kC:List (List KD):=[[.sl .tok none,.int .i64,.int .i64,.int .i64,.int .i64]]
@[reducible] def kP:List (List KD):=[[.ptr 900000 C6,.sl .u8 (some 92000001)]]
@[reducible] def kO:List (List KD):=[[.sl .u8 (some 92000000)]]
@[reducible] def bq(d o:Nat):Bool:=Ci d 900000&&Ci o 0
@[reducible] def pq(d o:Nat):Bool:=Ci d 900000&&Ci o C6
@[reducible] def pR(ks:List KD)(F:Option E6):Option (Bool×E6):=some (okR ks F,J4 ks F)
@[reducible] def pB(ks:List KD)(io:List (List KD))(F:Option (List L6×List (List L6))):Option (Bool×List L6×List (List L6)):=some (okB ks io F,rsR ks F,csR io F)
abbrev S1T:=List L6→Option (Bool×E6)
abbrev S2T:=List L6→List (List L6)→Option (Bool×List L6×List (List L6))
def lkT:List (Bp×S1T)→T6
 |[],_,_=>none
 |(g,S)::r,f,ls=>bif Ci f g then S ls else lkT r f ls
def lkB:List (Bp×S2T)→TB6
 |[],_,_,_=>none
 |(g,S)::r,f,ls,cs=>bif Ci f g then S ls cs else lkB r f ls cs
def lkD:List (Nat×List Nat)→Nat→List Nat
 |[],_=>[]
 |(g,l)::r,n=>bif Ci n g then l else lkD r n
def noD:Nat→List Nat:=fun _=>[]
def lkN:List (Nat×Nat)→Nat→Nat
 |[],n=>100+n
 |(a,b)::r,n=>bif Ci n a then b else lkN r n
def bpG(TB:List (Bp×S2T))(f:Bp):Option (List Nat):=bif TB.any (fun p=>Ci p.1 f)then some [0]else none
def mkE(T:List (Bp×S1T))(TB:List (Bp×S2T))(dr:Nat→List Nat)(nt:Nat)(mb:List Nat)(np:Nat)(oz:List Nat)(bn:List (Nat×Nat)):Env Ty6 A4:=
 {U:=U6,tb:=tb6,T:=lkT T,cons:=fun _=>none,drop:=dr,nt:=nt,zr:=zr6,mb:=fun d=>mem d mb,np:=np,oz:=fun d=>mem d oz,bn:=lkN bn,bp:=bpG TB,TBg:=lkB TB}
section
variable {R:Type}
def LP(E:Env Ty6 A4)(nn:Nat)(f:Func)(p:List Nat)(hid n:Nat)(s:S6)(K:Ex→S6→Option R):Option R:=C9 (lbN nn E (A0 f p) hid) n s K
def sk(E:Env Ty6 A4)(nn:Nat)(f:Func)(p:List Nat)(K:Ex→S6→Option R):Ex→S6→Option R:=B9 (B1 E nn (A0 f p)) K
end
section
variable {I:Inv}
def A34(I:Inv):List (Bp×S1T)→Prop
 |[]=>True
 |p::r=>Sound Bb U6 I p.1 (sG p.2)∧A34 I r
def A3a(I:Inv):List (Bp×S2T)→Prop
 |[]=>True
 |p::r=>H9 Bb U6 I p.1 (sGB p.2)∧A3a I r
theorem B0g{f:Bp}{ls:List L6}{r:E6}:∀{T:List (Bp×S1T)},A34 I T→lkT T f ls=some (true,r)→(∀ args w,(Cx f args).run Bb w=.ok (.enter f args) w)∧A1R Bb U6 I f ls r
 |[],_,h=>by cases h
 |(g,S)::T,hT,h=>by
  obtain⟨h1,h2⟩:=hT;unfold lkT at h;cases hb:Ci f g with
  |true=>rw[hb]at h;cases Fy hb;exact C89 h1 h
  |false=>rw[hb]at h;exact B0g h2 h
theorem B2e{f:Bp}{ls:List L6}{cs:List (List L6)}{rs:List L6}{av:List (List L6)}:∀{T:List (Bp×S2T)},A3a I T→M1 (lkB T f ls cs)=some (rs,av)→(∀ args w,(Cx f args).run Bb w=.ok (.enter f args) w)∧X9 Bb U6 I f ls cs rs av
 |[],_,h=>by cases h
 |(g,S)::T,hT,h=>by
  obtain⟨h1,h2⟩:=hT;unfold lkB at h;cases hb:Ci f g with
  |true=>rw[hb]at h;cases Fy hb;exact D0g h1 h
  |false=>rw[hb]at h;exact B2e h2 h
variable {T:List (Bp×S1T)}{TB:List (Bp×S2T)}{dr:Nat→List Nat}{nt:Nat}{mb:List Nat}{np:Nat}{oz:List Nat}{bn:List (Nat×Nat)}{f:Bp}{fn:Func}
theorem B3X(hb:HB I)(hT:A34 I T)(hB:A3a I TB):A9I Bb (mkE T TB dr nt mb np oz bn) I:=
 ⟨u6_ok,E9,F0,fun _ _ _ h=>B0g hT h,fun _ _ _ _ _ h=>B2e hB h,fun _ _ _ _ _ _ _ _ h=>(by cases h),fun f ls cs rs h=>(by cases h),hb.mono⟩
theorem F8(E:Env Ty6 A4)(hb:HB I)(hE:E=mkE T TB dr nt mb np oz bn)(hT:A34 I T)(hB:A3a I TB)(hf:Tryz.prog.funcs[f]?=some fn)(dL:nt=fn.ntmps)(he:∀ args w,(Cx f args).run Bb w=.ok (.enter f args) w)
  {S:List L6→Option E6}(hS:∀ ls r,S ls=some r→A2 E NN fn ls=some r):Sound Bb U6 I f S:=
 by subst hE;exact E7 (B3X hb hT hB) hf dL he fun ls r h=>⟨NN,hS ls r h⟩
theorem P1(E:Env Ty6 A4)(hb:HB I)(hE:E=mkE T TB dr nt mb np oz bn)(hT:A34 I T)(hB:A3a I TB)(hf:Tryz.prog.funcs[f]?=some fn)(dL:nt=fn.ntmps)(he:∀ args w,(Cx f args).run Bb w=.ok (.enter f args) w){ps:List Nat}
  {S:List L6→List (List L6)→Option (List L6×List (List L6))}(hS:∀ ls cs r,S ls cs=some r→I7 E NN fn ps ls cs=some r):H9 Bb U6 I f S:=
 by subst hE;exact B76 (B3X hb hT hB) hf dL he fun ls cs r h=>⟨NN,hS ls cs r h⟩
theorem A6p(E:Env Ty6 A4)(hb:HB I)(hE:E=mkE T TB dr nt mb np oz bn)(hT:A34 I T)(hB:A3a I TB)(hf:Tryz.prog.funcs[f]?=some fn)(dL:nt=fn.ntmps)(he:∀ args w,(Cx f args).run Bb w=.ok (.enter f args) w)
  {S:List L6→Option E6}(hS:∀ ls r,S ls=some r→∃ r0,A2 E NN fn ls=some r0∧r=A0M r0∧(∀ d ls,r0≠ .bx d ls)∧∀ ls,r0≠ .st ls):Sound Bb U6 I f S:=
 by subst hE;exact Sound.close (S0:=A2 (mkE T TB dr nt mb np oz bn) NN fn) (E7 (B3X hb hT hB) hf dL he fun ls r h=>⟨NN,h⟩) hS
end
def A3t:Env Ty6 A4:=mkE [] [] (lkD [(0,[4]),(2,[6,7,8]),(3,[10,11,17]),(4,[9,12,13,14,15,16]),(5,[0,1,5,17]),(6,[0,1,5,9])]) 18 [] 0 [] []
def B8y(a0:Int)(a1:List UInt8)(x5:Int):S6:=⟨[(0,.one (.int .i32 a0)),(1,.one (.str a1)),(5,.one (.int .i64 x5))],[]⟩
def C2d(a0:Int)(a1:List UInt8)(x5:Int)(x9:Bool):S6:=⟨[(0,.one (.int .i32 a0)),(1,.one (.str a1)),(5,.one (.int .i64 x5)),(9,.one (.bool x9))],[]⟩
def C0F(a0:Int)(a1:List UInt8):S6:=⟨[(4,.one (.bool true))],[]⟩
def A7I{R:Type}(nn:Nat)(a0:Int)(a1:List UInt8)(x5:Int)(k1:Option R)(k2:Int→Option R)(k3:Int→Bool→Option R):Option R:=let z1:=decide (x5<(Ai a1:Int));bif z1 then(match idx a1 x5 with|none=>none|some y2=>(let z3:=(Ba .i32 (Di y2:Int))==a0;bif z3 then k1 else(k2 (Ba .i64 (x5+1)))))else(k3 x5 z1)
def A3G{R:Type}(nn:Nat)(a0:Int)(a1:List UInt8):Nat→Int→(Option R)→(Int→Bool→Option R)→Option R
 |0,_,_,_=>none
 |n+1,x5,k1,k3=>A7I nn a0 a1 x5 k1 (fun x5=>A3G nn a0 a1 n x5 k1 k3) k3
theorem B9b{R:Type}(nn:Nat)(a0:Int)(a1:List UInt8):∀(n:Nat)(x5:Int)(K:Ex→S6→Option R),LP A3t nn Ea [1,0,1,0,0] 10002 n (B8y a0 a1 x5) K=A3G nn a0 a1 n x5 (K .ret (C0F a0 a1)) (fun x5 x9=>K (.exit 0) (C2d a0 a1 x5 x9))
 |0,_,_=>rfl
 |n+1,x5,K=>by
  rw[A3G];simp only[←B9b nn a0 a1 n _ K];kernel_rfl
def A6k(nn:Nat)(a0:Int)(a1:List UInt8):Option E6:=A3G nn a0 a1 nn 0 (some (.one (.bool true))) (fun z1 z2=>some (.one (.bool false)))
def W3(a0:Int)(a1:List UInt8):Option E6:=A6k NN a0 a1
theorem C7g(nn:Nat){a0:Int}{a1:List UInt8}:A2 A3t nn Ea [.int .i32 a0,.str a1]=A6k nn a0 a1:=by
 have h:A2 A3t nn Ea [.int .i32 a0,.str a1]=LP A3t nn Ea [1,0,1,0,0] 10002 nn (B8y a0 a1 0) (A8 0 (sk A3t nn Ea [1,1] (B2 A3t Tryz.f174.results.toList))):=by kernel_rfl
 rw[h];simp only[B9b];show _=_;kernel_rfl
def A28:S1T
 |[.int .i32 a0,.str a1]=>pR [.bool] (W3 a0 a1)
 |_=>none
def B6V:Env Ty6 A4:=mkE [] [] noD 15 [] 0 [] []
def A1x(a0:Int):Option E6:=let j1:Bool→Option E6:=fun z2=>bif(decide (a0≥0))==true then(some (.one (.bool (decide (a0≤1114111)))))else(some (.one (.bool false)));bif(decide (a0≥55296))==true then(let z3:=decide (a0≤57343);bif z3 then(some (.one (.bool false)))else(j1 z3))else(bif false then(some (.one (.bool false)))else(j1 false))
theorem C9K{a0:Int}:A2 B6V NN Tryz.f175 [.int .i32 a0]=A1x a0:=by kernel_rfl
def A7w:S1T
 |[.int .i32 a0]=>pR [.bool] (A1x a0)
 |_=>none
def B7l:Env Ty6 A4:=mkE [(174,A28),(175,A7w)] [] noD 13 [] 0 [] []
def A29(a0:Int):Option E6:=let z1:=decide (a0<32);bif z1 then(let r2:=W3 a0 [9,10,13];gd (okR [.bool] r2) (some (.one (.bool (lB (gL r2 0))))))else(bif(decide (a0<65536))==true then(gd (okR [.bool] (A1x a0)) (some (.one (.bool (lB (gL (A1x a0) 0))))))else(some (.one (.bool false))))
theorem D0m{a0:Int}:A2 B7l NN Tryz.f121 [.int .i32 a0]=A29 a0:=by kernel_rfl
def B1T:S1T
 |[.int .i32 a0]=>pR [.bool] (A29 a0)
 |_=>none
def E53:Env Ty6 A4:=mkE [(121,B1T)] [] (lkD [(0,[4]),(3,[7,8,9]),(4,[11,12]),(5,[10,13,14,15,16]),(6,[17,18,19,20,21,22,23,24]),(7,[17,25,26,27]),(8,[0,1,6,10,28]),(9,[29,30,31,32]),(10,[5,29,33,34,35])]) 36 [] 0 [] []
def B8h(a0:List Int)(a1:Bool)(x5:List Int)(x6:Int):S6:=⟨[(0,.one (.sl .i32 a0 none)),(1,.one (.bool a1)),(5,.one (.sl .i32 x5 (some 105))),(6,.one (.int .i64 x6))],[105]⟩
def D0t(a0:List Int)(a1:Bool)(x5:List Int)(x6:Int)(bC:Bool):S6:=⟨[(0,.one (.sl .i32 a0 none)),(1,.one (.bool a1)),(5,.one (.sl .i32 x5 (some 105))),(6,.one (.int .i64 x6)),(10,.one (.bool bC))],[105]⟩
def A83{R:Type}(nn:Nat)(a0:List Int)(a1:Bool)(x5:List Int)(x6:Int)(k1:(List Int)→Int→Option R)(k2:(List Int)→Int→Bool→Option R):Option R:=let z1:=decide (x6<(Ai a0:Int));bif z1 then(let j2:(List Int)→Int→Option R:=fun z3 z4=>k1 z3 (Ba .i64 (z4+1));match idx a0 x6 with|none=>none|some y5=>(gd (okR [.bool] (A29 y5)) (bif(lB (gL (A29 y5) 0))then(match idx a0 x6 with|none=>none|some y6=>(gd (A3 (Ai x5+1) 4) (j2 (x5++[y6]) x6)))else(gd (A3 (Ai x5+1) 4) (j2 (x5++[-1]) x6)))))else(k2 x5 x6 z1)
def A4B{R:Type}(nn:Nat)(a0:List Int)(a1:Bool):Nat→(List Int)→Int→((List Int)→Int→Bool→Option R)→Option R
 |0,_,_,_=>none
 |n+1,x5,x6,k2=>A83 nn a0 a1 x5 x6 (fun x5 x6=>A4B nn a0 a1 n x5 x6 k2) k2
theorem B80{R:Type}(nn:Nat)(a0:List Int)(a1:Bool):∀(n:Nat)(x5:List Int)(x6:Int)(K:Ex→S6→Option R),LP E53 nn El [1,1,0,1,0,0] 10003 n (B8h a0 a1 x5 x6) K=A4B nn a0 a1 n x5 x6 (fun x5 x6 bC=>K (.exit 0) (D0t a0 a1 x5 x6 bC))
 |0,_,_,_=>rfl
 |n+1,x5,x6,K=>by
  rw[A4B];simp only[←B80 nn a0 a1 n _ _ K];kernel_rfl
def A6I(nn:Nat)(a0:List Int)(a1:Bool):Option E6:=A4B nn a0 a1 nn [] 0 (fun z1 z2 z3=>bif(!a1)then(gd (A3 (Ai z1+1) 4) (gd (A3 (Ai (z1++[-1])+1) 4) (some (.one (.sl .i32 ((z1++[-1])++[-2]) (some 1))))))else(gd (A3 (Ai z1+1) 4) (some (.one (.sl .i32 (z1++[-2]) (some 1))))))
def F53(a0:List Int)(a1:Bool):Option E6:=A6I NN a0 a1
theorem B0V(nn:Nat){a0:List Int}{a1:Bool}:A2 E53 nn El [.sl .i32 a0 none,.bool a1]=A6I nn a0 a1:=by
 have h:A2 E53 nn El [.sl .i32 a0 none,.bool a1]=LP E53 nn El [1,1,0,1,0,0] 10003 nn (B8h a0 a1 [] 0) (A8 0 (sk E53 nn El [1,1,1] (B2 E53 Tryz.f53.results.toList))):=by kernel_rfl
 rw[h];simp only[B80];show _=_;kernel_rfl
def S53:S1T
 |[.sl .i32 a0 none,.bool a1]=>pR [.sl .i32 (some 1)] (F53 a0 a1)
 |_=>none
def A3M:Env Ty6 A4:=mkE [] [] (lkD [(0,[2]),(1,[5]),(3,[6,7,8]),(4,[10,11,23,43]),(5,[9,12,13,14,15,16,17,18,19,20,21,22]),(6,[23,24,25,26,27,28,29,30,31,32,33,34,35,36,37,38,39,40,41,42]),(7,[43,44,45,46,47,48]),(8,[0,3,4,9,49])]) 50 [] 0 [] []
def B9T(a0:List Int)(x3:List Int)(x4:Int):S6:=⟨[(0,.one (.sl .i32 a0 none)),(3,.one (.sl .i64 x3 (some 105))),(4,.one (.int .i64 x4))],[105]⟩
def C0T(a0:List Int)(x3:List Int)(x4:Int)(x9:Bool):S6:=⟨[(0,.one (.sl .i32 a0 none)),(3,.one (.sl .i64 x3 (some 105))),(4,.one (.int .i64 x4)),(9,.one (.bool x9))],[105]⟩
def A6X{R:Type}(nn:Nat)(a0:List Int)(x3:List Int)(x4:Int)(k1:(List Int)→Int→Option R)(k2:(List Int)→Int→Bool→Option R):Option R:=let z1:=decide (x4<(Ai a0:Int));bif z1 then(let j2:(List Int)→Int→Bool→Option R:=fun z3 z4 z5=>k1 z3 (Ba .i64 (z4+1));let j6:(List Int)→Int→Bool→Option R:=fun z7 z8 z9=>k1 z7 (Ba .i64 (z8+1));let sa:(List Int)→Int→Option R:=fun dy dM=>k1 dy (Ba .i64 (dM+1));let wv:(List Int)→Int→Bool→Option R:=fun fB eo gX=>let qT:(List Int)→Int→Bool→Option R:=fun iy gF z20=>gd (A3 (Ai iy+1) 8) (sa (iy++[Ba .i64 (gF+1)]) gF);match idx a0 eo with|none=>none|some yB=>(bif(yB==13)==true then(bif(decide ((Ba .i64 (eo+1))<(Ai a0:Int)))==true then(match idx a0 (Ba .i64 (eo+1))with|none=>none|some tV=>(bif(tV==10)then(j6 fB eo (tV==10))else(qT fB eo (tV==10))))else(bif false then(j6 fB eo false)else(qT fB eo false)))else(bif false then(j6 fB eo false)else(qT fB eo false)));match idx a0 x4 with|none=>none|some yC=>(bif(yC !=13)==true then(match idx a0 x4 with|none=>none|some tW=>(bif(tW !=10)then(j2 x3 x4 (tW !=10))else(wv x3 x4 (tW !=10))))else(bif false then(j2 x3 x4 false)else(wv x3 x4 false))))else(k2 x3 x4 z1)
def A2u{R:Type}(nn:Nat)(a0:List Int):Nat→(List Int)→Int→((List Int)→Int→Bool→Option R)→Option R
 |0,_,_,_=>none
 |n+1,x3,x4,k2=>A6X nn a0 x3 x4 (fun x3 x4=>A2u nn a0 n x3 x4 k2) k2
theorem B9S{R:Type}(nn:Nat)(a0:List Int):∀(n:Nat)(x3:List Int)(x4:Int)(K:Ex→S6→Option R),LP A3M nn Ch [1,1,0,1,0,0] 10003 n (B9T a0 x3 x4) K=A2u nn a0 n x3 x4 (fun x3 x4 x9=>K (.exit 0) (C0T a0 x3 x4 x9))
 |0,_,_,_=>rfl
 |n+1,x3,x4,K=>by
  rw[A2u];simp only[←B9S nn a0 n _ _ K];kernel_rfl
def A4Q(nn:Nat)(a0:List Int):Option E6:=A2u nn a0 nn [0] 0 (fun z1 z2 z3=>some (.one (.sl .i64 z1 (some 1))))
def A0V(a0:List Int):Option E6:=A4Q NN a0
theorem C1x(nn:Nat){a0:List Int}:A2 A3M nn Ch [.sl .i32 a0 none]=A4Q nn a0:=by
 have h:A2 A3M nn Ch [.sl .i32 a0 none]=LP A3M nn Ch [1,1,0,1,0,0] 10003 nn (B9T a0 [0] 0) (A8 0 (sk A3M nn Ch [1,1,1] (B2 A3M Tryz.f122.results.toList))):=by kernel_rfl
 rw[h];simp only[B9S];show _=_;kernel_rfl
def B3Y:S1T
 |[.sl .i32 a0 none]=>pR [.sl .i64 (some 1)] (A0V a0)
 |_=>none
def E54:Env Ty6 A4:=mkE [(122,B3Y)] [] (lkD [(0,[2]),(2,[8,9]),(4,[10,11,12]),(5,[6,7,14,15,35]),(6,[13,16,17,18]),(7,[19,20,21,22]),(8,[23,24,25,26,27,28]),(9,[23,29,30,31,32]),(10,[33,34]),(11,[36,37]),(12,[35,38,39,40,41,42,43,44,45,46,47,48,49,50]),(13,[0,3,4,5,13,51])]) 52 [] 0 [] []
def A9a(a0:List Int)(x3:List C2)(x4:List Int)(x5:Int):S6:=⟨[(0,.one (.sl .i32 a0 none)),(3,.one (.sl .pos x3 (some 103))),(4,.one (.sl .i64 x4 (some 1009))),(5,.one (.int .i64 x5))],[103,1009]⟩
def B6j(a0:List Int)(x3:List C2)(x4:List Int)(x5:Int)(kt:Bool):S6:=⟨[(0,.one (.sl .i32 a0 none)),(3,.one (.sl .pos x3 (some 103))),(4,.one (.sl .i64 x4 (some 1009))),(5,.one (.int .i64 x5)),(13,.one (.bool kt))],[103,1009]⟩
def B1G(a0:List Int)(x3:List C2)(x4:List Int)(x5 x6 x7:Int):S6:=⟨[(0,.one (.sl .i32 a0 none)),(3,.one (.sl .pos x3 (some 103))),(4,.one (.sl .i64 x4 (some 1009))),(5,.one (.int .i64 x5)),(6,.one (.int .i64 x6)),(7,.one (.int .i64 x7))],[103,1009]⟩
def C8f(a0:List Int)(x3:List C2)(x4:List Int)(x5 x6 x7:Int)(tX:Bool):S6:=⟨[(0,.one (.sl .i32 a0 none)),(3,.one (.sl .pos x3 (some 103))),(4,.one (.sl .i64 x4 (some 1009))),(5,.one (.int .i64 x5)),(6,.one (.int .i64 x6)),(7,.one (.int .i64 x7)),(35,.one (.bool tX))],[103,1009]⟩
def A3K{R:Type}(nn:Nat)(a0:List Int)(x3:List C2)(x4:List Int)(x5 x6 x7:Int)(k1:(List C2)→(List Int)→Int→Int→Int→Option R)(k2:(List C2)→(List Int)→Int→Int→Int→Bool→Option R):Option R:=let z1:=decide (x7<x6);bif z1 then(match idx x4 x5 with|none=>none|some y2=>(gd (A3 (Ai x3+1) 16) (k1 (x3++[(⟨Ba .i64 (x5+1),Ba .i64 ((Ba .i64 (x7 - y2))+1)⟩:C2)]) x4 x5 x6 (Ba .i64 (x7+1)))))else(k2 x3 x4 x5 x6 x7 z1)
def A3d{R:Type}(nn:Nat)(a0:List Int):Nat→(List C2)→(List Int)→Int→Int→Int→((List C2)→(List Int)→Int→Int→Int→Bool→Option R)→Option R
 |0,_,_,_,_,_,_=>none
 |n+1,x3,x4,x5,x6,x7,k2=>A3K nn a0 x3 x4 x5 x6 x7 (fun x3 x4 x5 x6 x7=>A3d nn a0 n x3 x4 x5 x6 x7 k2) k2
theorem B5c{R:Type}(nn:Nat)(a0:List Int):∀(n:Nat)(x3:List C2)(x4:List Int)(x5 x6 x7:Int)(K:Ex→S6→Option R),LP E54 nn Ca [1,1,1,0,1,0,0,1,0,0,1,1,1,0,0] 10010 n (B1G a0 x3 x4 x5 x6 x7) K=A3d nn a0 n x3 x4 x5 x6 x7 (fun x3 x4 x5 x6 x7 tX=>K (.exit 2) (C8f a0 x3 x4 x5 x6 x7 tX))
 |0,_,_,_,_,_,_=>rfl
 |n+1,x3,x4,x5,x6,x7,K=>by
  rw[A3d];simp only[←B5c nn a0 n _ _ _ _ _ K];kernel_rfl
def A3p{R:Type}(nn:Nat)(a0:List Int)(x3:List C2)(x4:List Int)(x5:Int)(k1:(List C2)→(List Int)→Int→Option R)(k2:(List C2)→(List Int)→Int→Bool→Option R):Option R:=let z1:=decide (x5<(Ai x4:Int));bif z1 then(let j2:(List C2)→(List Int)→Int→Int→Int→Bool→Option R:=fun z3 z4 z5 z6 z7 z8=>k1 z3 z4 (Ba .i64 (z5+1));let z9:=decide ((Ba .i64 (x5+1))<(Ai x4:Int));bif z9 then(match idx x4 (Ba .i64 (x5+1))with|none=>none|some iq=>(match idx x4 x5 with|none=>none|some lv=>(A3d nn a0 nn x3 x4 x5 iq lv (fun dM fJ fB eo gX iz=>j2 dM fJ fB eo gX iz))))else(match idx x4 x5 with|none=>none|some nZ=>(A3d nn a0 nn x3 x4 x5 (Ba .i64 ((Ai a0:Int)+1)) nZ (fun gF z20 z21 mT tY iA=>j2 gF z20 z21 mT tY iA))))else(k2 x3 x4 x5 z1)
def A4L{R:Type}(nn:Nat)(a0:List Int):Nat→(List C2)→(List Int)→Int→((List C2)→(List Int)→Int→Bool→Option R)→Option R
 |0,_,_,_,_=>none
 |n+1,x3,x4,x5,k2=>A3p nn a0 x3 x4 x5 (fun x3 x4 x5=>A4L nn a0 n x3 x4 x5 k2) k2
theorem B6D{R:Type}(nn:Nat)(a0:List Int):∀(n:Nat)(x3:List C2)(x4:List Int)(x5:Int)(K:Ex→S6→Option R),LP E54 nn Ca [1,1,1,0,1,0,0] 10004 n (A9a a0 x3 x4 x5) K=A4L nn a0 n x3 x4 x5 (fun x3 x4 x5 kt=>K (.exit 0) (B6j a0 x3 x4 x5 kt))
 |0,_,_,_,_=>rfl
 |n+1,x3,x4,x5,K=>by
  rw[A4L];simp only[←B6D nn a0 n _ _ _ K];have h:LP E54 nn Ca [1,1,1,0,1,0,0] 10004 (n+1) (A9a a0 x3 x4 x5) K=let z1:=decide (x5<(Ai x4:Int));bif z1 then(let j2:(List C2)→(List Int)→Int→Int→Int→Bool→Option R:=fun z3 z4 z5 z6 z7 z8=>LP E54 nn Ca [1,1,1,0,1,0,0] 10004 n (A9a a0 z3 z4 (Ba .i64 (z5+1))) K;let z9:=decide ((Ba .i64 (x5+1))<(Ai x4:Int));bif z9 then(match idx x4 (Ba .i64 (x5+1))with|none=>none|some iq=>(match idx x4 x5 with|none=>none|some lv=>(LP E54 nn Ca [1,1,1,0,1,0,0,1,0,0,1,1,1,0,0] 10010 nn (B1G a0 x3 x4 x5 iq lv) (A8 2 (A8 1 (sk E54 nn Ca [1,1,1,0,1,0,0,1,1] (A1z (E54.drop 10004) (A1w (lbN nn E54 (A0 Ca [1,1,1,0,1,0,0]) 10004) n K))))))))else(match idx x4 x5 with|none=>none|some nZ=>(LP E54 nn Ca [1,1,1,0,1,0,0,1,0,0,1,1,1,0,0] 10010 nn (B1G a0 x3 x4 x5 (Ba .i64 ((Ai a0:Int)+1)) nZ) (A8 2 (A8 1 (sk E54 nn Ca [1,1,1,0,1,0,0,1,1] (A1z (E54.drop 10004) (A1w (lbN nn E54 (A0 Ca [1,1,1,0,1,0,0]) 10004) n K))))))))else(K (.exit 0) (B6j a0 x3 x4 x5 z1)):=by kernel_rfl
  rw[h];simp only[B5c];show _=_;kernel_rfl
def A2q(nn:Nat)(a0:List Int):Option E6:=gd (okR [.sl .i64 (some 1)] (A0V a0)) (A4L nn a0 nn [] (B1u (gL (A0V a0) 0)) 0 (fun z1 z2 z3 z4=>some (.one (.sl .pos z1 (some 1)))))
def F54(a0:List Int):Option E6:=A2q NN a0
theorem B3w(nn:Nat){a0:List Int}:A2 E54 nn Ca [.sl .i32 a0 none]=A2q nn a0:=by
 have h:A2 E54 nn Ca [.sl .i32 a0 none]=gd (okR [.sl .i64 (some 1)] (A0V a0)) (LP E54 nn Ca [1,1,1,0,1,0,0] 10004 nn (A9a a0 [] (B1u (gL (A0V a0) 0)) 0) (A8 0 (sk E54 nn Ca [1,1,1,1] (B2 E54 Tryz.f54.results.toList)))):=by kernel_rfl
 rw[h];simp only[B6D];show _=_;kernel_rfl
def S54:S1T
 |[.sl .i32 a0 none]=>pR [.sl .pos (some 1)] (F54 a0)
 |_=>none
def B7e:Env Ty6 A4:=mkE [(174,A28)] [] noD 9 [] 0 [] []
def A2J(a0:Int):Option E6:=bif(a0==65279)==false then(let r1:=W3 a0 [9,10,13,32,44];gd (okR [.bool] r1) (some (.one (.bool (lB (gL r1 0))))))else(some (.one (.bool true)))
theorem C0H{a0:Int}:A2 B7e NN Tryz.f176 [.int .i32 a0]=A2J a0:=by kernel_rfl
def B14:S1T
 |[.int .i32 a0]=>pR [.bool] (A2J a0)
 |_=>none
def E123:Env Ty6 A4:=mkE [(176,B14)] [] (lkD [(0,[4]),(1,[5,6,7,8]),(2,[9,10,11]),(3,[9,12,13,14,15]),(4,[0,1,16,17]),(5,[18,19,20,21,22,23,24,25,26,27,28,29,30,31,32,33,34,35]),(6,[36,37,38]),(10001,[36]),(10005,[16])]) 39 [] 0 [] []
def A5e(a0:List Int)(a1:Int)(x1:Int):S6:=⟨[(0,.one (.sl .i32 a0 none)),(1,.one (.int .i64 x1))],[]⟩
def B5e(a0:List Int)(a1:Int)(x4:Int):S6:=⟨[(4,.one (.int .i64 x4))],[]⟩
def D1r(a0:List Int)(a1:Int)(x1:Int)(sc:Bool):S6:=⟨[(0,.one (.sl .i32 a0 none)),(1,.one (.int .i64 x1)),(36,.one (.bool sc))],[]⟩
def A88{R:Type}(nn:Nat)(a0:List Int)(a1:Int)(x1:Int)(k1:Int→Option R)(k2:Int→Bool→Option R):Option R:=let j1:Int→Bool→Option R:=fun z2 z3=>k1 (Ba .i64 (z2+1));match idx a0 x1 with|none=>none|some y4=>(bif(decide (y4≥0))==true then(match idx a0 x1 with|none=>none|some y5=>(bif(y5 !=10)==true then(match idx a0 x1 with|none=>none|some y6=>(bif(y6 !=13)then(j1 x1 (y6 !=13))else(k2 x1 (y6 !=13))))else(bif false then(j1 x1 false)else(k2 x1 false))))else(bif false then(j1 x1 false)else(k2 x1 false)))
def A4x{R:Type}(nn:Nat)(a0:List Int)(a1:Int):Nat→Int→(Int→Bool→Option R)→Option R
 |0,_,_=>none
 |n+1,x1,k2=>A88 nn a0 a1 x1 (fun x1=>A4x nn a0 a1 n x1 k2) k2
theorem B8J{R:Type}(nn:Nat)(a0:List Int)(a1:Int):∀(n:Nat)(x1:Int)(K:Ex→S6→Option R),LP E123 nn Cs [1,0,0,0,1,1,0,0] 10005 n (A5e a0 a1 x1) K=A4x nn a0 a1 n x1 (fun x1 sc=>K (.exit 2) (D1r a0 a1 x1 sc))
 |0,_,_=>rfl
 |n+1,x1,K=>by
  rw[A4x];simp only[←B8J nn a0 a1 n _ K];kernel_rfl
def A8e{R:Type}(nn:Nat)(a0:List Int)(a1:Int)(x1:Int)(k1:Int→Option R)(k2:Int→Option R)(k3:Int→Bool→Option R):Option R:=match idx a0 x1 with|none=>none|some y1=>(gd (okR [.bool] (A2J y1)) (let z2:=(lB (gL (A2J y1) 0));bif z2 then(k1 (Ba .i64 (x1+1)))else(match idx a0 x1 with|none=>none|some y3=>(bif(y3 !=35)then(k2 x1)else(A4x nn a0 a1 nn x1 (fun z4 z5=>k3 z4 z5))))))
def A3j{R:Type}(nn:Nat)(a0:List Int)(a1:Int):Nat→Int→(Int→Option R)→Option R
 |0,_,_=>none
 |n+1,x1,k2=>A8e nn a0 a1 x1 (fun x1=>A3j nn a0 a1 n x1 k2) k2 (fun x1 sc=>A3j nn a0 a1 n x1 k2)
theorem B9m{R:Type}(nn:Nat)(a0:List Int)(a1:Int):∀(n:Nat)(x1:Int)(K:Ex→S6→Option R),LP E123 nn Cs [1,0,0] 10001 n (A5e a0 a1 x1) K=A3j nn a0 a1 n x1 (fun x4=>K .ret (B5e a0 a1 x4))
 |0,_,_=>rfl
 |n+1,x1,K=>by
  rw[A3j];simp only[←B9m nn a0 a1 n _ K];have h:LP E123 nn Cs [1,0,0] 10001 (n+1) (A5e a0 a1 x1) K=match idx a0 x1 with|none=>none|some y1=>(gd (okR [.bool] (A2J y1)) (let z2:=(lB (gL (A2J y1) 0));bif z2 then(LP E123 nn Cs [1,0,0] 10001 n (A5e a0 a1 (Ba .i64 (x1+1))) K)else(match idx a0 x1 with|none=>none|some y3=>(bif(y3 !=35)then(K .ret (B5e a0 a1 x1))else(LP E123 nn Cs [1,0,0,0,1,1,0,0] 10005 nn (A5e a0 a1 x1) (A8 2 (A8 1 (A1z (E123.drop 10001) (A1w (lbN nn E123 (A0 Cs [1,0,0]) 10001) n K))))))))):=by kernel_rfl
  rw[h];simp only[B8J];show _=_;kernel_rfl
def A6d(nn:Nat)(a0:List Int)(a1:Int):Option E6:=A3j nn a0 a1 nn a1 (fun z1=>some (.one (.int .i64 z1)))
def A2L(a0:List Int)(a1:Int):Option E6:=A6d NN a0 a1
theorem C6h(nn:Nat){a0:List Int}{a1:Int}:A2 E123 nn Cs [.sl .i32 a0 none,.int .i64 a1]=A6d nn a0 a1:=by
 have h:A2 E123 nn Cs [.sl .i32 a0 none,.int .i64 a1]=LP E123 nn Cs [1,0,0] 10001 nn (A5e a0 a1 a1) (A8 0 (B2 E123 Tryz.f123.results.toList)):=by kernel_rfl
 rw[h];simp only[B9m];show _=_;kernel_rfl
def B1K:S1T
 |[.sl .i32 a0 none,.int .i64 a1]=>pR [.int .i64] (A2L a0 a1)
 |_=>none
def B7j:Env Ty6 A4:=mkE [(174,A28)] [] noD 5 [] 0 [] []
def A5n(a0:Int):Option E6:=let r1:=W3 a0 [97,98,99,100,101,102,103,104,105,106,107,108,109,110,111,112,113,114,115,116,117,118,119,120,121,122,65,66,67,68,69,70,71,72,73,74,75,76,77,78,79,80,81,82,83,84,85,86,87,88,89,90,95];gd (okR [.bool] r1) (some (.one (.bool (lB (gL r1 0)))))
theorem C1U{a0:Int}:A2 B7j NN Tryz.f177 [.int .i32 a0]=A5n a0:=by kernel_rfl
def B2h:S1T
 |[.int .i32 a0]=>pR [.bool] (A5n a0)
 |_=>none
def A0w:Env Ty6 A4:=mkE [(174,A28)] [] noD 9 [] 0 [] []
def A2Q(a0:Int):Option E6:=let r2:=W3 a0 [97,98,99,100,101,102,103,104,105,106,107,108,109,110,111,112,113,114,115,116,117,118,119,120,121,122,65,66,67,68,69,70,71,72,73,74,75,76,77,78,79,80,81,82,83,84,85,86,87,88,89,90,95];gd (okR [.bool] r2) (bif(lB (gL r2 0))==false then(let r1:=W3 a0 [48,49,50,51,52,53,54,55,56,57];gd (okR [.bool] r1) (some (.one (.bool (lB (gL r1 0))))))else(some (.one (.bool true))))
theorem B2f{a0:Int}:A2 A0w NN Tryz.f208 [.int .i32 a0]=A2Q a0:=by kernel_rfl
def S208:S1T
 |[.int .i32 a0]=>pR [.bool] (A2Q a0)
 |_=>none
def A3A:Env Ty6 A4:=mkE [(208,S208)] [] (lkD [(0,[4]),(1,[5,6,7,8]),(2,[9,10,11]),(3,[0,1,9,12])]) 13 [] 0 [] []
def B8o(a0:List Int)(a1:Int)(x1:Int):S6:=⟨[(0,.one (.sl .i32 a0 none)),(1,.one (.int .i64 x1))],[]⟩
def B9Z(a0:List Int)(a1:Int)(x1:Int)(x9:Bool):S6:=⟨[(0,.one (.sl .i32 a0 none)),(1,.one (.int .i64 x1)),(9,.one (.bool x9))],[]⟩
def B2U{R:Type}(nn:Nat)(a0:List Int)(a1:Int)(x1:Int)(k1:Int→Option R)(k2:Int→Bool→Option R):Option R:=match idx a0 x1 with|none=>none|some y1=>(gd (okR [.bool] (A2Q y1)) (let z2:=(lB (gL (A2Q y1) 0));bif z2 then(k1 (Ba .i64 (x1+1)))else(k2 x1 z2)))
def A4u{R:Type}(nn:Nat)(a0:List Int)(a1:Int):Nat→Int→(Int→Bool→Option R)→Option R
 |0,_,_=>none
 |n+1,x1,k2=>B2U nn a0 a1 x1 (fun x1=>A4u nn a0 a1 n x1 k2) k2
theorem B8T{R:Type}(nn:Nat)(a0:List Int)(a1:Int):∀(n:Nat)(x1:Int)(K:Ex→S6→Option R),LP A3A nn Em [1,0,0,0] 10001 n (B8o a0 a1 x1) K=A4u nn a0 a1 n x1 (fun x1 x9=>K (.exit 0) (B9Z a0 a1 x1 x9))
 |0,_,_=>rfl
 |n+1,x1,K=>by
  rw[A4u];simp only[←B8T nn a0 a1 n _ K];kernel_rfl
def A8Q(nn:Nat)(a0:List Int)(a1:Int):Option E6:=A4u nn a0 a1 nn a1 (fun z1 z2=>some (.one (.int .i64 z1)))
def A3i(a0:List Int)(a1:Int):Option E6:=A8Q NN a0 a1
theorem C78(nn:Nat){a0:List Int}{a1:Int}:A2 A3A nn Em [.sl .i32 a0 none,.int .i64 a1]=A8Q nn a0 a1:=by
 have h:A2 A3A nn Em [.sl .i32 a0 none,.int .i64 a1]=LP A3A nn Em [1,0,0,0] 10001 nn (B8o a0 a1 a1) (A8 0 (sk A3A nn Em [1,1] (B2 A3A Tryz.f178.results.toList))):=by kernel_rfl
 rw[h];simp only[B8T];show _=_;kernel_rfl
def B2G:S1T
 |[.sl .i32 a0 none,.int .i64 a1]=>pR [.int .i64] (A3i a0 a1)
 |_=>none
def B5a:Env Ty6 A4:=mkE [(174,A28)] [] noD 5 [] 0 [] []
def A4l(a0:Int):Option E6:=let r1:=W3 a0 [48,49,50,51,52,53,54,55,56,57];gd (okR [.bool] r1) (some (.one (.bool (lB (gL r1 0)))))
theorem C6D{a0:Int}:A2 B5a NN Tryz.f179 [.int .i32 a0]=A4l a0:=by kernel_rfl
def B20:S1T
 |[.int .i32 a0]=>pR [.bool] (A4l a0)
 |_=>none
end Go.Aev
