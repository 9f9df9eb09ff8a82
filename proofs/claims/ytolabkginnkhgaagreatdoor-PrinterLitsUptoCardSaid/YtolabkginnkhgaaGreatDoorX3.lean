/- Proved here: lemmas that the claim's text uses. Conditions: those that each lemma states. -/
import Derived.Test.YtolabkginnkhgaaGreatDoorX2
set_option maxRecDepth 100000
set_option linter.unusedVariables false
set_option linter.unusedSimpArgs false
open Go.Proofs.Tryz renaming prog→Ai,f34→Bq,f148→Br,f147→Bt,f25→Bu,f46→Bz,f45→Ca,f44→Cb,f33→Ch,f77→Cq,f74→Cr,f49→Cs,f213→Ct,f211→Cu,f209→Cv,f182→Cw,f161→Cx,f149→Cy,f146→Cz,f125→Da,f27→Dj,f24→Dk,call44→Ed,call268→Ee,call267→Ef,call265→Eg,call264→Eh,call263→Ei,call148→Ej,call147→Ek
open Go.IntKind renaming wrap→Ba
open List renaming length→Bb,mem_cons→Bi,not_mem_nil→Bm,range→Bo,length_append→By,map_append→Cj,length_set→Ck,getElem?_set_ne→Cl,getElem?_eq_getElem→Cm,mem_singleton→Dc,map→Dd,length_map→De,getElem?_range→Df,getElem?_map→Dg,getElem?_eq_some_iff→Dh,reverse_cons→Dm,length_cons→Dn,getElem?_append_left→Do,length_range→Dz,take_of_length_le→Eo,take_append_of_le_length→Ep,nil_append→Er,mem_cons_of_mem→Es,length_take→Et,length_singleton→Eu,length_drop→Ev,getElem?_set_self→Ew,getElem?_set→Ey,getElem?_append_right→Ez,getD_eq_getElem?_getD→Fa,drop_length→Fb,drop_eq_getElem_cons→Fc,cons_append→Fe
open Bool renaming and_eq_true→Bd
open Nat renaming beq→Be,le_refl→Bh,zero_add→Bl,blt→Bn,lt_succ_self→Cf,mul_one→Dl,ble→Dx,div_add_mod'→Em,add_assoc→En
open Go renaming wpList_plain→Bf,wpList_nil→Bg,FuncId→Bj,wpList→Bp,Program→Ci,execOp→Co,Operand→Db,ready_mono→Dq
open Option.some renaming injEq→Bw
open Go.Region renaming ready→Bx,noSelect→Ds,free→Du,binds→Dv,wanted→El
open Go.Program renaming underlying→Cc
open UInt8 renaming toNat→Cd,ofNat→Dr
open Prod.mk renaming injEq→Ce
open Go.World renaming cell?→Cg
open Go.Exit renaming inBlock→Cn
open Go.Value renaming slice→Cp
open Int renaming tdiv→Di,tmod→Ea
open Go.Builtin renaming lenOf→Dp
open Ne renaming symm→Dw
open Go.Made renaming depth→Dy
open Array renaming replicate→Eb,toList→Fg,getElem?_append_left→Fh,getD_eq_getD_getElem?→Fi
open Go.Value.agg renaming injEq→Ec
open Go.Ending renaming returned→Ff
open Go.Value.slice renaming injEq→Fj
namespace Go.Aev
open Go.Proofs
def B4Y:Env Ty6 A4:=mkE [] [] noD 72 [] 0 [] []
def A1P(a0 a1:Int):Option E6:=bif(decide (a1≥48))==true then(let z1:=decide (a1≤57);let j2:Bool→Option E6:=fun z3=>some (.one (.int .i64 (-1)));let j4:Bool→Option E6:=fun z5=>some (.one (.int .i64 (-1)));let j6:Bool→Option E6:=fun z7=>some (.one (.int .i64 (-1)));let j8:Bool→Option E6:=fun z9=>some (.one (.int .i64 (-1)));let sa:Bool→Option E6:=fun dy=>some (.one (.int .i64 (-1)));let ww:Bool→Option E6:=fun fJ=>some (.one (.int .i64 (-1)));let sd:Bool→Bool→Option E6:=fun eo gX=>some (.one (.int .i64 (-1)));let qT:Bool→Bool→Option E6:=fun iy gF=>some (.one (.int .i64 (-1)));let wx:Bool→Bool→Option E6:=fun z21 mT=>bif mT then(bif(a1==45)==true then(bif(a0==0)then(some (.one (.int .i64 1)))else(bif(a1==48)then(some (.one (.int .i64 2)))else(bif z21 then(some (.one (.int .i64 3)))else(j2 z21))))else(bif false then(some (.one (.int .i64 1)))else(bif(a1==48)then(some (.one (.int .i64 2)))else(bif z21 then(some (.one (.int .i64 3)))else(j2 z21)))))else(let wz:Bool→Bool→Option E6:=fun iA tZ=>bif tZ then(bif iA==true then(bif(a0==3)then(some (.one (.int .i64 3)))else(bif(a1==46)then(some (.one (.int .i64 4)))else(bif(a1==101)==false then(bif(a1==69)then(some (.one (.int .i64 6)))else(j4 (a1==69)))else(bif true then(some (.one (.int .i64 6)))else(j4 true)))))else(bif false then(some (.one (.int .i64 3)))else(bif(a1==46)then(some (.one (.int .i64 4)))else(bif(a1==101)==false then(bif(a1==69)then(some (.one (.int .i64 6)))else(j4 (a1==69)))else(bif true then(some (.one (.int .i64 6)))else(j4 true))))))else(bif(a0==4)then(bif iA then(some (.one (.int .i64 5)))else(j6 iA))else(bif(a0==5)then(bif iA then(some (.one (.int .i64 5)))else(bif(a1==101)==false then(bif(a1==69)then(some (.one (.int .i64 6)))else(j8 (a1==69)))else(bif true then(some (.one (.int .i64 6)))else(j8 true))))else(bif(a0==6)then(bif iA then(some (.one (.int .i64 8)))else(bif(a1==43)==false then(bif(a1==45)then(some (.one (.int .i64 7)))else(sa (a1==45)))else(bif true then(some (.one (.int .i64 7)))else(sa true))))else(bif(a0==7)then(bif(a0==7)then(bif iA then(some (.one (.int .i64 8)))else(ww iA))else(sd iA (a0==7)))else(bif(a0==8)then(bif iA then(some (.one (.int .i64 8)))else(ww iA))else(qT iA (a0==8)))))));bif(a0==2)then(wz z21 (a0==2))else(wz z21 (a0==3)));bif(a0==0)then(wx z1 (a0==0))else(wx z1 (a0==1)))else(let wA:Bool→Option E6:=fun Ao=>some (.one (.int .i64 (-1)));let se:Bool→Option E6:=fun Ap=>some (.one (.int .i64 (-1)));let yD:Bool→Option E6:=fun Aq=>some (.one (.int .i64 (-1)));let wB:Bool→Option E6:=fun Ar=>some (.one (.int .i64 (-1)));let wC:Bool→Option E6:=fun As=>some (.one (.int .i64 (-1)));let wD:Bool→Option E6:=fun z37=>some (.one (.int .i64 (-1)));let yE:Bool→Bool→Option E6:=fun At Au=>some (.one (.int .i64 (-1)));let yF:Bool→Bool→Option E6:=fun Av Aw=>some (.one (.int .i64 (-1)));let wE:Bool→Bool→Option E6:=fun pg z46=>bif z46 then(bif(a1==45)==true then(bif(a0==0)then(some (.one (.int .i64 1)))else(bif(a1==48)then(some (.one (.int .i64 2)))else(bif pg then(some (.one (.int .i64 3)))else(wA pg))))else(bif false then(some (.one (.int .i64 1)))else(bif(a1==48)then(some (.one (.int .i64 2)))else(bif pg then(some (.one (.int .i64 3)))else(wA pg)))))else(let wF:Bool→Bool→Option E6:=fun kB yG=>bif yG then(bif kB==true then(bif(a0==3)then(some (.one (.int .i64 3)))else(bif(a1==46)then(some (.one (.int .i64 4)))else(bif(a1==101)==false then(bif(a1==69)then(some (.one (.int .i64 6)))else(se (a1==69)))else(bif true then(some (.one (.int .i64 6)))else(se true)))))else(bif false then(some (.one (.int .i64 3)))else(bif(a1==46)then(some (.one (.int .i64 4)))else(bif(a1==101)==false then(bif(a1==69)then(some (.one (.int .i64 6)))else(se (a1==69)))else(bif true then(some (.one (.int .i64 6)))else(se true))))))else(bif(a0==4)then(bif kB then(some (.one (.int .i64 5)))else(yD kB))else(bif(a0==5)then(bif kB then(some (.one (.int .i64 5)))else(bif(a1==101)==false then(bif(a1==69)then(some (.one (.int .i64 6)))else(wB (a1==69)))else(bif true then(some (.one (.int .i64 6)))else(wB true))))else(bif(a0==6)then(bif kB then(some (.one (.int .i64 8)))else(bif(a1==43)==false then(bif(a1==45)then(some (.one (.int .i64 7)))else(wC (a1==45)))else(bif true then(some (.one (.int .i64 7)))else(wC true))))else(bif(a0==7)then(bif(a0==7)then(bif kB then(some (.one (.int .i64 8)))else(wD kB))else(yE kB (a0==7)))else(bif(a0==8)then(bif kB then(some (.one (.int .i64 8)))else(wD kB))else(yF kB (a0==8)))))));bif(a0==2)then(wF pg (a0==2))else(wF pg (a0==3)));bif(a0==0)then(wE false (a0==0))else(wE false (a0==1)))
theorem C3M{a0 a1:Int}:A2 B4Y NN Tryz.f230 [.int .i64 a0,.int .i32 a1]=A1P a0 a1:=by kernel_rfl
def B0C:S1T
 |[.int .i64 a0,.int .i32 a1]=>pR [.int .i64] (A1P a0 a1)
 |_=>none
def B8v:Env Ty6 A4:=mkE [] [] noD 10 [] 0 [] []
def A3e(a0:Int):Option E6:=let j1:Bool→Option E6:=fun z2=>some (.one (.int .i64 0));let j3:Bool→Option E6:=fun z4=>some (.one (.int .i64 0));let j5:Bool→Option E6:=fun z6=>bif z6 then(some (.one (.int .i64 1)))else(bif(a0==5)then(bif(a0==5)then(some (.one (.int .i64 2)))else(j1 (a0==5)))else(bif(a0==8)then(some (.one (.int .i64 2)))else(j3 (a0==8))));bif(a0==2)then(j5 (a0==2))else(j5 (a0==3))
theorem D0J{a0:Int}:A2 B8v NN Tryz.f231 [.int .i64 a0]=A3e a0:=by kernel_rfl
def B3F:S1T
 |[.int .i64 a0]=>pR [.int .i64] (A3e a0)
 |_=>none
def J3:Env Ty6 A4:=mkE [(230,B0C),(231,B3F)] [] (lkD [(0,[4,5,6]),(1,[12,13,14,15,16,17,18]),(2,[0,1,19]),(3,[19,20]),(4,[1,21]),(5,[22,23,24]),(6,[11,26,27,42]),(7,[25,28,29,30,31,32,33]),(8,[34]),(9,[0,7,8,9,10,35,36,37,38]),(10,[35,39,40]),(11,[41]),(12,[11,42,43,44,45]),(13,[0,7,8,9,10,25,46,47,48,49])]) 50 [] 0 [] []
def C3V(a0:List Int)(a1:Int)(x4 x5 x6:Int):S6:=⟨[(4,.one (.int .i64 x4)),(5,.one (.int .i64 x5)),(6,.one (.int .i64 x6))],[]⟩
def B6M(a0:List Int)(a1:Int)(x7 x8 x9 bC:Int):S6:=⟨[(0,.one (.sl .i32 a0 none)),(7,.one (.int .i64 x7)),(8,.one (.int .i64 x8)),(9,.one (.int .i64 x9)),(10,.one (.int .i64 bC))],[]⟩
def A4G(a0:List Int)(a1:Int)(x7 x8 x9 bC:Int)(ir:Bool):S6:=⟨[(0,.one (.sl .i32 a0 none)),(7,.one (.int .i64 x7)),(8,.one (.int .i64 x8)),(9,.one (.int .i64 x9)),(10,.one (.int .i64 bC)),(25,.one (.bool ir))],[]⟩
def B2K{R:Type}(nn:Nat)(a0:List Int)(a1:Int)(x7 x8 x9 bC:Int)(k1:Int→Int→Int→Option R)(k2:Int→Int→Int→Int→Option R)(k3:Int→Int→Int→Int→Bool→Option R):Option R:=let z1:=decide (bC<(Bb a0:Int));bif z1 then(match idx a0 bC with|none=>none|some y2=>(gd (okR [.int .i64] (A1P x9 y2)) (let z3:=(lI (gL (A1P x9 y2) 0));let z4:=decide (z3<0);bif z4 then(k1 x7 bC x8)else(gd (okR [.int .i64] (A3e z3)) (let z5:=(lI (gL (A3e z3) 0));bif(z5 !=0)then(k2 (Ba .i64 (bC+1)) z5 z3 (Ba .i64 (bC+1)))else(k2 x7 x8 z3 (Ba .i64 (bC+1))))))))else(k3 x7 x8 x9 bC z1)
def A5c{R:Type}(nn:Nat)(a0:List Int)(a1:Int):Nat→Int→Int→Int→Int→(Int→Int→Int→Option R)→(Int→Int→Int→Int→Bool→Option R)→Option R
 |0,_,_,_,_,_,_=>none
 |n+1,x7,x8,x9,bC,k1,k3=>B2K nn a0 a1 x7 x8 x9 bC k1 (fun x7 x8 x9 bC=>A5c nn a0 a1 n x7 x8 x9 bC k1 k3) k3
theorem B4c{R:Type}(nn:Nat)(a0:List Int)(a1:Int):∀(n:Nat)(x7 x8 x9 bC:Int)(K:Ex→S6→Option R),LP J3 nn Cv [1,1,1,0,1,0,0] 10005 n (B6M a0 a1 x7 x8 x9 bC) K=A5c nn a0 a1 n x7 x8 x9 bC (fun x4 x5 x6=>K .ret (C3V a0 a1 x4 x5 x6)) (fun x7 x8 x9 bC ir=>K (.exit 0) (A4G a0 a1 x7 x8 x9 bC ir))
 |0,_,_,_,_,_=>rfl
 |n+1,x7,x8,x9,bC,K=>by
  rw[A5c];simp only[←B4c nn a0 a1 n _ _ _ _ K];kernel_rfl
def A8v(nn:Nat)(a0:List Int)(a1:Int):Option E6:=let j1:Bool→Option E6:=fun z2=>A5c nn a0 a1 nn a1 0 0 a1 (fun z3 z4 z5=>some (.tup [.int .i64 z3,.int .i64 z4,.int .i64 z5])) (fun z6 z7 z8 z9 e9=>some (.tup [.int .i64 z6,.int .i64 (Bb a0:Int),.int .i64 z7]));bif(decide (a1<0))==false then(let dy:=decide (a1>(Bb a0:Int));bif dy then(some (.tup [.int .i64 0,.int .i64 0,.int .i64 0]))else(j1 dy))else(bif true then(some (.tup [.int .i64 0,.int .i64 0,.int .i64 0]))else(j1 true))
def A2H(a0:List Int)(a1:Int):Option E6:=A8v NN a0 a1
theorem B21(nn:Nat){a0:List Int}{a1:Int}:A2 J3 nn Cv [.sl .i32 a0 none,.int .i64 a1]=A8v nn a0 a1:=by
 have h:A2 J3 nn Cv [.sl .i32 a0 none,.int .i64 a1]=let j1:Bool→Option E6:=fun z2=>LP J3 nn Cv [1,1,1,0,1,0,0] 10005 nn (B6M a0 a1 a1 0 0 a1) (A8 0 (sk J3 nn Cv [1,1,1,1] (B2 J3 Tryz.f209.results.toList)));bif(decide (a1<0))==false then(let dy:=decide (a1>(Bb a0:Int));bif dy then(some (.tup [.int .i64 0,.int .i64 0,.int .i64 0]))else(j1 dy))else(bif true then(some (.tup [.int .i64 0,.int .i64 0,.int .i64 0]))else(j1 true)):=by kernel_rfl
 rw[h];simp only[B4c];show _=_;kernel_rfl
def S209:S1T
 |[.sl .i32 a0 none,.int .i64 a1]=>pR [.int .i64,.int .i64,.int .i64] (A2H a0 a1)
 |_=>none
def B5l:Env Ty6 A4:=mkE [(208,S208),(209,S209)] [] noD 38 [] 0 [] []
def A0J(a0:List Int)(a1:Int):Option E6:=gd (okR [.int .i64,.int .i64,.int .i64] (A2H a0 a1)) (let z1:=(lI (gL (A2H a0 a1) 0));let z2:=(lI (gL (A2H a0 a1) 2));let j3:Int→Int→Bool→Option E6:=fun z4 z5 z6=>bif(z5==1)then(some (.tup [.int .i64 z4,.int .i64 4]))else(some (.tup [.int .i64 z4,.int .i64 5]));bif(z1==a1)==false then(match idx a0 z1 with|none=>none|some y7=>(bif(y7==46)==false then(match idx a0 z1 with|none=>none|some y8=>(gd (okR [.bool] (A2Q y8)) (let z9:=(lB (gL (A2Q y8) 0));bif z9 then(some (.tup [.int .i64 a1,.int .i64 1]))else(j3 z1 z2 z9))))else(bif true then(some (.tup [.int .i64 a1,.int .i64 1]))else(j3 z1 z2 true))))else(bif true then(some (.tup [.int .i64 a1,.int .i64 1]))else(j3 z1 z2 true)))
theorem C1n{a0:List Int}{a1:Int}:A2 B5l NN Tryz.f180 [.sl .i32 a0 none,.int .i64 a1]=A0J a0 a1:=by kernel_rfl
def B1S:S1T
 |[.sl .i32 a0 none,.int .i64 a1]=>pR [.int .i64,.int .i64] (A0J a0 a1)
 |_=>none
def M0:Env Ty6 A4:=mkE [] [] noD 38 [] 0 [] []
def A08(a0:List Int)(a1 a2:Int):Option E6:=bif(decide ((Ba .i64 (a1+2))<(Bb a0:Int)))==true then(match idx a0 a1 with|none=>none|some y1=>(bif(y1==a2)==true then(match idx a0 (Ba .i64 (a1+1))with|none=>none|some y2=>(bif(y2==a2)==true then(match idx a0 (Ba .i64 (a1+2))with|none=>none|some y3=>(some (.one (.bool (y3==a2)))))else(some (.one (.bool false)))))else(some (.one (.bool false)))))else(some (.one (.bool false)))
theorem B3g{a0:List Int}{a1 a2:Int}:A2 M0 NN Tryz.f210 [.sl .i32 a0 none,.int .i64 a1,.int .i32 a2]=A08 a0 a1 a2:=by kernel_rfl
def S210:S1T
 |[.sl .i32 a0 none,.int .i64 a1,.int .i32 a2]=>pR [.bool] (A08 a0 a1 a2)
 |_=>none
def A3C:Env Ty6 A4:=mkE [(210,S210)] [] (lkD [(0,[4]),(1,[6,7]),(2,[8,9,10,11]),(3,[13,14,29]),(4,[12,16,17,18,19,20,21,22,23,24,25,26]),(5,[15,27,28]),(6,[15,30,31,32]),(7,[0,1,5,29,33,34]),(8,[0,1,5,12,35])]) 36 [] 0 [] []
def B9h(a0:List Int)(a1:Int)(x5:Int):S6:=⟨[(0,.one (.sl .i32 a0 none)),(1,.one (.int .i64 a1)),(5,.one (.int .i64 x5))],[]⟩
def C6Z(a0:List Int)(a1:Int)(x5:Int)(de:Bool):S6:=⟨[(0,.one (.sl .i32 a0 none)),(1,.one (.int .i64 a1)),(5,.one (.int .i64 x5)),(12,.one (.bool de))],[]⟩
def C7o(a0:List Int)(a1:Int)(x4:Int):S6:=⟨[(4,.one (.int .i64 x4))],[]⟩
def B2W{R:Type}(nn:Nat)(a0:List Int)(a1:Int)(x5:Int)(k1:Int→Option R)(k2:Int→Option R)(k3:Int→Bool→Option R):Option R:=match idx a0 x5 with|none=>none|some y1=>(let z2:=decide (y1≥0);bif z2 then(match idx a0 x5 with|none=>none|some y3=>(bif(y3==92)==true then(let r5:=A08 a0 (Ba .i64 (x5+1)) 34;gd (okR [.bool] r5) (bif(lB (gL r5 0))then(k1 (Ba .i64 (x5+4)))else(let r4:=A08 a0 x5 34;gd (okR [.bool] r4) (bif(lB (gL r4 0))then(k2 (Ba .i64 (x5+3)))else(k1 (Ba .i64 (x5+1)))))))else(bif false then(k1 (Ba .i64 (x5+4)))else(let r6:=A08 a0 x5 34;gd (okR [.bool] r6) (bif(lB (gL r6 0))then(k2 (Ba .i64 (x5+3)))else(k1 (Ba .i64 (x5+1))))))))else(k3 x5 z2))
def A3X{R:Type}(nn:Nat)(a0:List Int)(a1:Int):Nat→Int→(Int→Option R)→(Int→Bool→Option R)→Option R
 |0,_,_,_=>none
 |n+1,x5,k2,k3=>B2W nn a0 a1 x5 (fun x5=>A3X nn a0 a1 n x5 k2 k3) k2 k3
theorem B8U{R:Type}(nn:Nat)(a0:List Int)(a1:Int):∀(n:Nat)(x5:Int)(K:Ex→S6→Option R),LP A3C nn Cu [1,1,0,0,0] 10002 n (B9h a0 a1 x5) K=A3X nn a0 a1 n x5 (fun x4=>K .ret (C7o a0 a1 x4)) (fun x5 de=>K (.exit 0) (C6Z a0 a1 x5 de))
 |0,_,_=>rfl
 |n+1,x5,K=>by
  rw[A3X];simp only[←B8U nn a0 a1 n _ K];kernel_rfl
def A7V(nn:Nat)(a0:List Int)(a1:Int):Option E6:=A3X nn a0 a1 nn (Ba .i64 (a1+3)) (fun z1=>some (.one (.int .i64 z1))) (fun z2 z3=>some (.one (.int .i64 a1)))
def A23(a0:List Int)(a1:Int):Option E6:=A7V NN a0 a1
theorem C3v(nn:Nat){a0:List Int}{a1:Int}:A2 A3C nn Cu [.sl .i32 a0 none,.int .i64 a1]=A7V nn a0 a1:=by
 have h:A2 A3C nn Cu [.sl .i32 a0 none,.int .i64 a1]=LP A3C nn Cu [1,1,0,0,0] 10002 nn (B9h a0 a1 (Ba .i64 (a1+3))) (A8 0 (sk A3C nn Cu [1,1,1] (B2 A3C Tryz.f211.results.toList))):=by kernel_rfl
 rw[h];simp only[B8U];show _=_;kernel_rfl
def B1O:S1T
 |[.sl .i32 a0 none,.int .i64 a1]=>pR [.int .i64] (A23 a0 a1)
 |_=>none
def A4e:Env Ty6 A4:=mkE [] [] (lkD [(0,[4]),(1,[6,7]),(2,[8,9,10,11,12,13,14,15,16,17,18,19,20,21,22,23,24,25]),(3,[26,27,28,29,30]),(4,[0,1,5,31,32,33]),(5,[31,34,35,36,37]),(6,[38,39,40]),(7,[41,42,43,44,45,46,47,48,49,50,51,52,53,54,55,56,57,58]),(8,[0,1,5,59,60]),(9,[38,59,61,62]),(10,[0,1,5,26,63])]) 64 [] 0 [] []
def B8I(a0:List Int)(a1:Int)(x5:Int):S6:=⟨[(0,.one (.sl .i32 a0 none)),(1,.one (.int .i64 a1)),(5,.one (.int .i64 x5))],[]⟩
def C8T(a0:List Int)(a1:Int)(x5:Int)(iT:Bool):S6:=⟨[(0,.one (.sl .i32 a0 none)),(1,.one (.int .i64 a1)),(5,.one (.int .i64 x5)),(26,.one (.bool iT))],[]⟩
def D0F(a0:List Int)(a1:Int)(x4:Int):S6:=⟨[(4,.one (.int .i64 x4))],[]⟩
def B1s{R:Type}(nn:Nat)(a0:List Int)(a1:Int)(x5:Int)(k1:Int→Option R)(k2:Int→Option R)(k3:Int→Bool→Option R):Option R:=let j1:Int→Bool→Option R:=fun z2 z3=>match idx a0 z2 with|none=>none|some y4=>(bif(y4==34)then(k1 (Ba .i64 (z2+1)))else(let j5:Int→Bool→Option R:=fun z6 z7=>k2 (Ba .i64 (z6+1));match idx a0 z2 with|none=>none|some y8=>(bif(y8==92)then(let z9:=Ba .i64 (z2+1);match idx a0 z9 with|none=>none|some iq=>(bif(decide (iq<0))==false then(match idx a0 z9 with|none=>none|some lv=>(bif(lv==10)==false then(match idx a0 z9 with|none=>none|some pf=>(bif(pf==13)then(k1 a1)else(j5 z9 (pf==13))))else(bif true then(k1 a1)else(j5 z9 true))))else(bif true then(k1 a1)else(j5 z9 true))))else(k2 (Ba .i64 (z2+1))))));match idx a0 x5 with|none=>none|some rW=>(bif(decide (rW≥0))==true then(match idx a0 x5 with|none=>none|some rX=>(bif(rX !=10)==true then(match idx a0 x5 with|none=>none|some qO=>(bif(qO !=13)then(j1 x5 (qO !=13))else(k3 x5 (qO !=13))))else(bif false then(j1 x5 false)else(k3 x5 false))))else(bif false then(j1 x5 false)else(k3 x5 false)))
def A2C{R:Type}(nn:Nat)(a0:List Int)(a1:Int):Nat→Int→(Int→Option R)→(Int→Bool→Option R)→Option R
 |0,_,_,_=>none
 |n+1,x5,k1,k3=>B1s nn a0 a1 x5 k1 (fun x5=>A2C nn a0 a1 n x5 k1 k3) k3
theorem B6N{R:Type}(nn:Nat)(a0:List Int)(a1:Int):∀(n:Nat)(x5:Int)(K:Ex→S6→Option R),LP A4e nn Ct [1,1,0,0,0] 10002 n (B8I a0 a1 x5) K=A2C nn a0 a1 n x5 (fun x4=>K .ret (D0F a0 a1 x4)) (fun x5 iT=>K (.exit 0) (C8T a0 a1 x5 iT))
 |0,_,_=>rfl
 |n+1,x5,K=>by
  rw[A2C];simp only[←B6N nn a0 a1 n _ K];kernel_rfl
def A7X(nn:Nat)(a0:List Int)(a1:Int):Option E6:=A2C nn a0 a1 nn (Ba .i64 (a1+1)) (fun z1=>some (.one (.int .i64 z1))) (fun z2 z3=>some (.one (.int .i64 a1)))
def A3W(a0:List Int)(a1:Int):Option E6:=A7X NN a0 a1
theorem C39(nn:Nat){a0:List Int}{a1:Int}:A2 A4e nn Ct [.sl .i32 a0 none,.int .i64 a1]=A7X nn a0 a1:=by
 have h:A2 A4e nn Ct [.sl .i32 a0 none,.int .i64 a1]=LP A4e nn Ct [1,1,0,0,0] 10002 nn (B8I a0 a1 (Ba .i64 (a1+1))) (A8 0 (sk A4e nn Ct [1,1,1] (B2 A4e Tryz.f213.results.toList))):=by kernel_rfl
 rw[h];simp only[B6N];show _=_;kernel_rfl
def B0R:S1T
 |[.sl .i32 a0 none,.int .i64 a1]=>pR [.int .i64] (A3W a0 a1)
 |_=>none
def B9G:Env Ty6 A4:=mkE [(210,S210),(211,B1O),(212,A8F),(213,B0R),(214,A9l)] [] noD 60 [] 0 [] []
def A0t(a0:List Int)(a1:Int):Option E6:=let r8:=A08 a0 a1 34;gd (okR [.bool] r8) (let z1:=(lB (gL r8 0));bif z1 then(gd (okR [.int .i64] (A23 a0 a1)) (let z2:=(lI (gL (A23 a0 a1) 0));bif(z2==a1)then(some (.tup [.int .i64 a1,.int .i64 1,.str []]))else(match sub a0 (Ba .i64 (a1+3)) (Ba .i64 (z2 - 3))with|none=>none|some y3=>(gd (okR [.str,.int .i64] (A14 y3)) (let z4:=(lI (gL (A14 y3) 1));bif(z4 !=0)then(some (.tup [.int .i64 a1,.int .i64 1,.str []]))else(some (.tup [.int .i64 z2,.int .i64 7,.str (lS (gL (A14 y3) 0))])))))))else(gd (okR [.int .i64] (A3W a0 a1)) (let z5:=(lI (gL (A3W a0 a1) 0));bif(z5==a1)then(some (.tup [.int .i64 a1,.int .i64 1,.str []]))else(match sub a0 (Ba .i64 (a1+1)) (Ba .i64 (z5 - 1))with|none=>none|some y6=>(gd (okR [.str,.int .i64] (A1M y6)) (let z7:=(lI (gL (A1M y6) 1));bif(z7 !=0)then(some (.tup [.int .i64 a1,.int .i64 1,.str []]))else(some (.tup [.int .i64 z5,.int .i64 6,.str (lS (gL (A1M y6) 0))]))))))))
theorem D0X{a0:List Int}{a1:Int}:A2 B9G NN Tryz.f181 [.sl .i32 a0 none,.int .i64 a1]=A0t a0 a1:=by kernel_rfl
def B1A:S1T
 |[.sl .i32 a0 none,.int .i64 a1]=>pR [.int .i64,.int .i64,.str] (A0t a0 a1)
 |_=>none
def A4b:Env Ty6 A4:=mkE [(210,S210)] [] (lkD [(0,[4]),(3,[7,8,9]),(4,[11,12,21]),(5,[10,13,14,15,16,17,18,19,20]),(6,[0,1,5,6,21,22,23]),(7,[0,5,6,10,24,25]),(8,[1,26,27,28]),(9,[1,26,29])]) 30 [] 0 [] []
def B8Z(a0:List Int)(a1:Int)(x5:List UInt8)(x6:Int):S6:=⟨[(0,.one (.sl .i32 a0 none)),(1,.one (.int .i64 a1)),(5,.one (.str x5)),(6,.one (.int .i64 x6))],[]⟩
def B97(a0:List Int)(a1:Int)(x5:List UInt8)(x6:Int)(bC:Bool):S6:=⟨[(0,.one (.sl .i32 a0 none)),(1,.one (.int .i64 a1)),(5,.one (.str x5)),(6,.one (.int .i64 x6)),(10,.one (.bool bC))],[]⟩
def C3L(a0:List Int)(a1:Int)(x4:Int):S6:=⟨[(4,.one (.int .i64 x4))],[]⟩
def A8J{R:Type}(nn:Nat)(a0:List Int)(a1:Int)(x5:List UInt8)(x6:Int)(k1:Int→Option R)(k2:(List UInt8)→Int→Option R)(k3:(List UInt8)→Int→Bool→Option R):Option R:=let z1:=decide (x6<(Bb x5:Int));bif z1 then(match idx a0 a1 with|none=>none|some y2=>(match idx x5 x6 with|none=>none|some y3=>(let z4:=y2==(Ba .i32 (Cd y3:Int));bif z4 then(k1 (Ba .i64 (a1+1)))else(k2 x5 (Ba .i64 (x6+1))))))else(k3 x5 x6 z1)
def A5m{R:Type}(nn:Nat)(a0:List Int)(a1:Int):Nat→(List UInt8)→Int→(Int→Option R)→((List UInt8)→Int→Bool→Option R)→Option R
 |0,_,_,_,_=>none
 |n+1,x5,x6,k1,k3=>A8J nn a0 a1 x5 x6 k1 (fun x5 x6=>A5m nn a0 a1 n x5 x6 k1 k3) k3
theorem B6d{R:Type}(nn:Nat)(a0:List Int)(a1:Int):∀(n:Nat)(x5:List UInt8)(x6:Int)(K:Ex→S6→Option R),LP A4b nn Cw [1,1,0,1,0,0] 10003 n (B8Z a0 a1 x5 x6) K=A5m nn a0 a1 n x5 x6 (fun x4=>K .ret (C3L a0 a1 x4)) (fun x5 x6 bC=>K (.exit 0) (B97 a0 a1 x5 x6 bC))
 |0,_,_,_=>rfl
 |n+1,x5,x6,K=>by
  rw[A5m];simp only[←B6d nn a0 a1 n _ _ K];kernel_rfl
def A6a(nn:Nat)(a0:List Int)(a1:Int):Option E6:=A5m nn a0 a1 nn [33,36,38,40,41,58,61,64,91,93,123,124,125] 0 (fun z1=>some (.one (.int .i64 z1))) (fun z2 z3 z4=>let r6:=A08 a0 a1 46;gd (okR [.bool] r6) (let z5:=(lB (gL r6 0));bif z5 then(some (.one (.int .i64 (Ba .i64 (a1+3)))))else(some (.one (.int .i64 a1)))))
def A2l(a0:List Int)(a1:Int):Option E6:=A6a NN a0 a1
theorem C2a(nn:Nat){a0:List Int}{a1:Int}:A2 A4b nn Cw [.sl .i32 a0 none,.int .i64 a1]=A6a nn a0 a1:=by
 have h:A2 A4b nn Cw [.sl .i32 a0 none,.int .i64 a1]=LP A4b nn Cw [1,1,0,1,0,0] 10003 nn (B8Z a0 a1 [33,36,38,40,41,58,61,64,91,93,123,124,125] 0) (A8 0 (sk A4b nn Cw [1,1,1] (B2 A4b Tryz.f182.results.toList))):=by kernel_rfl
 rw[h];simp only[B6d];show _=_;kernel_rfl
def B10:S1T
 |[.sl .i32 a0 none,.int .i64 a1]=>pR [.int .i64] (A2l a0 a1)
 |_=>none
def B84:Env Ty6 A4:=mkE [(177,B2h),(178,B2G),(179,B20),(180,B1S),(181,B1A),(182,B10)] [] noD 63 [] 0 [] []
def A2O(a0:List Int)(a1:Int):Option E6:=match idx a0 a1 with|none=>none|some y1=>(bif(y1==(-2))then(some (.tup [.int .i64 a1,.int .i64 0,.str []]))else(match idx a0 a1 with|none=>none|some y2=>(gd (okR [.bool] (A5n y2)) (let z3:=(lB (gL (A5n y2) 0));bif z3 then(gd (okR [.int .i64] (A3i a0 a1)) (some (.tup [.int .i64 (lI (gL (A3i a0 a1) 0)),.int .i64 3,.str []])))else(let j4:Bool→Option E6:=fun z5=>match idx a0 a1 with|none=>none|some y6=>(bif(y6==34)then(gd (okR [.int .i64,.int .i64,.str] (A0t a0 a1)) (some (.tup [.int .i64 (lI (gL (A0t a0 a1) 0)),.int .i64 (lI (gL (A0t a0 a1) 1)),.str (lS (gL (A0t a0 a1) 2))])))else(gd (okR [.int .i64] (A2l a0 a1)) (let z7:=(lI (gL (A2l a0 a1) 0));let z8:=decide (z7>a1);bif z8 then(some (.tup [.int .i64 z7,.int .i64 2,.str []]))else(some (.tup [.int .i64 a1,.int .i64 1,.str []])))));match idx a0 a1 with|none=>none|some y9=>(gd (okR [.bool] (A4l y9)) (bif(lB (gL (A4l y9) 0))==false then(match idx a0 a1 with|none=>none|some iq=>(bif(iq==45)then(gd (okR [.int .i64,.int .i64] (A0J a0 a1)) (some (.tup [.int .i64 (lI (gL (A0J a0 a1) 0)),.int .i64 (lI (gL (A0J a0 a1) 1)),.str []])))else(j4 (iq==45))))else(bif true then(gd (okR [.int .i64,.int .i64] (A0J a0 a1)) (some (.tup [.int .i64 (lI (gL (A0J a0 a1) 0)),.int .i64 (lI (gL (A0J a0 a1) 1)),.str []])))else(j4 true)))))))))
theorem C19{a0:List Int}{a1:Int}:A2 B84 NN Tryz.f124 [.sl .i32 a0 none,.int .i64 a1]=A2O a0 a1:=by kernel_rfl
def B0i:S1T
 |[.sl .i32 a0 none,.int .i64 a1]=>pR [.int .i64,.int .i64,.str] (A2O a0 a1)
 |_=>none
def B5C:Env Ty6 A4:=mkE [(175,A7w)] [] noD 56 [] 0 [] []
def A3m(a0:Int):Option E6:=gd (okR [.bool] (A1x a0)) (let z1:= !(lB (gL (A1x a0) 0));bif z1 then(some (.one (.sl .u8 [] (some 1))))else(let z2:=Ba .u8 (Ba .i32 (128+(Ea a0 64)));let z3:=Ba .u8 (Ba .i32 (128+(Ea (Ba .i32 (Di a0 64)) 64)));bif(decide (a0<128))then(some (.one (.sl .u8 [Ba .u8 a0] (some 1))))else(bif(decide (a0<2048))then(some (.one (.sl .u8 [Ba .u8 (Ba .i32 (192+(Ba .i32 (Di a0 64)))),z2] (some 1))))else(let z4:=decide (a0<65536);bif z4 then(some (.one (.sl .u8 [Ba .u8 (Ba .i32 (224+(Ba .i32 (Di a0 4096)))),z3,z2] (some 1))))else(some (.one (.sl .u8 [Ba .u8 (Ba .i32 (240+(Ba .i32 (Di a0 262144)))),(Ba .u8 (Ba .i32 (128+(Ea (Ba .i32 (Di a0 4096)) 64)))),z3,z2] (some 1))))))))
theorem C2K{a0:Int}:A2 B5C NN Tryz.f172 [.int .i32 a0]=A3m a0:=by kernel_rfl
def B3M:S1T
 |[.int .i32 a0]=>pR [.sl .u8 (some 1)] (A3m a0)
 |_=>none
def A3R:Env Ty6 A4:=mkE [(172,B3M)] [] (lkD [(0,[2,3]),(3,[7,8,9]),(4,[11,12]),(5,[10,13,14,15,16,17]),(6,[18,19]),(7,[0,4,5,6,20]),(8,[6,20,21,22,23]),(9,[0,4,5,10,24,25])]) 26 [] 0 [] []
def B74(a0:List Int)(x4:List Int)(x5:Int):S6:=⟨[(0,.one (.sl .i32 a0 none)),(4,.one (.sl .u8 x4 (some 104))),(5,.one (.int .i64 x5))],[104]⟩
def C81(a0:List Int)(x4:List Int)(x5:Int)(bC:Bool):S6:=⟨[(0,.one (.sl .i32 a0 none)),(4,.one (.sl .u8 x4 (some 104))),(5,.one (.int .i64 x5)),(10,.one (.bool bC))],[104]⟩
def C14(a0:List Int):S6:=⟨[(2,.one (.str [])),(3,.one (.bool false))],[]⟩
def A8N{R:Type}(nn:Nat)(a0:List Int)(x4:List Int)(x5:Int)(k1:Option R)(k2:(List Int)→Int→Option R)(k3:(List Int)→Int→Bool→Option R):Option R:=let z1:=decide (x5<(Bb a0:Int));bif z1 then(match idx a0 x5 with|none=>none|some y2=>(gd (okR [.sl .u8 (some 1)] (A3m y2)) (let z3:=(E1 (gL (A3m y2) 0));let z4:=(Bb z3:Int)==0;bif z4 then k1 else(gd (A3 (Bb x4+Bb z3) 1) (k2 (x4++z3) (Ba .i64 (x5+1)))))))else(k3 x4 x5 z1)
def A5s{R:Type}(nn:Nat)(a0:List Int):Nat→(List Int)→Int→(Option R)→((List Int)→Int→Bool→Option R)→Option R
 |0,_,_,_,_=>none
 |n+1,x4,x5,k1,k3=>A8N nn a0 x4 x5 k1 (fun x4 x5=>A5s nn a0 n x4 x5 k1 k3) k3
theorem B7o{R:Type}(nn:Nat)(a0:List Int):∀(n:Nat)(x4:List Int)(x5:Int)(K:Ex→S6→Option R),LP A3R nn Da [1,1,0,1,0,0] 10003 n (B74 a0 x4 x5) K=A5s nn a0 n x4 x5 (K .ret (C14 a0)) (fun x4 x5 bC=>K (.exit 0) (C81 a0 x4 x5 bC))
 |0,_,_,_=>rfl
 |n+1,x4,x5,K=>by
  rw[A5s];simp only[←B7o nn a0 n _ _ K];kernel_rfl
def A65(nn:Nat)(a0:List Int):Option E6:=A5s nn a0 nn [] 0 (some (.tup [.str [],.bool false])) (fun z1 z2 z3=>some (.tup [.str (Dd (fun(n:Int)=>Dr n.toNat) z1),.bool true]))
def A2P(a0:List Int):Option E6:=A65 NN a0
theorem C7s(nn:Nat){a0:List Int}:A2 A3R nn Da [.sl .i32 a0 none]=A65 nn a0:=by
 have h:A2 A3R nn Da [.sl .i32 a0 none]=LP A3R nn Da [1,1,0,1,0,0] 10003 nn (B74 a0 [] 0) (A8 0 (sk A3R nn Da [1,1,1] (B2 A3R Tryz.f125.results.toList))):=by kernel_rfl
 rw[h];simp only[B7o];show _=_;kernel_rfl
def B3E:S1T
 |[.sl .i32 a0 none]=>pR [.str,.bool] (A2P a0)
 |_=>none
def E55:Env Ty6 A4:=mkE [(123,B1K),(124,B0i),(125,B3E)] [] noD 41 [6] 0 [] []
def F55(a0:List Int)(a1:List C2)(a2:Int):Option E6:=gd (okR [.int .i64] (A2L a0 a2)) (let z1:=(lI (gL (A2L a0 a2) 0));gd (okR [.int .i64,.int .i64,.str] (A2O a0 z1)) (let z2:=(lI (gL (A2O a0 z1) 0));match sub a0 z1 z2 with|none=>none|some y3=>(gd (okR [.str,.bool] (A2P y3)) (match idx a1 z1 with|none=>none|some y4=>(some (.one (.agg .tok (⟨(lI (gL (A2O a0 z1) 1)),(⟨y4.line,y4.col⟩:C2),z1,z2,(lS (gL (A2P y3) 0)),(lS (gL (A2O a0 z1) 2))⟩:A1))))))))
theorem B3V{a0:List Int}{a1:List C2}{a2:Int}:A2 E55 NN Tryz.f55 [.sl .i32 a0 none,.sl .pos a1 none,.int .i64 a2]=F55 a0 a1 a2:=by kernel_rfl
def S55:S1T
 |[.sl .i32 a0 none,.sl .pos a1 none,.int .i64 a2]=>pR [.agg .tok] (F55 a0 a1 a2)
 |_=>none
def E24:Env Ty6 A4:=mkE [(52,S52),(53,S53),(54,S54),(55,S55)] [] (lkD [(0,[2,1000109]),(1,[10,11,12,13,14,1000109]),(2,[0,4,15,16,17,18,19,20,1000109]),(3,[3,21,22,1000109]),(4,[1000109]),(5,[1000109]),(6,[8,23,24,25,26]),(7,[27,28,29,30]),(8,[31,32,33,34,35,36,37]),(9,[5,6,7,9,38,39,1000109]),(10,[9,38,40,41,1000109]),(10006,[1000109])]) 42 [] 0 [] []
def B7V(a0:List Int)(x5:List Int)(x6:List C2)(x7:List A1)(x8:Int):S6:=⟨[(5,.one (.sl .i32 x5 (some 1020))),(6,.one (.sl .pos x6 (some 1022))),(7,.one (.sl .tok x7 (some 107))),(8,.one (.int .i64 x8))],[107,1020,1022]⟩
def D1e(a0:List Int)(x2:List A1):S6:=⟨[(2,.one (.sl .tok x2 (some 107)))],[107]⟩
def B1V{R:Type}(nn:Nat)(a0:List Int)(x5:List Int)(x6:List C2)(x7:List A1)(x8:Int)(k1:(List A1)→Option R)(k2:(List Int)→(List C2)→(List A1)→Int→Option R):Option R:=let r8:=F55 x5 x6 x8;gd (okR [.agg .tok] r8) (let z1:=(B7r (gL r8 0));gd (A3 (Bb x7+1) 72) (let j2:(List Int)→(List C2)→(List A1)→A1→Bool→Option R:=fun z3 z4 z5 z6 z7=>k2 z3 z4 z5 z6.to_;bif(z1.kind==0)==false then(bif(z1.kind==1)then(k1 (x7++[z1]))else(j2 x5 x6 (x7++[z1]) z1 (z1.kind==1)))else(bif true then(k1 (x7++[z1]))else(j2 x5 x6 (x7++[z1]) z1 true))))
def A3n{R:Type}(nn:Nat)(a0:List Int):Nat→(List Int)→(List C2)→(List A1)→Int→((List A1)→Option R)→Option R
 |0,_,_,_,_,_=>none
 |n+1,x5,x6,x7,x8,k1=>B1V nn a0 x5 x6 x7 x8 k1 (fun x5 x6 x7 x8=>A3n nn a0 n x5 x6 x7 x8 k1)
theorem B8L{R:Type}(nn:Nat)(a0:List Int):∀(n:Nat)(x5:List Int)(x6:List C2)(x7:List A1)(x8:Int)(K:Ex→S6→Option R),LP E24 nn Dk [1,1,1,1,1,1,0,0] 10006 n (B7V a0 x5 x6 x7 x8) K=A3n nn a0 n x5 x6 x7 x8 (fun x2=>K .ret (D1e a0 x2))
 |0,_,_,_,_,_=>rfl
 |n+1,x5,x6,x7,x8,K=>by
  rw[A3n];simp only[←B8L nn a0 n _ _ _ _ K];kernel_rfl
def A7d(nn:Nat)(a0:List Int):Option E6:=gd (okR [.sl .i32 (some 1),.int .i64] (F52 a0)) (let z1:=(A4T (gL (F52 a0) 0));let z2:=(lI (gL (F52 a0) 1));let r4:=F53 z1 (z2==(Bb a0:Int));gd (okR [.sl .i32 (some 1)] r4) (gd (okR [.sl .pos (some 1)] (F54 z1)) (A3n nn a0 nn (A4T (gL r4 0)) (B3I (gL (F54 z1) 0)) [] 0 (fun z3=>some (.one (.sl .tok z3 (some 1)))))))
def F24(a0:List Int):Option E6:=A7d NN a0
theorem C5E(nn:Nat){a0:List Int}:A2 E24 nn Dk [.sl .u8 a0 none]=A7d nn a0:=by
 have h:A2 E24 nn Dk [.sl .u8 a0 none]=gd (okR [.sl .i32 (some 1),.int .i64] (F52 a0)) (let z1:=(A4T (gL (F52 a0) 0));let z2:=(lI (gL (F52 a0) 1));let r4:=F53 z1 (z2==(Bb a0:Int));gd (okR [.sl .i32 (some 1)] r4) (gd (okR [.sl .pos (some 1)] (F54 z1)) (LP E24 nn Dk [1,1,1,1,1,1,0,0] 10006 nn (B7V a0 (A4T (gL r4 0)) (B3I (gL (F54 z1) 0)) [] 0) (A8 0 (B2 E24 Tryz.f24.results.toList))))):=by kernel_rfl
 rw[h];simp only[B8L];show _=_;kernel_rfl
def S24:S1T
 |[.sl .u8 a0 none]=>pR [.sl .tok (some 1)] (F24 a0)
 |_=>none
def B9y:Env Ty6 A4:=mkE [] [] noD 35 [7] 1 [] []
def A5z(a1:Int)(a2:List UInt8)(af:List A1)(ac ao ap anq:Int):Option B6:=match idx af ac with|none=>none|some y1=>(bif(anq==0)==true then(bif(y1.kind==a1)==true then(some ([.bool (y1.text==a2)],[[.sl .tok af none,.int .i64 ac,.int .i64 ao,.int .i64 ap,.int .i64 anq]]))else(some ([.bool false],[[.sl .tok af none,.int .i64 ac,.int .i64 ao,.int .i64 ap,.int .i64 anq]])))else(some ([.bool false],[[.sl .tok af none,.int .i64 ac,.int .i64 ao,.int .i64 ap,.int .i64 anq]])))
theorem C8w{a1:Int}{a2:List UInt8}{af:List A1}{ac ao ap anq:Int}:I7 B9y NN Tryz.f160 [0] [.ptr 900000 0,.int .i64 a1,.str a2] [[.sl .tok af none,.int .i64 ac,.int .i64 ao,.int .i64 ap,.int .i64 anq]]=A5z a1 a2 af ac ao ap anq:=by kernel_rfl
def A9K:S2T
 |[.ptr d0 o0,.int .i64 a1,.str a2],[[.sl .tok af none,.int .i64 ac,.int .i64 ao,.int .i64 ap,.int .i64 anq]]=>bif bq d0 o0 then pB [.bool] kC (A5z a1 a2 af ac ao ap anq)else none
 |_,_=>none
def E94:Env Ty6 A4:=mkE [] [(160,A9K)] noD 8 [] 1 [] []
def F94(a1:List UInt8)(af:List A1)(ac ao ap anq:Int):Option B6:=let r1:=A5z 2 a1 af ac ao ap anq;gd (okB [.bool] kC r1) (some ([.bool (lB (gB r1 0))],[[.sl .tok (G6 (gC r1 0 0)) none,.int .i64 (lI (gC r1 0 1)),.int .i64 (lI (gC r1 0 2)),.int .i64 (lI (gC r1 0 3)),.int .i64 (lI (gC r1 0 4))]]))
theorem C6y{a1:List UInt8}{af:List A1}{ac ao ap anq:Int}:I7 E94 NN Tryz.f94 [0] [.ptr 900000 0,.str a1] [[.sl .tok af none,.int .i64 ac,.int .i64 ao,.int .i64 ap,.int .i64 anq]]=F94 a1 af ac ao ap anq:=by kernel_rfl
def S94:S2T
 |[.ptr d0 o0,.str a1],[[.sl .tok af none,.int .i64 ac,.int .i64 ao,.int .i64 ap,.int .i64 anq]]=>bif bq d0 o0 then pB [.bool] kC (F94 a1 af ac ao ap anq)else none
 |_,_=>none
def E95:Env Ty6 A4:=mkE [] [] noD 5 [] 0 [] []
def F95(a0:Int):Option E6:=bif(a0==8)then(some (.one (.str [93])))else(some (.one (.str [125])))
theorem C35{a0:Int}:A2 E95 NN Tryz.f95 [.int .i64 a0]=F95 a0:=by kernel_rfl
def S95:S1T
 |[.int .i64 a0]=>pR [.str] (F95 a0)
 |_=>none
def B6x:Env Ty6 A4:=mkE [] [] noD 13 [] 1 [] []
def A0T(a1:Int)(af:List A1)(ac ao ap anq:Int):Option B6:=bif(anq==0)then(some ([],[[.sl .tok af none,.int .i64 ac,.int .i64 ao,.int .i64 ap,.int .i64 a1]]))else(some ([],[[.sl .tok af none,.int .i64 ac,.int .i64 ao,.int .i64 ap,.int .i64 anq]]))
theorem C3R{a1:Int}{af:List A1}{ac ao ap anq:Int}:I7 B6x NN Tryz.f100 [0] [.ptr 900000 0,.int .i64 a1] [[.sl .tok af none,.int .i64 ac,.int .i64 ao,.int .i64 ap,.int .i64 anq]]=A0T a1 af ac ao ap anq:=by kernel_rfl
def A4M:S2T
 |[.ptr d0 o0,.int .i64 a1],[[.sl .tok af none,.int .i64 ac,.int .i64 ao,.int .i64 ap,.int .i64 anq]]=>bif bq d0 o0 then pB [] kC (A0T a1 af ac ao ap anq)else none
 |_,_=>none
def B4i:Env Ty6 A4:=mkE [] [(94,S94)] noD 18 [] 1 [] []
def A4F(a1:List UInt8)(af:List A1)(ac ao ap anq:Int):Option B6:=let r7:=F94 a1 af ac ao ap anq;gd (okB [.bool] kC r7) (let z1:=(lB (gB r7 0));let z2:=(G6 (gC r7 0 0));let z3:=(lI (gC r7 0 1));let z4:=(lI (gC r7 0 2));let z5:=(lI (gC r7 0 3));let z6:=(lI (gC r7 0 4));bif z1 then(some ([.bool z1],[[.sl .tok z2 none,.int .i64 (Ba .i64 (z3+1)),.int .i64 z4,.int .i64 z5,.int .i64 z6]]))else(some ([.bool z1],[[.sl .tok z2 none,.int .i64 z3,.int .i64 z4,.int .i64 z5,.int .i64 z6]])))
theorem C8j{a1:List UInt8}{af:List A1}{ac ao ap anq:Int}:I7 B4i NN Tryz.f104 [0] [.ptr 900000 0,.str a1] [[.sl .tok af none,.int .i64 ac,.int .i64 ao,.int .i64 ap,.int .i64 anq]]=A4F a1 af ac ao ap anq:=by kernel_rfl
def A8A:S2T
 |[.ptr d0 o0,.str a1],[[.sl .tok af none,.int .i64 ac,.int .i64 ao,.int .i64 ap,.int .i64 anq]]=>bif bq d0 o0 then pB [.bool] kC (A4F a1 af ac ao ap anq)else none
 |_,_=>none
def E98:Env Ty6 A4:=mkE [] [(100,A4M),(104,A8A)] noD 14 [] 1 [] []
def F98(a1:List UInt8)(af:List A1)(ac ao ap anq:Int):Option B6:=let r8:=A4F a1 af ac ao ap anq;gd (okB [.bool] kC r8) (let z1:=(lB (gB r8 0));let z2:=(G6 (gC r8 0 0));let z3:=(lI (gC r8 0 1));let z4:=(lI (gC r8 0 2));let z5:=(lI (gC r8 0 3));let z6:=(lI (gC r8 0 4));bif(!z1)then(let r7:=A0T 70 z2 z3 z4 z5 z6;gd (okB [] kC r7) (some ([.bool z1],[[.sl .tok (G6 (gC r7 0 0)) none,.int .i64 (lI (gC r7 0 1)),.int .i64 (lI (gC r7 0 2)),.int .i64 (lI (gC r7 0 3)),.int .i64 (lI (gC r7 0 4))]])))else(some ([.bool z1],[[.sl .tok z2 none,.int .i64 z3,.int .i64 z4,.int .i64 z5,.int .i64 z6]])))
theorem C49{a1:List UInt8}{af:List A1}{ac ao ap anq:Int}:I7 E98 NN Tryz.f98 [0] [.ptr 900000 0,.str a1] [[.sl .tok af none,.int .i64 ac,.int .i64 ao,.int .i64 ap,.int .i64 anq]]=F98 a1 af ac ao ap anq:=by kernel_rfl
def S98:S2T
 |[.ptr d0 o0,.str a1],[[.sl .tok af none,.int .i64 ac,.int .i64 ao,.int .i64 ap,.int .i64 anq]]=>bif bq d0 o0 then pB [.bool] kC (F98 a1 af ac ao ap anq)else none
 |_,_=>none
def E96:Env Ty6 A4:=mkE [] [(98,S98)] noD 25 [] 1 [] []
def F96(a1:List UInt8)(af:List A1)(ac ao ap anq:Int):Option B6:=let n9:=F98 a1 af ac ao ap anq;gd (okB [.bool] kC n9) (let z1:=(lB (gB n9 0));let z2:=(G6 (gC n9 0 0));let z3:=(lI (gC n9 0 1));let z4:=(lI (gC n9 0 2));let z5:=(lI (gC n9 0 3));let z6:=(lI (gC n9 0 4));let j7:Bool→(List A1)→Int→Int→Int→Int→Option B6:=fun z8 z9 e9 dy dM fJ=>some ([.bool z8],[[.sl .tok z9 none,.int .i64 e9,.int .i64 dy,.int .i64 dM,.int .i64 fJ]]);let sd:Bool→Bool→(List A1)→Int→Int→Int→Int→Option B6:=fun eo gX iz iy gF z20 z21=>some ([.bool eo],[[.sl .tok iz none,.int .i64 iy,.int .i64 gF,.int .i64 z20,.int .i64 z21]]);bif z1==true then(let mT:=decide (z4>0);bif mT then(j7 z1 z2 z3 (Ba .i64 (z4 - 1)) z5 z6)else(sd z1 mT z2 z3 z4 z5 z6))else(bif false then(j7 z1 z2 z3 (Ba .i64 (z4 - 1)) z5 z6)else(sd z1 false z2 z3 z4 z5 z6)))
theorem C4N{a1:List UInt8}{af:List A1}{ac ao ap anq:Int}:I7 E96 NN Tryz.f96 [0] [.ptr 900000 0,.str a1] [[.sl .tok af none,.int .i64 ac,.int .i64 ao,.int .i64 ap,.int .i64 anq]]=F96 a1 af ac ao ap anq:=by kernel_rfl
def S96:S2T
 |[.ptr d0 o0,.str a1],[[.sl .tok af none,.int .i64 ac,.int .i64 ao,.int .i64 ap,.int .i64 anq]]=>bif bq d0 o0 then pB [.bool] kC (F96 a1 af ac ao ap anq)else none
 |_,_=>none
def A3o:Env Ty6 A4:=mkE [] [(160,A9K)] (lkD [(0,[4]),(2,[6,7,8]),(3,[10,11,17]),(4,[9,12,13,14,15,16]),(5,[1,5,17]),(6,[1,5,9])]) 18 [] 1 [] []
def B4p(a1:List (List UInt8))(af:List A1)(ac ao ap anq:Int)(x5:Int)(aa:List A1)(ab ah ai aj:Int):S6:=⟨[(0,.one (.ptr 900000 0)),(1,.one (.sl .str a1 none)),(5,.one (.int .i64 x5)),(1900000,.bx 900000 [.sl .tok aa none,.int .i64 ab,.int .i64 ah,.int .i64 ai,.int .i64 aj])],[900000]⟩
def C1s(a1:List (List UInt8))(af:List A1)(ac ao ap anq:Int)(x5:Int)(x9:Bool)(aa:List A1)(ab ah ai aj:Int):S6:=⟨[(0,.one (.ptr 900000 0)),(1,.one (.sl .str a1 none)),(5,.one (.int .i64 x5)),(9,.one (.bool x9)),(1900000,.bx 900000 [.sl .tok aa none,.int .i64 ab,.int .i64 ah,.int .i64 ai,.int .i64 aj])],[900000]⟩
def C4f(a1:List (List UInt8))(af:List A1)(ac ao ap anq:Int)(aa:List A1)(ab ah ai aj:Int):S6:=⟨[(0,.one (.ptr 900000 0)),(4,.one (.bool true)),(1900000,.bx 900000 [.sl .tok aa none,.int .i64 ab,.int .i64 ah,.int .i64 ai,.int .i64 aj])],[900000]⟩
def B5g{R:Type}(nn:Nat)(a1:List (List UInt8))(af:List A1)(ac ao ap anq:Int)(x5:Int)(aa:List A1)(ab ah ai aj:Int)(k1:(List A1)→Int→Int→Int→Int→Option R)(k2:Int→(List A1)→Int→Int→Int→Int→Option R)(k3:Int→Bool→(List A1)→Int→Int→Int→Int→Option R):Option R:=let z1:=decide (x5<(Bb a1:Int));bif z1 then(match idx a1 x5 with|none=>none|some y2=>(let r9:=A5z 3 y2 aa ab ah ai aj;gd (okB [.bool] kC r9) (let z3:=(lB (gB r9 0));let z4:=(G6 (gC r9 0 0));let z5:=(lI (gC r9 0 1));let z6:=(lI (gC r9 0 2));let z7:=(lI (gC r9 0 3));let z8:=(lI (gC r9 0 4));bif z3 then(k1 z4 z5 z6 z7 z8)else(k2 (Ba .i64 (x5+1)) z4 z5 z6 z7 z8))))else(k3 x5 z1 aa ab ah ai aj)
def A8K{R:Type}(nn:Nat)(a1:List (List UInt8))(af:List A1)(ac ao ap anq:Int):Nat→Int→(List A1)→Int→Int→Int→Int→((List A1)→Int→Int→Int→Int→Option R)→(Int→Bool→(List A1)→Int→Int→Int→Int→Option R)→Option R
 |0,_,_,_,_,_,_,_,_=>none
 |n+1,x5,aa,ab,ah,ai,aj,k1,k3=>B5g nn a1 af ac ao ap anq x5 aa ab ah ai aj k1 (fun x5 aa ab ah ai aj=>A8K nn a1 af ac ao ap anq n x5 aa ab ah ai aj k1 k3) k3
theorem B6P{R:Type}(nn:Nat)(a1:List (List UInt8))(af:List A1)(ac ao ap anq:Int):∀(n:Nat)(x5:Int)(aa:List A1)(ab ah ai aj:Int)(K:Ex→S6→Option R),LP A3o nn Cx [1,0,1,0,0] 10002 n (B4p a1 af ac ao ap anq x5 aa ab ah ai aj) K=A8K nn a1 af ac ao ap anq n x5 aa ab ah ai aj (fun aa ab ah ai aj=>K .ret (C4f a1 af ac ao ap anq aa ab ah ai aj)) (fun x5 x9 aa ab ah ai aj=>K (.exit 0) (C1s a1 af ac ao ap anq x5 x9 aa ab ah ai aj))
 |0,_,_,_,_,_,_,_=>rfl
 |n+1,x5,aa,ab,ah,ai,aj,K=>by
  rw[A8K];simp only[←B6P nn a1 af ac ao ap anq n _ _ _ _ _ _ K];kernel_rfl
def B2q(nn:Nat)(a1:List (List UInt8))(af:List A1)(ac ao ap anq:Int):Option B6:=A8K nn a1 af ac ao ap anq nn 0 af ac ao ap anq (fun z1 z2 z3 z4 z5=>some ([.bool true],[[.sl .tok z1 none,.int .i64 z2,.int .i64 z3,.int .i64 z4,.int .i64 z5]])) (fun z6 z7 z8 z9 e9 dy dM=>some ([.bool false],[[.sl .tok z8 none,.int .i64 z9,.int .i64 e9,.int .i64 dy,.int .i64 dM]]))
def A9f(a1:List (List UInt8))(af:List A1)(ac ao ap anq:Int):Option B6:=B2q NN a1 af ac ao ap anq
theorem C2n(nn:Nat){a1:List (List UInt8)}{af:List A1}{ac ao ap anq:Int}:I7 A3o nn Cx [0] [.ptr 900000 0,.sl .str a1 none] [[.sl .tok af none,.int .i64 ac,.int .i64 ao,.int .i64 ap,.int .i64 anq]]=B2q nn a1 af ac ao ap anq:=by
 have h:I7 A3o nn Cx [0] [.ptr 900000 0,.sl .str a1 none] [[.sl .tok af none,.int .i64 ac,.int .i64 ao,.int .i64 ap,.int .i64 anq]]=LP A3o nn Cx [1,0,1,0,0] 10002 nn (B4p a1 af ac ao ap anq 0 af ac ao ap anq) (A8 0 (sk A3o nn Cx [1,1] (Z3 A3o Tryz.f161.results.toList [0] [[.sl .tok af none,.int .i64 ac,.int .i64 ao,.int .i64 ap,.int .i64 anq]]))):=by kernel_rfl
 rw[h];simp only[B6P];show _=_;kernel_rfl
def B1g:S2T
 |[.ptr d0 o0,.sl .str a1 none],[[.sl .tok af none,.int .i64 ac,.int .i64 ao,.int .i64 ap,.int .i64 anq]]=>bif bq d0 o0 then pB [.bool] kC (A9f a1 af ac ao ap anq)else none
 |_,_=>none
def B88:Env Ty6 A4:=mkE [] [(100,A4M)] noD 34 [4,6] 1 [] []
def A39(a1:Bool)(af:List A1)(ac ao ap anq:Int):Option B6:=bif(!a1)then(let r1:=A0T 70 af ac ao ap anq;gd (okB [] kC r1) (some ([.agg .named (⟨[],(⟨0,0⟩:C2)⟩:Q4),.bool false],[[.sl .tok (G6 (gC r1 0 0)) none,.int .i64 (lI (gC r1 0 1)),.int .i64 (lI (gC r1 0 2)),.int .i64 (lI (gC r1 0 3)),.int .i64 (lI (gC r1 0 4))]])))else(match idx af ac with|none=>none|some y2=>(some ([.agg .named (⟨y2.text,(⟨y2.pos.line,y2.pos.col⟩:C2)⟩:Q4),.bool true],[[.sl .tok af none,.int .i64 (Ba .i64 (ac+1)),.int .i64 ao,.int .i64 ap,.int .i64 anq]])))
theorem C28{a1:Bool}{af:List A1}{ac ao ap anq:Int}:I7 B88 NN Tryz.f162 [0] [.ptr 900000 0,.bool a1] [[.sl .tok af none,.int .i64 ac,.int .i64 ao,.int .i64 ap,.int .i64 anq]]=A39 a1 af ac ao ap anq:=by kernel_rfl
def B1v:S2T
 |[.ptr d0 o0,.bool a1],[[.sl .tok af none,.int .i64 ac,.int .i64 ao,.int .i64 ap,.int .i64 anq]]=>bif bq d0 o0 then pB [.agg .named,.bool] kC (A39 a1 af ac ao ap anq)else none
 |_,_=>none
def E97:Env Ty6 A4:=mkE [] [(161,B1g),(162,B1v)] noD 37 [4] 1 [] []
def F97(a1:List (List UInt8))(af:List A1)(ac ao ap anq:Int):Option B6:=let jj:=A9f a1 af ac ao ap anq;gd (okB [.bool] kC jj) (let z1:=(lB (gB jj 0));let z2:=(G6 (gC jj 0 0));let z3:=(lI (gC jj 0 1));let z4:=(lI (gC jj 0 2));let z5:=(lI (gC jj 0 3));let z6:=(lI (gC jj 0 4));bif(z6==0)==true then(match idx z2 z3 with|none=>none|some y7=>(bif(y7.kind==3)==true then(let r8:=A39 (!z1) z2 z3 z4 z5 z6;gd (okB [.agg .named,.bool] kC r8) (some ([.agg .named (⟨((M9 (gB r8 0)).name),(⟨(((M9 (gB r8 0)).pos).line),(((M9 (gB r8 0)).pos).col)⟩:C2)⟩:Q4),.bool (lB (gB r8 1))],[[.sl .tok (G6 (gC r8 0 0)) none,.int .i64 (lI (gC r8 0 1)),.int .i64 (lI (gC r8 0 2)),.int .i64 (lI (gC r8 0 3)),.int .i64 (lI (gC r8 0 4))]])))else(let r9:=A39 false z2 z3 z4 z5 z6;gd (okB [.agg .named,.bool] kC r9) (some ([.agg .named (⟨((M9 (gB r9 0)).name),(⟨(((M9 (gB r9 0)).pos).line),(((M9 (gB r9 0)).pos).col)⟩:C2)⟩:Q4),.bool (lB (gB r9 1))],[[.sl .tok (G6 (gC r9 0 0)) none,.int .i64 (lI (gC r9 0 1)),.int .i64 (lI (gC r9 0 2)),.int .i64 (lI (gC r9 0 3)),.int .i64 (lI (gC r9 0 4))]])))))else(let ea:=A39 false z2 z3 z4 z5 z6;gd (okB [.agg .named,.bool] kC ea) (some ([.agg .named (⟨((M9 (gB ea 0)).name),(⟨(((M9 (gB ea 0)).pos).line),(((M9 (gB ea 0)).pos).col)⟩:C2)⟩:Q4),.bool (lB (gB ea 1))],[[.sl .tok (G6 (gC ea 0 0)) none,.int .i64 (lI (gC ea 0 1)),.int .i64 (lI (gC ea 0 2)),.int .i64 (lI (gC ea 0 3)),.int .i64 (lI (gC ea 0 4))]]))))
theorem C2E{a1:List (List UInt8)}{af:List A1}{ac ao ap anq:Int}:I7 E97 NN Tryz.f97 [0] [.ptr 900000 0,.sl .str a1 none] [[.sl .tok af none,.int .i64 ac,.int .i64 ao,.int .i64 ap,.int .i64 anq]]=F97 a1 af ac ao ap anq:=by kernel_rfl
def S97:S2T
 |[.ptr d0 o0,.sl .str a1 none],[[.sl .tok af none,.int .i64 ac,.int .i64 ao,.int .i64 ap,.int .i64 anq]]=>bif bq d0 o0 then pB [.agg .named,.bool] kC (F97 a1 af ac ao ap anq)else none
 |_,_=>none
def B5u:Env Ty6 A4:=mkE [] [(94,S94),(100,A4M)] noD 38 [] 1 [] []
def A4O(a1:List UInt8)(af:List A1)(ac ao ap anq:Int):Option B6:=let r9:=F94 a1 af ac ao ap anq;gd (okB [.bool] kC r9) (let z1:=(lB (gB r9 0));let z2:=(G6 (gC r9 0 0));let z3:=(lI (gC r9 0 1));let z4:=(lI (gC r9 0 2));let z5:=(lI (gC r9 0 3));let z6:=(lI (gC r9 0 4));bif(!z1)then(let r7:=A0T 70 z2 z3 z4 z5 z6;gd (okB [] kC r7) (some ([.bool false],[[.sl .tok (G6 (gC r7 0 0)) none,.int .i64 (lI (gC r7 0 1)),.int .i64 (lI (gC r7 0 2)),.int .i64 (lI (gC r7 0 3)),.int .i64 (lI (gC r7 0 4))]])))else(bif(z4==z5)then(let r8:=A0T 71 z2 z3 z4 z5 z6;gd (okB [] kC r8) (some ([.bool false],[[.sl .tok (G6 (gC r8 0 0)) none,.int .i64 (lI (gC r8 0 1)),.int .i64 (lI (gC r8 0 2)),.int .i64 (lI (gC r8 0 3)),.int .i64 (lI (gC r8 0 4))]])))else(some ([.bool true],[[.sl .tok z2 none,.int .i64 (Ba .i64 (z3+1)),.int .i64 (Ba .i64 (z4+1)),.int .i64 z5,.int .i64 z6]]))))
theorem C77{a1:List UInt8}{af:List A1}{ac ao ap anq:Int}:I7 B5u NN Tryz.f103 [0] [.ptr 900000 0,.str a1] [[.sl .tok af none,.int .i64 ac,.int .i64 ao,.int .i64 ap,.int .i64 anq]]=A4O a1 af ac ao ap anq:=by kernel_rfl
def B2F:S2T
 |[.ptr d0 o0,.str a1],[[.sl .tok af none,.int .i64 ac,.int .i64 ao,.int .i64 ap,.int .i64 anq]]=>bif bq d0 o0 then pB [.bool] kC (A4O a1 af ac ao ap anq)else none
 |_,_=>none
def E42:Env Ty6 A4:=mkE [] [(100,A4M)] noD 28 [] 1 [] []
def F42(af:List A1)(ac ao ap anq:Int):Option B6:=bif(anq==0)==true then(match idx af ac with|none=>none|some y1=>(let z2:= !(y1.kind==0);bif z2 then(let r3:=A0T 70 af ac ao ap anq;gd (okB [] kC r3) (some ([.bool (y1.kind==0)],[[.sl .tok (G6 (gC r3 0 0)) none,.int .i64 (lI (gC r3 0 1)),.int .i64 (lI (gC r3 0 2)),.int .i64 (lI (gC r3 0 3)),.int .i64 (lI (gC r3 0 4))]])))else(some ([.bool (y1.kind==0)],[[.sl .tok af none,.int .i64 ac,.int .i64 ao,.int .i64 ap,.int .i64 anq]]))))else(bif(!false)then(let r4:=A0T 70 af ac ao ap anq;gd (okB [] kC r4) (some ([.bool false],[[.sl .tok (G6 (gC r4 0 0)) none,.int .i64 (lI (gC r4 0 1)),.int .i64 (lI (gC r4 0 2)),.int .i64 (lI (gC r4 0 3)),.int .i64 (lI (gC r4 0 4))]])))else(some ([.bool false],[[.sl .tok af none,.int .i64 ac,.int .i64 ao,.int .i64 ap,.int .i64 anq]])))
theorem B0F{af:List A1}{ac ao ap anq:Int}:I7 E42 NN Tryz.f42 [0] [.ptr 900000 0] [[.sl .tok af none,.int .i64 ac,.int .i64 ao,.int .i64 ap,.int .i64 anq]]=F42 af ac ao ap anq:=by kernel_rfl
def S42:S2T
 |[.ptr d0 o0],[[.sl .tok af none,.int .i64 ac,.int .i64 ao,.int .i64 ap,.int .i64 anq]]=>bif bq d0 o0 then pB [.bool] kC (F42 af ac ao ap anq)else none
 |_,_=>none
def E43:Env Ty6 A4:=mkE [] [] noD 27 [2,9] 1 [2] [(9,102)]
def F43(af:List A1)(ac ao ap anq:Int):Option B6:=bif(anq==0)then(some ([.agg .fault (⟨0,[],[]⟩:Q8),.bool false],[[.sl .tok af none,.int .i64 ac,.int .i64 ao,.int .i64 ap,.int .i64 anq]]))else(match idx af ac with|none=>none|some y1=>(some ([.agg .fault (⟨anq,[y1.pos],[]⟩:Q8),.bool true],[[.sl .tok af none,.int .i64 ac,.int .i64 ao,.int .i64 ap,.int .i64 anq]])))
theorem C5H{af:List A1}{ac ao ap anq:Int}:I7 E43 NN Tryz.f43 [0] [.ptr 900000 0] [[.sl .tok af none,.int .i64 ac,.int .i64 ao,.int .i64 ap,.int .i64 anq]]=F43 af ac ao ap anq:=by kernel_rfl
def S43:S2T
 |[.ptr d0 o0],[[.sl .tok af none,.int .i64 ac,.int .i64 ao,.int .i64 ap,.int .i64 anq]]=>bif bq d0 o0 then pB [.agg .fault,.bool] kC (F43 af ac ao ap anq)else none
 |_,_=>none
def E62:Env Ty6 A4:=mkE [] [(138,A9h)] noD 19 [] 1 [] []
def F62(a1:List UInt8)(ac:List Int):Option B6:=gd (okB [] kP (A27 ac)) (let z1:=(E1 (gC (A27 ac) 0 1));gd (A3 (Bb z1+Bb a1) 1) (some ([.int .i64 (Bb a1:Int),.any],[[.ptr 900000 C6,.sl .u8 (z1++Dd (fun(c:UInt8)=>(c.toNat:Int)) a1) (some 92000001)]])))
theorem B3R{a1:List UInt8}{ac:List Int}:I7 E62 NN Tryz.f62 [0] [.ptr 900000 0,.str a1] [[.ptr 900000 C6,.sl .u8 ac (some 92000001)]]=F62 a1 ac:=by kernel_rfl
def S62:S2T
 |[.ptr d0 o0,.str a1],[[.ptr p0 q0,.sl .u8 ac (some ef)]]=>bif bq d0 o0&&pq p0 q0&&(Be ef 92000001)then pB [.int .i64,.any] kP (F62 a1 ac)else none
 |_,_=>none
def E27:Env Ty6 A4:=mkE [] [(62,S62)] (lkD [(0,[1]),(2,[9,10,11]),(3,[5,12,13,14,15,16]),(4,[17])]) 18 [] 1 [] []
def B9o(a1:List (List UInt8))(ac:List Int)(x7 x8:Int)(ab:List Int):S6:=⟨[(0,.one (.ptr 900000 0)),(6,.one (.sl .str a1 none)),(7,.one (.int .i64 x7)),(8,.one (.int .i64 x8)),(1900000,.bx 900000 [.ptr 900000 C6,.sl .u8 ab (some 92000001)])],[900000,900000,92000001]⟩
def C7F(a1:List (List UInt8))(ac:List Int)(x7 x8:Int)(x9:Bool)(ab:List Int):S6:=⟨[(0,.one (.ptr 900000 0)),(6,.one (.sl .str a1 none)),(7,.one (.int .i64 x7)),(8,.one (.int .i64 x8)),(9,.one (.bool x9)),(1900000,.bx 900000 [.ptr 900000 C6,.sl .u8 ab (some 92000001)])],[900000,900000,92000001]⟩
def A9B{R:Type}(nn:Nat)(a1:List (List UInt8))(ac:List Int)(x7 x8:Int)(ab:List Int)(k1:Int→Int→(List Int)→Option R)(k2:Int→Int→Bool→(List Int)→Option R):Option R:=let z1:=decide (x8<x7);bif z1 then(match idx a1 x8 with|none=>none|some y2=>(let r3:=F62 y2 ab;gd (okB [.int .i64,.any] kP r3) (k1 x7 (Ba .i64 (x8+1)) (E1 (gC r3 0 1)))))else(k2 x7 x8 z1 ab)
def A5y{R:Type}(nn:Nat)(a1:List (List UInt8))(ac:List Int):Nat→Int→Int→(List Int)→(Int→Int→Bool→(List Int)→Option R)→Option R
 |0,_,_,_,_=>none
 |n+1,x7,x8,ab,k2=>A9B nn a1 ac x7 x8 ab (fun x7 x8 ab=>A5y nn a1 ac n x7 x8 ab k2) k2
theorem B4W{R:Type}(nn:Nat)(a1:List (List UInt8))(ac:List Int):∀(n:Nat)(x7 x8:Int)(ab:List Int)(K:Ex→S6→Option R),LP E27 nn Dj [1,0,0] 10001 n (B9o a1 ac x7 x8 ab) K=A5y nn a1 ac n x7 x8 ab (fun x7 x8 x9 ab=>K (.exit 0) (C7F a1 ac x7 x8 x9 ab))
 |0,_,_,_,_=>rfl
 |n+1,x7,x8,ab,K=>by
  rw[A5y];simp only[←B4W nn a1 ac n _ _ _ K];kernel_rfl
def A6T(nn:Nat)(a1:List (List UInt8))(ac:List Int):Option B6:=A5y nn a1 ac nn (Bb a1:Int) 0 ac (fun z1 z2 z3 z4=>some ([],[[.ptr 900000 C6,.sl .u8 z4 (some 92000001)]]))
def F27(a1:List (List UInt8))(ac:List Int):Option B6:=A6T NN a1 ac
theorem B03(nn:Nat){a1:List (List UInt8)}{ac:List Int}:I7 E27 nn Dj [0] [.ptr 900000 0,.sl .str a1 none] [[.ptr 900000 C6,.sl .u8 ac (some 92000001)]]=A6T nn a1 ac:=by
 have h:I7 E27 nn Dj [0] [.ptr 900000 0,.sl .str a1 none] [[.ptr 900000 C6,.sl .u8 ac (some 92000001)]]=LP E27 nn Dj [1,0,0] 10001 nn (B9o a1 ac (Bb a1:Int) 0 ac) (A8 0 (Z3 E27 Tryz.f27.results.toList [0] [[.ptr 900000 C6,.sl .u8 ac (some 92000001)]])):=by kernel_rfl
 rw[h];simp only[B4W];show _=_;kernel_rfl
def S27:S2T
 |[.ptr d0 o0,.sl .str a1 none],[[.ptr p0 q0,.sl .u8 ac (some ef)]]=>bif bq d0 o0&&pq p0 q0&&(Be ef 92000001)then pB [] kP (F27 a1 ac)else none
 |_,_=>none
def E86:Env Ty6 A4:=mkE [(155,A9m),(156,A9A)] [] noD 22 [] 0 [] []
def F86(a0:Bool)(a1:List UInt8):Option E6:=bif a0 then(gd (okR [.str,.bool] (A2D a1)) (some (.one (.str (lS (gL (A2D a1) 0))))))else(gd (okR [.str,.int .i64] (A2h a1)) (some (.one (.str (lS (gL (A2h a1) 0))))))
theorem C0E{a0:Bool}{a1:List UInt8}:A2 E86 NN Tryz.f86 [.bool a0,.str a1]=F86 a0 a1:=by kernel_rfl
def S86:S1T
 |[.bool a0,.str a1]=>pR [.str] (F86 a0 a1)
 |_=>none
def B69:Env Ty6 A4:=mkE [] [(27,S27)] noD 9 [] 1 [] []
def A41(a1:Int)(ac:List Int):Option B6:=let z1:=decide (a1>0);bif z1 then(let r2:=F27 [[44,32]] ac;gd (okB [] kP r2) (some ([],[[.ptr 900000 C6,.sl .u8 (E1 (gC r2 0 1)) (some 92000001)]])))else(some ([],[[.ptr 900000 C6,.sl .u8 ac (some 92000001)]]))
theorem D0H{a1:Int}{ac:List Int}:I7 B69 NN Tryz.f101 [0] [.ptr 900000 0,.int .i64 a1] [[.ptr 900000 C6,.sl .u8 ac (some 92000001)]]=A41 a1 ac:=by kernel_rfl
def A7T:S2T
 |[.ptr d0 o0,.int .i64 a1],[[.ptr p0 q0,.sl .u8 ac (some ef)]]=>bif bq d0 o0&&pq p0 q0&&(Be ef 92000001)then pB [] kP (A41 a1 ac)else none
 |_,_=>none
def A8j(g:LitT→(List Int)→Option B6):S2T
 |[.ptr d0 o0,.agg .lit a1],[[.ptr p0 q0,.sl .u8 ac (some ef)]]=>bif bq d0 o0&&pq p0 q0&&(Be ef 92000001)then pB [] kP (g a1 ac)else none
 |_,_=>none
def E44(dz:LitT→(List Int)→Option B6):Env Ty6 A4:=mkE [(86,S86)] [(27,S27),(44,A8j dz),(101,A7T)] (lkD [(0,[1,1000105,1000107]),(1,[8,1000105,1000107]),(2,[11,1000105,1000107]),(3,[3,9,10,12,13,14,15,16,1000103,1000105,1000107]),(4,[10,18,1000105,1000107]),(5,[19,1000105,1000107]),(6,[20,1000105,1000107]),(7,[21,1000105,1000107]),(8,[3,9,17,22,23,24,25,26,1000103,1000105,1000107]),(9,[17,28,1000105,1000107]),(10,[3,9,27,29,30,31,1000103,1000105,1000107]),(11,[27,33,1000105,1000107]),(12,[3,9,32,34,35,36,37,38,39,40,41,1000103,1000105,1000107]),(13,[32,43,1000105,1000107]),(14,[9,42,44,45,46,1000105,1000107]),(15,[3,47,1000103,1000105,1000107]),(16,[1000103,1000105,1000107]),(17,[51,52,53,54,1000103,1000107]),(18,[4,55,56,57,1000103,1000107]),(19,[5,58,59,60,1000103,1000105,1000107]),(20,[61,1000103,1000105,1000107]),(21,[48,49,50,51,62,63,64,1000103,1000105,1000107]),(22,[9,42,66,1000105,1000107]),(23,[65,67,68,69,1000105,1000107]),(24,[3,70,1000103,1000105,1000107]),(25,[1000103,1000105,1000107]),(26,[74,75,76,77,1000103,1000105]),(27,[6,78,79,80,1000103,1000105]),(28,[81,82,83,84,85,1000103,1000105]),(29,[7,86,87,88,89,1000103,1000105,1000107]),(30,[90,1000103,1000105,1000107]),(31,[71,72,73,74,91,92,93,1000103,1000105,1000107]),(10016,[1000103,1000105,1000107]),(10025,[1000103,1000105,1000107])]) 94 [5,7] 1 [] []
def B50(a1:LitT)(ac:List Int)(gG:List LitT)(gH fP:Int)(ab:List Int):S6:=⟨[(0,.one (.ptr 900000 0)),(48,.one (.sl .lit gG none)),(49,.one (.int .i64 gH)),(50,.one (.int .i64 fP)),(1900000,.bx 900000 [.ptr 900000 C6,.sl .u8 ab (some 92000001)])],[900000,900000,92000001]⟩
def D0q(a1:LitT)(ac:List Int)(gG:List LitT)(gH fP:Int)(ua:Bool)(ab:List Int):S6:=⟨[(0,.one (.ptr 900000 0)),(48,.one (.sl .lit gG none)),(49,.one (.int .i64 gH)),(50,.one (.int .i64 fP)),(51,.one (.bool ua)),(1900000,.bx 900000 [.ptr 900000 C6,.sl .u8 ab (some 92000001)])],[900000,900000,92000001]⟩
def B5D(a1:LitT)(ac:List Int)(gJ:List LfT)(gK fQ:Int)(ab:List Int):S6:=⟨[(0,.one (.ptr 900000 0)),(71,.one (.sl .lf gJ none)),(72,.one (.int .i64 gK)),(73,.one (.int .i64 fQ)),(1900000,.bx 900000 [.ptr 900000 C6,.sl .u8 ab (some 92000001)])],[900000,900000,92000001]⟩
def C8c(a1:LitT)(ac:List Int)(gJ:List LfT)(gK fQ:Int)(ub:Bool)(ab:List Int):S6:=⟨[(0,.one (.ptr 900000 0)),(71,.one (.sl .lf gJ none)),(72,.one (.int .i64 gK)),(73,.one (.int .i64 fQ)),(74,.one (.bool ub)),(1900000,.bx 900000 [.ptr 900000 C6,.sl .u8 ab (some 92000001)])],[900000,900000,92000001]⟩
def A4q{R:Type}(nn:Nat)(dz:LitT→(List Int)→Option B6)(a1:LitT)(ac:List Int)(gG:List LitT)(gH fP:Int)(ab:List Int)(k1:(List LitT)→Int→Int→(List Int)→Option R)(k2:(List LitT)→Int→Int→Bool→(List Int)→Option R):Option R:=let z1:=decide (fP<gH);bif z1 then(match idx gG fP with|none=>none|some y2=>(let r5:=A41 fP ab;gd (okB [] kP r5) (let z3:=(E1 (gC r5 0 1));let r4:=dz (LitT.mk y2.kind y2.text y2.block y2.items y2.fields (⟨y2.pos.line,y2.pos.col⟩:C2)) z3;gd (okB [] kP r4) (k1 gG gH (Ba .i64 (fP+1)) (E1 (gC r4 0 1))))))else(k2 gG gH fP z1 ab)
def A21{R:Type}(nn:Nat)(dz:LitT→(List Int)→Option B6)(a1:LitT)(ac:List Int):Nat→(List LitT)→Int→Int→(List Int)→((List LitT)→Int→Int→Bool→(List Int)→Option R)→Option R
 |0,_,_,_,_,_=>none
 |n+1,gG,gH,fP,ab,k2=>A4q nn dz a1 ac gG gH fP ab (fun gG gH fP ab=>A21 nn dz a1 ac n gG gH fP ab k2) k2
theorem B9r{R:Type}(nn:Nat)(dz:LitT→(List Int)→Option B6)(a1:LitT)(ac:List Int):∀(n:Nat)(gG:List LitT)(gH fP:Int)(ab:List Int)(K:Ex→S6→Option R),LP (E44 dz) nn Cb [1,1,0,1,1,1,1,1,1,1,1,1,0,1,0,1,0,0] 10016 n (B50 a1 ac gG gH fP ab) K=A21 nn dz a1 ac n gG gH fP ab (fun gG gH fP ua ab=>K (.exit 1) (D0q a1 ac gG gH fP ua ab))
 |0,_,_,_,_,_=>rfl
 |n+1,gG,gH,fP,ab,K=>by
  rw[A21];simp only[←B9r nn dz a1 ac n _ _ _ _ K];kernel_rfl
def A5d{R:Type}(nn:Nat)(dz:LitT→(List Int)→Option B6)(a1:LitT)(ac:List Int)(gJ:List LfT)(gK fQ:Int)(ab:List Int)(k1:(List LfT)→Int→Int→(List Int)→Option R)(k2:(List LfT)→Int→Int→Bool→(List Int)→Option R):Option R:=let z1:=decide (fQ<gK);bif z1 then(match idx gJ fQ with|none=>none|some y2=>(let z3:=y2.value.fields;let z4:=y2.value.pos.line;let z5:=y2.value.pos.col;let ea:=A41 fQ ab;gd (okB [] kP ea) (let z6:=(E1 (gC ea 0 1));let r9:=F27 [y2.name,[58,32]] z6;gd (okB [] kP r9) (let z7:=(E1 (gC r9 0 1));let r8:=dz (LitT.mk y2.value.kind y2.value.text y2.value.block y2.value.items z3 (⟨z4,z5⟩:C2)) z7;gd (okB [] kP r8) (k1 gJ gK (Ba .i64 (fQ+1)) (E1 (gC r8 0 1)))))))else(k2 gJ gK fQ z1 ab)
def A3O{R:Type}(nn:Nat)(dz:LitT→(List Int)→Option B6)(a1:LitT)(ac:List Int):Nat→(List LfT)→Int→Int→(List Int)→((List LfT)→Int→Int→Bool→(List Int)→Option R)→Option R
 |0,_,_,_,_,_=>none
 |n+1,gJ,gK,fQ,ab,k2=>A5d nn dz a1 ac gJ gK fQ ab (fun gJ gK fQ ab=>A3O nn dz a1 ac n gJ gK fQ ab k2) k2
theorem B7T{R:Type}(nn:Nat)(dz:LitT→(List Int)→Option B6)(a1:LitT)(ac:List Int):∀(n:Nat)(gJ:List LfT)(gK fQ:Int)(ab:List Int)(K:Ex→S6→Option R),LP (E44 dz) nn Cb [1,1,0,1,1,1,1,1,1,1,1,1,1,1,0,1,0,1,0,0] 10025 n (B5D a1 ac gJ gK fQ ab) K=A3O nn dz a1 ac n gJ gK fQ ab (fun gJ gK fQ ub ab=>K (.exit 3) (C8c a1 ac gJ gK fQ ub ab))
 |0,_,_,_,_,_=>rfl
 |n+1,gJ,gK,fQ,ab,K=>by
  rw[A3O];simp only[←B7T nn dz a1 ac n _ _ _ _ K];kernel_rfl
def A30(nn:Nat)(dz:LitT→(List Int)→Option B6)(a1:LitT)(ac:List Int):Option B6:=bif(a1.kind==1)then(let r1:=F27 [[36],a1.text] ac;gd (okB [] kP r1) (some ([],[[.ptr 900000 C6,.sl .u8 (E1 (gC r1 0 1)) (some 92000001)]])))else(let j2:Int→Bool→Option B6:=fun z3 z4=>bif z4 then(let r5:=F27 [a1.text] ac;gd (okB [] kP r5) (some ([],[[.ptr 900000 C6,.sl .u8 (E1 (gC r5 0 1)) (some 92000001)]])))else(bif(z3==6)then(let r6:=F27 [[110,117,108,108]] ac;gd (okB [] kP r6) (some ([],[[.ptr 900000 C6,.sl .u8 (E1 (gC r6 0 1)) (some 92000001)]])))else(bif(z3==4)then(let r8:=F86 a1.block a1.text;gd (okR [.str] r8) (let r7:=F27 [(lS (gL r8 0))] ac;gd (okB [] kP r7) (some ([],[[.ptr 900000 C6,.sl .u8 (E1 (gC r7 0 1)) (some 92000001)]]))))else(bif(z3==8)then(let iU:=F27 [[91]] ac;gd (okB [] kP iU) (A21 nn dz a1 ac nn a1.items (Bb a1.items:Int) 0 (E1 (gC iU 0 1)) (fun z9 e9 dy dM fJ=>let eg:=F27 [[93]] fJ;gd (okB [] kP eg) (some ([],[[.ptr 900000 C6,.sl .u8 (E1 (gC eg 0 1)) (some 92000001)]])))))else(bif(z3==9)then(let jk:=F27 [[123]] ac;gd (okB [] kP jk) (A3O nn dz a1 ac nn a1.fields (Bb a1.fields:Int) 0 (E1 (gC jk 0 1)) (fun gX iz iy gF z20=>let lw:=F27 [[125]] z20;gd (okB [] kP lw) (some ([],[[.ptr 900000 C6,.sl .u8 (E1 (gC lw 0 1)) (some 92000001)]])))))else(some ([],[[.ptr 900000 C6,.sl .u8 ac (some 92000001)]]))))));bif(a1.kind==2)then(j2 a1.kind (a1.kind==2))else(bif(a1.kind==3)then(j2 a1.kind (a1.kind==3))else(bif(a1.kind==5)then(j2 a1.kind (a1.kind==5))else(j2 a1.kind (a1.kind==7)))))
def A3F(dz:LitT→(List Int)→Option B6)(a1:LitT)(ac:List Int):Option B6:=A30 NN dz a1 ac
theorem B1i(nn:Nat)(dz:LitT→(List Int)→Option B6){a1:LitT}{ac:List Int}:I7 (E44 dz) nn Cb [0] [.ptr 900000 0,.agg .lit a1] [[.ptr 900000 C6,.sl .u8 ac (some 92000001)]]=A30 nn dz a1 ac:=by
 have h:I7 (E44 dz) nn Cb [0] [.ptr 900000 0,.agg .lit a1] [[.ptr 900000 C6,.sl .u8 ac (some 92000001)]]=bif(a1.kind==1)then(let r1:=F27 [[36],a1.text] ac;gd (okB [] kP r1) (some ([],[[.ptr 900000 C6,.sl .u8 (E1 (gC r1 0 1)) (some 92000001)]])))else(let j2:Int→Bool→Option B6:=fun z3 z4=>bif z4 then(let r5:=F27 [a1.text] ac;gd (okB [] kP r5) (some ([],[[.ptr 900000 C6,.sl .u8 (E1 (gC r5 0 1)) (some 92000001)]])))else(bif(z3==6)then(let r6:=F27 [[110,117,108,108]] ac;gd (okB [] kP r6) (some ([],[[.ptr 900000 C6,.sl .u8 (E1 (gC r6 0 1)) (some 92000001)]])))else(bif(z3==4)then(let r8:=F86 a1.block a1.text;gd (okR [.str] r8) (let r7:=F27 [(lS (gL r8 0))] ac;gd (okB [] kP r7) (some ([],[[.ptr 900000 C6,.sl .u8 (E1 (gC r7 0 1)) (some 92000001)]]))))else(bif(z3==8)then(let iU:=F27 [[91]] ac;gd (okB [] kP iU) (LP (E44 dz) nn Cb [1,1,0,1,1,1,1,1,1,1,1,1,0,1,0,1,0,0] 10016 nn (B50 a1 ac a1.items (Bb a1.items:Int) 0 (E1 (gC iU 0 1))) (A8 1 (sk (E44 dz) nn Cb [1,1,0,1,1,1,1,1,1,1,1,1,0,1,1] (A8 0 (Z3 (E44 dz) Tryz.f44.results.toList [0] [[.ptr 900000 C6,.sl .u8 ac (some 92000001)]]))))))else(bif(z3==9)then(let jk:=F27 [[123]] ac;gd (okB [] kP jk) (LP (E44 dz) nn Cb [1,1,0,1,1,1,1,1,1,1,1,1,1,1,0,1,0,1,0,0] 10025 nn (B5D a1 ac a1.fields (Bb a1.fields:Int) 0 (E1 (gC jk 0 1))) (A8 3 (sk (E44 dz) nn Cb [1,1,0,1,1,1,1,1,1,1,1,1,1,1,0,1,1] (A8 0 (Z3 (E44 dz) Tryz.f44.results.toList [0] [[.ptr 900000 C6,.sl .u8 ac (some 92000001)]]))))))else(some ([],[[.ptr 900000 C6,.sl .u8 ac (some 92000001)]]))))));bif(a1.kind==2)then(j2 a1.kind (a1.kind==2))else(bif(a1.kind==3)then(j2 a1.kind (a1.kind==3))else(bif(a1.kind==5)then(j2 a1.kind (a1.kind==5))else(j2 a1.kind (a1.kind==7))))):=by kernel_rfl
 rw[h];simp only[B9r,B7T];show _=_;kernel_rfl
def R44:Nat→LitT→(List Int)→Option B6
 |0,_,_=>none
 |d+1,a1,ac=>A3F (R44 d) a1 ac
def F44(a1:LitT)(ac:List Int):Option B6:=R44 DD a1 ac
def S44:S2T
 |[.ptr d0 o0,.agg .lit a1],[[.ptr p0 q0,.sl .u8 ac (some ef)]]=>bif bq d0 o0&&pq p0 q0&&(Be ef 92000001)then pB [] kP (F44 a1 ac)else none
 |_,_=>none
def E15:Env Ty6 A4:=mkE [] [(29,S29),(44,S44)] noD 13 [4,5] 0 [] [(4,105)]
def F15(a0:LitT):Option E6:=gd (okB [] kP (F44 a0 [])) (let z1:=(E1 (gC (F44 a0 []) 0 1));gd (okB [.str] kP (F29 z1)) (some (.one (.str (lS (gB (F29 z1) 0))))))
theorem C6I{a0:LitT}:A2 E15 NN Tryz.f15 [.agg .lit a0]=F15 a0:=by kernel_rfl
def S15:S1T
 |[.agg .lit a0]=>pR [.str] (F15 a0)
 |_=>none
def E32:Env Ty6 A4:=mkE [] [] noD 13 [] 1 [] []
def F32(a1:List UInt8)(af:List Int):Option B6:=gd (A3 (Bb af+Bb a1) 1) (some ([],[[.sl .u8 (af++Dd (fun(c:UInt8)=>(c.toNat:Int)) a1) (some 92000000)]]))
theorem A93{a1:List UInt8}{af:List Int}:I7 E32 NN Tryz.f32 [0] [.ptr 900000 0,.str a1] [[.sl .u8 af (some 92000000)]]=F32 a1 af:=by kernel_rfl
def S32:S2T
 |[.ptr d0 o0,.str a1],[[.sl .u8 af (some fa)]]=>bif bq d0 o0&&(Be fa 92000000)then pB [] kO (F32 a1 af)else none
 |_,_=>none
def E30:Env Ty6 A4:=mkE [] [(32,S32)] noD 11 [] 1 [] []
def F30(a1:Int)(a2:List UInt8)(af:List Int):Option B6:=let z1:=decide (a1>0);bif z1 then(let r2:=F32 a2 af;gd (okB [] kO r2) (some ([],[[.sl .u8 (E1 (gC r2 0 0)) (some 92000000)]])))else(some ([],[[.sl .u8 af (some 92000000)]]))
theorem B24{a1:Int}{a2:List UInt8}{af:List Int}:I7 E30 NN Tryz.f30 [0] [.ptr 900000 0,.int .i64 a1,.str a2] [[.sl .u8 af (some 92000000)]]=F30 a1 a2 af:=by kernel_rfl
def S30:S2T
 |[.ptr d0 o0,.int .i64 a1,.str a2],[[.sl .u8 af (some fa)]]=>bif bq d0 o0&&(Be fa 92000000)then pB [] kO (F30 a1 a2 af)else none
 |_,_=>none
def B9L:Env Ty6 A4:=mkE [(163,A8i),(164,A7s)] [(32,S32)] noD 28 [] 1 [] []
def A44(a1:Bool)(a2:List UInt8)(af:List Int):Option B6:=bif a1 then(gd (okR [.str,.bool] (A1E a2)) (let z1:=(lS (gL (A1E a2) 0));let z2:=(lB (gL (A1E a2) 1));bif z2 then(let r3:=F32 z1 af;gd (okB [] kO r3) (some ([],[[.sl .u8 (E1 (gC r3 0 0)) (some 92000000)]])))else(gd (okR [.str,.int .i64] (A1a a2)) (let z4:=(lS (gL (A1a a2) 0));let r5:=F32 z4 af;gd (okB [] kO r5) (some ([],[[.sl .u8 (E1 (gC r5 0 0)) (some 92000000)]]))))))else(gd (okR [.str,.int .i64] (A1a a2)) (let z6:=(lS (gL (A1a a2) 0));let r7:=F32 z6 af;gd (okB [] kO r7) (some ([],[[.sl .u8 (E1 (gC r7 0 0)) (some 92000000)]]))))
theorem C6k{a1:Bool}{a2:List UInt8}{af:List Int}:I7 B9L NN Tryz.f102 [0] [.ptr 900000 0,.bool a1,.str a2] [[.sl .u8 af (some 92000000)]]=A44 a1 a2 af:=by kernel_rfl
def B2l:S2T
 |[.ptr d0 o0,.bool a1,.str a2],[[.sl .u8 af (some fa)]]=>bif bq d0 o0&&(Be fa 92000000)then pB [] kO (A44 a1 a2 af)else none
 |_,_=>none
def E49:Env Ty6 A4:=mkE [] [(32,S32)] (lkD [(0,[1]),(2,[5,6,7,8]),(3,[10,11,16]),(4,[9,12,13,14,15]),(5,[16,17,18]),(6,[4,9,19,20,21,22]),(7,[3,23,24,25,26,1000103])]) 27 [] 1 [] []
def B5j(a1:I0)(af:List Int)(x4:Int)(aa:List Int):S6:=⟨[(0,.one (.ptr 900000 0)),(3,.one (.elem .tref a1 0)),(4,.one (.int .i64 x4)),(1900000,.bx 900000 [.sl .u8 aa (some 92000000)])],[900000,92000000]⟩
def C8B(a1:I0)(af:List Int)(x4:Int)(x9:Bool)(aa:List Int):S6:=⟨[(0,.one (.ptr 900000 0)),(3,.one (.elem .tref a1 0)),(4,.one (.int .i64 x4)),(9,.one (.bool x9)),(1900000,.bx 900000 [.sl .u8 aa (some 92000000)])],[900000,92000000]⟩
def A6Z{R:Type}(nn:Nat)(a1:I0)(af:List Int)(x4:Int)(aa:List Int)(k1:Int→(List Int)→Option R)(k2:Int→Bool→(List Int)→Option R):Option R:=let z1:=decide (x4<(Bb a1.wrap:Int));bif z1 then(match idx a1.wrap x4 with|none=>none|some y2=>(let z3:=(Cd y2:Int)==93;bif z3 then(let r4:=F32 [91] aa;gd (okB [] kO r4) (k1 (Ba .i64 (x4+1)) (E1 (gC r4 0 0))))else(k1 (Ba .i64 (x4+1)) aa)))else(k2 x4 z1 aa)
def A3D{R:Type}(nn:Nat)(a1:I0)(af:List Int):Nat→Int→(List Int)→(Int→Bool→(List Int)→Option R)→Option R
 |0,_,_,_=>none
 |n+1,x4,aa,k2=>A6Z nn a1 af x4 aa (fun x4 aa=>A3D nn a1 af n x4 aa k2) k2
theorem B5f{R:Type}(nn:Nat)(a1:I0)(af:List Int):∀(n:Nat)(x4:Int)(aa:List Int)(K:Ex→S6→Option R),LP E49 nn Cs [1,0,1,0,0] 10002 n (B5j a1 af x4 aa) K=A3D nn a1 af n x4 aa (fun x4 x9 aa=>K (.exit 0) (C8B a1 af x4 x9 aa))
 |0,_,_,_=>rfl
 |n+1,x4,aa,K=>by
  rw[A3D];simp only[←B5f nn a1 af n _ _ K];kernel_rfl
def A4m(nn:Nat)(a1:I0)(af:List Int):Option B6:=A3D nn a1 af nn 0 af (fun z1 z2 z3=>let r6:=F32 a1.name z3;gd (okB [] kO r6) (let z4:=(E1 (gC r6 0 0));let r5:=F32 a1.wrap z4;gd (okB [] kO r5) (some ([],[[.sl .u8 (E1 (gC r5 0 0)) (some 92000000)]]))))
def F49(a1:I0)(af:List Int):Option B6:=A4m NN a1 af
theorem B1P(nn:Nat){a1:I0}{af:List Int}:I7 E49 nn Cs [0] [.ptr 900000 0,.agg .tref a1] [[.sl .u8 af (some 92000000)]]=A4m nn a1 af:=by
 have h:I7 E49 nn Cs [0] [.ptr 900000 0,.agg .tref a1] [[.sl .u8 af (some 92000000)]]=LP E49 nn Cs [1,0,1,0,0] 10002 nn (B5j a1 af 0 af) (A8 0 (sk E49 nn Cs [1,1] (Z3 E49 Tryz.f49.results.toList [0] [[.sl .u8 af (some 92000000)]]))):=by kernel_rfl
 rw[h];simp only[B5f];show _=_;kernel_rfl
def S49:S2T
 |[.ptr d0 o0,.agg .tref a1],[[.sl .u8 af (some fa)]]=>bif bq d0 o0&&(Be fa 92000000)then pB [] kO (F49 a1 af)else none
 |_,_=>none
def E19:Env Ty6 A4:=mkE [] [(49,S49)] noD 14 [4,5] 0 [] [(4,105)]
def F19(a0:I0):Option E6:=gd (okB [] kO (F49 a0 [])) (some (.one (.str (Dd (fun(n:Int)=>Dr n.toNat) (E1 (gC (F49 a0 []) 0 0))))))
theorem C6c{a0:I0}:A2 E19 NN Tryz.f19 [.agg .tref a0]=F19 a0:=by kernel_rfl
def S19:S1T
 |[.agg .tref a0]=>pR [.str] (F19 a0)
 |_=>none
def E56:Env Ty6 A4:=mkE [] [] noD 23 [] 0 [] []
def F56(a0:List UInt8):Option E6:=let j1:Bool→Option E6:=fun z2=>some (.one (.bool false));let j3:Bool→Option E6:=fun z4=>bif z4 then(some (.one (.bool true)))else(j1 z4);let z5:=a0==[110,97,109,101];bif z5 then(j3 z5)else(let z6:=a0==[98,117,116,79,110];bif z6 then(j3 z6)else(let z7:=a0==[111,110];bif z7 then(j3 z7)else(let z8:=a0==[108,105,116];bif z8 then(j3 z8)else(let z9:=a0==[101,110,100];bif z9 then(j3 z9)else(let e9:=a0==[110,111,110,101];bif e9 then(j3 e9)else(bif(a0==[123])then(j3 (a0==[123]))else(bif(a0==[125])then(j3 (a0==[125]))else(bif(a0==[40])then(j3 (a0==[40]))else(bif(a0==[41])then(j3 (a0==[41]))else(bif(a0==[91])then(j3 (a0==[91]))else(bif(a0==[93])then(j3 (a0==[93]))else(bif(a0==[36])then(j3 (a0==[36]))else(bif(a0==[58])then(j3 (a0==[58]))else(bif(a0==[61])then(j3 (a0==[61]))else(bif(a0==[33])then(j3 (a0==[33]))else(bif(a0==[64])then(j3 (a0==[64]))else(let dy:=(a0==[46,46,46]);bif dy then(some (.one (.bool true)))else(some (.one (.bool false))))))))))))))))))))
theorem B1N{a0:List UInt8}:A2 E56 NN Tryz.f56 [.str a0]=F56 a0:=by kernel_rfl
def S56:S1T
 |[.str a0]=>pR [.bool] (F56 a0)
 |_=>none
def B6Q:Env Ty6 A4:=mkE [] [] noD 14 [] 0 [] []
def A1r(a0:A1)(a1:List UInt8):Option E6:=bif(a0.kind==3)==true then(some (.one (.bool (a0.text==a1))))else(some (.one (.bool false)))
theorem C40{a0:A1}{a1:List UInt8}:A2 B6Q NN Tryz.f129 [.agg .tok a0,.str a1]=A1r a0 a1:=by kernel_rfl
def A62:S1T
 |[.agg .tok a0,.str a1]=>pR [.bool] (A1r a0 a1)
 |_=>none
def B5G:Env Ty6 A4:=mkE [] [] noD 14 [] 0 [] []
def A0u(a0:A1)(a1:List UInt8):Option E6:=bif(a0.kind==2)==true then(some (.one (.bool (a0.text==a1))))else(some (.one (.bool false)))
theorem C7y{a0:A1}{a1:List UInt8}:A2 B5G NN Tryz.f131 [.agg .tok a0,.str a1]=A0u a0 a1:=by kernel_rfl
def A4p:S1T
 |[.agg .tok a0,.str a1]=>pR [.bool] (A0u a0 a1)
 |_=>none
def B8c:Env Ty6 A4:=mkE [(131,A4p)] [] noD 14 [] 0 [] []
def U2(a0:A1)(a1:List UInt8)(a2 a3:List (List UInt8)):Option E6:=gd (okR [.bool] (A0u a0 a1)) (let z1:=(lB (gL (A0u a0 a1) 0));bif z1 then(some (.one (.sl .str a2 none)))else(some (.one (.sl .str a3 none))))
theorem C4H{a0:A1}{a1:List UInt8}{a2 a3:List (List UInt8)}:A2 B8c NN Tryz.f183 [.agg .tok a0,.str a1,.sl .str a2 none,.sl .str a3 none]=U2 a0 a1 a2 a3:=by kernel_rfl
def A6Q:S1T
 |[.agg .tok a0,.str a1,.sl .str a2 none,.sl .str a3 none]=>pR [.sl .str none] (U2 a0 a1 a2 a3)
 |_=>none
def B7t:Env Ty6 A4:=mkE [(129,A62),(131,A4p),(183,A6Q)] [] noD 74 [] 0 [] []
def A6W(a0:List UInt8)(a1:A1):Option E6:=bif(a0==[68,111,99,117,109,101,110,116])then(some (.tup [.sl .str [[68,101,102],[68,101,102,115],[101,110,100]] (some 1),.bool true]))else(bif(a0==[68,101,102,115])then(bif(a1.kind==0)then(some (.tup [.sl .str [] (some 1),.bool true]))else(some (.tup [.sl .str [[68,101,102],[68,101,102,115]] (some 1),.bool true])))else(bif(a0==[68,101,102])then(let j1:Bool→Option E6:=fun z2=>some (.tup [.sl .str [[110,111,110,101]] (some 1),.bool true]);let mU:=A0u a1 [123];gd (okR [.bool] mU) (bif(lB (gL mU 0))then(some (.tup [.sl .str [[83,101,116]] (some 1),.bool true]))else(let jj:=A1r a1 [113,117,101,114,121];gd (okR [.bool] jj) (bif(lB (gL jj 0))==false then(let r8:=A1r a1 [109,117,116,97,116,105,111,110];gd (okR [.bool] r8) (bif(lB (gL r8 0))==false then(let r5:=A1r a1 [115,117,98,115,99,114,105,112,116,105,111,110];gd (okR [.bool] r5) (bif(lB (gL r5 0))then(some (.tup [.sl .str [[110,97,109,101],[79,112,116,78,97,109,101],[79,112,116,86,97,114,115],[68,105,114,115],[83,101,116]] (some 1),.bool true]))else(let r4:=A1r a1 [102,114,97,103,109,101,110,116];gd (okR [.bool] r4) (let z3:=(lB (gL r4 0));bif z3 then(some (.tup [.sl .str [[110,97,109,101],[98,117,116,79,110],[111,110],[110,97,109,101],[68,105,114,115],[83,101,116]] (some 1),.bool true]))else(j1 z3)))))else(bif true then(some (.tup [.sl .str [[110,97,109,101],[79,112,116,78,97,109,101],[79,112,116,86,97,114,115],[68,105,114,115],[83,101,116]] (some 1),.bool true]))else(let r7:=A1r a1 [102,114,97,103,109,101,110,116];gd (okR [.bool] r7) (let z6:=(lB (gL r7 0));bif z6 then(some (.tup [.sl .str [[110,97,109,101],[98,117,116,79,110],[111,110],[110,97,109,101],[68,105,114,115],[83,101,116]] (some 1),.bool true]))else(j1 z6))))))else(bif true then(some (.tup [.sl .str [[110,97,109,101],[79,112,116,78,97,109,101],[79,112,116,86,97,114,115],[68,105,114,115],[83,101,116]] (some 1),.bool true]))else(let ea:=A1r a1 [102,114,97,103,109,101,110,116];gd (okR [.bool] ea) (let z9:=(lB (gL ea 0));bif z9 then(some (.tup [.sl .str [[110,97,109,101],[98,117,116,79,110],[111,110],[110,97,109,101],[68,105,114,115],[83,101,116]] (some 1),.bool true]))else(j1 z9))))))))else(bif(a0==[79,112,116,78,97,109,101])then(bif(a1.kind==3)then(some (.tup [.sl .str [[110,97,109,101]] (some 1),.bool true]))else(some (.tup [.sl .str [] (some 1),.bool true])))else(bif(a0==[79,112,116,86,97,114,115])then(let jl:=U2 a1 [40] [[40],[86,97,114],[86,97,114,115],[41]] [];gd (okR [.sl .str none] jl) (some (.tup [.sl .str (K5 (gL jl 0)) none,.bool true])))else(bif(a0==[86,97,114,115])then(let eg:=U2 a1 [36] [[86,97,114],[86,97,114,115]] [];gd (okR [.sl .str none] eg) (some (.tup [.sl .str (K5 (gL eg 0)) none,.bool true])))else(bif(a0==[86,97,114])then(some (.tup [.sl .str [[36],[110,97,109,101],[58],[84,121,112,101],[79,112,116,68,101,102,97,117,108,116],[67,68,105,114,115]] (some 1),.bool true]))else(bif(a0==[79,112,116,68,101,102,97,117,108,116])then(let iU:=U2 a1 [61] [[61],[67,86,97,108,117,101]] [];gd (okR [.sl .str none] iU) (some (.tup [.sl .str (K5 (gL iU 0)) none,.bool true])))else(bif(a0==[84,121,112,101])then(let kD:=U2 a1 [91] [[91],[84,121,112,101],[93],[66,97,110,103]] [[110,97,109,101],[66,97,110,103]];gd (okR [.sl .str none] kD) (some (.tup [.sl .str (K5 (gL kD 0)) none,.bool true])))else(let iz:=a0==[66,97,110,103];bif iz then(let jD:=U2 a1 [33] [[33]] [];gd (okR [.sl .str none] jD) (some (.tup [.sl .str (K5 (gL jD 0)) none,.bool true])))else(some (.tup [.sl .str [] (some 1),.bool false])))))))))))
theorem C9m{a0:List UInt8}{a1:A1}:A2 B7t NN Tryz.f126 [.str a0,.agg .tok a1]=A6W a0 a1:=by kernel_rfl
def B2t:S1T
 |[.str a0,.agg .tok a1]=>pR [.slc .str,.bool] (A6W a0 a1)
 |_=>none
def B7J:Env Ty6 A4:=mkE [(129,A62),(183,A6Q)] [] noD 43 [] 0 [] []
def A6E(a0:List UInt8)(a1:A1):Option E6:=bif(a0==[83,101,116])then(some (.tup [.sl .str [[123],[83,101,108],[83,101,108,115],[125]] (some 1),.bool true]))else(bif(a0==[83,101,108,115])then(let r1:=U2 a1 [125] [] [[83,101,108],[83,101,108,115]];gd (okR [.sl .str none] r1) (some (.tup [.sl .str (K5 (gL r1 0)) none,.bool true])))else(bif(a0==[83,101,108])then(let r2:=U2 a1 [46,46,46] [[46,46,46],[82,101,115,116]] [[110,97,109,101],[65,108,105,97,115],[65,114,103,115],[68,105,114,115],[79,112,116,83,101,116]];gd (okR [.sl .str none] r2) (some (.tup [.sl .str (K5 (gL r2 0)) none,.bool true])))else(bif(a0==[65,108,105,97,115])then(let r3:=U2 a1 [58] [[58],[110,97,109,101]] [];gd (okR [.sl .str none] r3) (some (.tup [.sl .str (K5 (gL r3 0)) none,.bool true])))else(bif(a0==[79,112,116,83,101,116])then(let r4:=U2 a1 [123] [[83,101,116]] [];gd (okR [.sl .str none] r4) (some (.tup [.sl .str (K5 (gL r4 0)) none,.bool true])))else(let z5:=a0==[82,101,115,116];bif z5 then(let r6:=A1r a1 [111,110];gd (okR [.bool] r6) (bif(lB (gL r6 0))then(some (.tup [.sl .str [[111,110],[110,97,109,101],[68,105,114,115],[83,101,116]] (some 1),.bool true]))else(bif(a1.kind==3)then(some (.tup [.sl .str [[98,117,116,79,110],[68,105,114,115]] (some 1),.bool true]))else(some (.tup [.sl .str [[68,105,114,115],[83,101,116]] (some 1),.bool true])))))else(some (.tup [.sl .str [] (some 1),.bool false])))))))
theorem C4n{a0:List UInt8}{a1:A1}:A2 B7J NN Tryz.f127 [.str a0,.agg .tok a1]=A6E a0 a1:=by kernel_rfl
def B1I:S1T
 |[.str a0,.agg .tok a1]=>pR [.slc .str,.bool] (A6E a0 a1)
 |_=>none
def A7O(g:LitT→(List Int)→Option B6):S2T
 |[.ptr d0 o0,.agg .lit a1],[[.sl .u8 af (some fa)]]=>bif bq d0 o0&&(Be fa 92000000)then pB [] kO (g a1 af)else none
 |_,_=>none
def E45(dv:LitT→(List Int)→Option B6):Env Ty6 A4:=mkE [] [(30,S30),(32,S32),(45,A7O dv),(102,B2l)] (lkD [(0,[1]),(1,[6]),(2,[3,8,9,10,11,55,1000103]),(3,[13]),(4,[7,12,14,15]),(5,[3,16,17,18,19,1000103]),(6,[12,21]),(7,[3,7,20,22,23,1000103]),(8,[20,25]),(9,[3,7,24,26,27,28,29,30,31,1000103]),(10,[24,33]),(11,[7,32,34,35]),(13,[36,37,38,39]),(14,[41,42]),(15,[40,43,44,45]),(16,[46,47,48,49,50,51,52]),(17,[3,4,40,53,54,1000103]),(18,[7,32,56]),(19,[55,57,58]),(21,[59,60,61,62]),(22,[64,65]),(23,[63,66,67,68]),(24,[69,70,71,72,73,74,75,76]),(25,[77,78]),(26,[79,80,81,82,83,84,85,86]),(27,[3,5,63,87,88,1000103])]) 89 [] 1 [] []
def B7b(a1:LitT)(af:List Int)(x4:Int)(aa:List Int):S6:=⟨[(0,.one (.ptr 900000 0)),(3,.one (.elem .lit a1 0)),(4,.one (.int .i64 x4)),(1900000,.bx 900000 [.sl .u8 aa (some 92000000)])],[900000,92000000]⟩
def C8l(a1:LitT)(af:List Int)(x4:Int)(qP:Bool)(aa:List Int):S6:=⟨[(0,.one (.ptr 900000 0)),(3,.one (.elem .lit a1 0)),(4,.one (.int .i64 x4)),(40,.one (.bool qP)),(1900000,.bx 900000 [.sl .u8 aa (some 92000000)])],[900000,92000000]⟩
def B9U(a1:LitT)(af:List Int)(x5:Int)(aa:List Int):S6:=⟨[(0,.one (.ptr 900000 0)),(3,.one (.elem .lit a1 0)),(5,.one (.int .i64 x5)),(1900000,.bx 900000 [.sl .u8 aa (some 92000000)])],[900000,92000000]⟩
def D1q(a1:LitT)(af:List Int)(x5:Int)(uc:Bool)(aa:List Int):S6:=⟨[(0,.one (.ptr 900000 0)),(3,.one (.elem .lit a1 0)),(5,.one (.int .i64 x5)),(63,.one (.bool uc)),(1900000,.bx 900000 [.sl .u8 aa (some 92000000)])],[900000,92000000]⟩
def A5A{R:Type}(nn:Nat)(dv:LitT→(List Int)→Option B6)(a1:LitT)(af:List Int)(x4:Int)(aa:List Int)(k1:Int→(List Int)→Option R)(k2:Int→Bool→(List Int)→Option R):Option R:=let z1:=decide (x4<(Bb a1.items:Int));bif z1 then(let r4:=F30 x4 [44,32] aa;gd (okB [] kO r4) (let z2:=(E1 (gC r4 0 0));match idx a1.items x4 with|none=>none|some y3=>(gd (okB [] kO (dv y3 z2)) (k1 (Ba .i64 (x4+1)) (E1 (gC (dv y3 z2) 0 0))))))else(k2 x4 z1 aa)
def A33{R:Type}(nn:Nat)(dv:LitT→(List Int)→Option B6)(a1:LitT)(af:List Int):Nat→Int→(List Int)→(Int→Bool→(List Int)→Option R)→Option R
 |0,_,_,_=>none
 |n+1,x4,aa,k2=>A5A nn dv a1 af x4 aa (fun x4 aa=>A33 nn dv a1 af n x4 aa k2) k2
theorem B9R{R:Type}(nn:Nat)(dv:LitT→(List Int)→Option B6)(a1:LitT)(af:List Int):∀(n:Nat)(x4:Int)(aa:List Int)(K:Ex→S6→Option R),LP (E45 dv) nn Ca [1,1,0,1,1,1,1,1,1,1,0,1,0,1,0,0] 10013 n (B7b a1 af x4 aa) K=A33 nn dv a1 af n x4 aa (fun x4 qP aa=>K (.exit 1) (C8l a1 af x4 qP aa))
 |0,_,_,_=>rfl
 |n+1,x4,aa,K=>by
  rw[A33];simp only[←B9R nn dv a1 af n _ _ K];kernel_rfl
def A4r{R:Type}(nn:Nat)(dv:LitT→(List Int)→Option B6)(a1:LitT)(af:List Int)(x5:Int)(aa:List Int)(k1:Int→(List Int)→Option R)(k2:Int→Bool→(List Int)→Option R):Option R:=let z1:=decide (x5<(Bb a1.fields:Int));bif z1 then(let ea:=F30 x5 [44,32] aa;gd (okB [] kO ea) (let z2:=(E1 (gC ea 0 0));match idx a1.fields x5 with|none=>none|some y3=>(let r9:=F32 y3.name z2;gd (okB [] kO r9) (let z4:=(E1 (gC r9 0 0));let r8:=F32 [58,32] z4;gd (okB [] kO r8) (let z5:=(E1 (gC r8 0 0));match idx a1.fields x5 with|none=>none|some y6=>(let r7:=dv (LitT.mk y6.value.kind y6.value.text y6.value.block y6.value.items y6.value.fields y6.value.pos) z5;gd (okB [] kO r7) (k1 (Ba .i64 (x5+1)) (E1 (gC r7 0 0)))))))))else(k2 x5 z1 aa)
def A3h{R:Type}(nn:Nat)(dv:LitT→(List Int)→Option B6)(a1:LitT)(af:List Int):Nat→Int→(List Int)→(Int→Bool→(List Int)→Option R)→Option R
 |0,_,_,_=>none
 |n+1,x5,aa,k2=>A4r nn dv a1 af x5 aa (fun x5 aa=>A3h nn dv a1 af n x5 aa k2) k2
theorem B8H{R:Type}(nn:Nat)(dv:LitT→(List Int)→Option B6)(a1:LitT)(af:List Int):∀(n:Nat)(x5:Int)(aa:List Int)(K:Ex→S6→Option R),LP (E45 dv) nn Ca [1,1,0,1,1,1,1,1,1,1,1,1,0,1,0,1,0,0] 10021 n (B9U a1 af x5 aa) K=A3h nn dv a1 af n x5 aa (fun x5 uc aa=>K (.exit 3) (D1q a1 af x5 uc aa))
 |0,_,_,_=>rfl
 |n+1,x5,aa,K=>by
  rw[A3h];simp only[←B8H nn dv a1 af n _ _ K];kernel_rfl
def A3T(nn:Nat)(dv:LitT→(List Int)→Option B6)(a1:LitT)(af:List Int):Option B6:=bif(a1.kind==1)then(let r3:=F32 [36] af;gd (okB [] kO r3) (let z1:=(E1 (gC r3 0 0));let r2:=F32 a1.text z1;gd (okB [] kO r2) (some ([],[[.sl .u8 (E1 (gC r2 0 0)) (some 92000000)]]))))else(bif(a1.kind==6)then(let r4:=F32 [110,117,108,108] af;gd (okB [] kO r4) (some ([],[[.sl .u8 (E1 (gC r4 0 0)) (some 92000000)]])))else(bif(a1.kind==4)then(let r5:=A44 a1.block a1.text af;gd (okB [] kO r5) (some ([],[[.sl .u8 (E1 (gC r5 0 0)) (some 92000000)]])))else(bif(a1.kind==8)then(let ea:=F32 [91] af;gd (okB [] kO ea) (A33 nn dv a1 af nn 0 (E1 (gC ea 0 0)) (fun z6 z7 z8=>let r9:=F32 [93] z8;gd (okB [] kO r9) (some ([],[[.sl .u8 (E1 (gC r9 0 0)) (some 92000000)]])))))else(bif(a1.kind==9)then(let iU:=F32 [123] af;gd (okB [] kO iU) (A3h nn dv a1 af nn 0 (E1 (gC iU 0 0)) (fun dy dM fJ=>let eg:=F32 [125] fJ;gd (okB [] kO eg) (some ([],[[.sl .u8 (E1 (gC eg 0 0)) (some 92000000)]])))))else(let kD:=F32 a1.text af;gd (okB [] kO kD) (some ([],[[.sl .u8 (E1 (gC kD 0 0)) (some 92000000)]])))))))
def A3l(dv:LitT→(List Int)→Option B6)(a1:LitT)(af:List Int):Option B6:=A3T NN dv a1 af
theorem B2g(nn:Nat)(dv:LitT→(List Int)→Option B6){a1:LitT}{af:List Int}:I7 (E45 dv) nn Ca [0] [.ptr 900000 0,.agg .lit a1] [[.sl .u8 af (some 92000000)]]=A3T nn dv a1 af:=by
 have h:I7 (E45 dv) nn Ca [0] [.ptr 900000 0,.agg .lit a1] [[.sl .u8 af (some 92000000)]]=bif(a1.kind==1)then(let r3:=F32 [36] af;gd (okB [] kO r3) (let z1:=(E1 (gC r3 0 0));let r2:=F32 a1.text z1;gd (okB [] kO r2) (some ([],[[.sl .u8 (E1 (gC r2 0 0)) (some 92000000)]]))))else(bif(a1.kind==6)then(let r4:=F32 [110,117,108,108] af;gd (okB [] kO r4) (some ([],[[.sl .u8 (E1 (gC r4 0 0)) (some 92000000)]])))else(bif(a1.kind==4)then(let r5:=A44 a1.block a1.text af;gd (okB [] kO r5) (some ([],[[.sl .u8 (E1 (gC r5 0 0)) (some 92000000)]])))else(bif(a1.kind==8)then(let ea:=F32 [91] af;gd (okB [] kO ea) (LP (E45 dv) nn Ca [1,1,0,1,1,1,1,1,1,1,0,1,0,1,0,0] 10013 nn (B7b a1 af 0 (E1 (gC ea 0 0))) (A8 1 (sk (E45 dv) nn Ca [1,1,0,1,1,1,1,1,1,1,0,1,1] (A8 0 (Z3 (E45 dv) Tryz.f45.results.toList [0] [[.sl .u8 af (some 92000000)]]))))))else(bif(a1.kind==9)then(let iU:=F32 [123] af;gd (okB [] kO iU) (LP (E45 dv) nn Ca [1,1,0,1,1,1,1,1,1,1,1,1,0,1,0,1,0,0] 10021 nn (B9U a1 af 0 (E1 (gC iU 0 0))) (A8 3 (sk (E45 dv) nn Ca [1,1,0,1,1,1,1,1,1,1,1,1,0,1,1] (A8 0 (Z3 (E45 dv) Tryz.f45.results.toList [0] [[.sl .u8 af (some 92000000)]]))))))else(let kD:=F32 a1.text af;gd (okB [] kO kD) (some ([],[[.sl .u8 (E1 (gC kD 0 0)) (some 92000000)]]))))))):=by kernel_rfl
 rw[h];simp only[B9R,B8H];show _=_;kernel_rfl
def R45:Nat→LitT→(List Int)→Option B6
 |0,_,_=>none
 |d+1,a1,af=>A3l (R45 d) a1 af
def F45(a1:LitT)(af:List Int):Option B6:=R45 DD a1 af
def S45:S2T
 |[.ptr d0 o0,.agg .lit a1],[[.sl .u8 af (some fa)]]=>bif bq d0 o0&&(Be fa 92000000)then pB [] kO (F45 a1 af)else none
 |_,_=>none
def E16:Env Ty6 A4:=mkE [] [(45,S45)] noD 14 [4,5] 0 [] [(4,105)]
def F16(a0:LitT):Option E6:=gd (okB [] kO (F45 a0 [])) (some (.one (.str (Dd (fun(n:Int)=>Dr n.toNat) (E1 (gC (F45 a0 []) 0 0))))))
theorem B2C{a0:LitT}:A2 E16 NN Tryz.f16 [.agg .lit a0]=F16 a0:=by kernel_rfl
def S16:S1T
 |[.agg .lit a0]=>pR [.str] (F16 a0)
 |_=>none
def E46:Env Ty6 A4:=mkE [] [(94,S94),(96,S96),(97,S97),(103,B2F),(104,A8A)] (lkD [(0,[3,1000106,1000108]),(1,[1000106,1000108]),(2,[10,1000106,1000108]),(3,[11,12,13,1000106,1000108]),(4,[5,14,1000106,1000108]),(5,[4,15,16,1000106,1000108]),(6,[15,17,18,1000106,1000108]),(7,[11,19,20,21,22,23,1000108]),(8,[7,24,1000108]),(9,[4,6,25,26,1000106,1000108]),(10,[6,25,27,28,29,1000106]),(11,[30,31,1000106]),(12,[9,1000106]),(13,[32,33,34,35,36,1000106]),(14,[32,37,1000106]),(15,[4,8,38,39,1000106,1000108]),(16,[38,40,41,1000106]),(17,[7,42,1000106]),(18,[4,8,43,44,1000106,1000108]),(19,[43,45,46,1000106]),(20,[47,48,49,50,1000106]),(10002,[1000106,1000108]),(10011,[1000106])]) 51 [2,8] 1 [] []
def B5W(af:List A1)(ac ao ap anq:Int)(x4:Int)(aa:List A1)(ab ah ai aj:Int):S6:=⟨[(0,.one (.ptr 900000 0)),(2,.one (.ptr 102 0)),(4,.one (.int .i64 x4)),(1000102,.bx 102 [.str [],.str []]),(1900000,.bx 900000 [.sl .tok aa none,.int .i64 ab,.int .i64 ah,.int .i64 ai,.int .i64 aj])],[102,900000]⟩
def B5s(af:List A1)(ac ao ap anq:Int)(x4:Int)(dB:Bool)(aa:List A1)(ab ah ai aj:Int):S6:=⟨[(0,.one (.ptr 900000 0)),(2,.one (.ptr 102 0)),(4,.one (.int .i64 x4)),(11,.one (.bool dB)),(1000102,.bx 102 [.str [],.str []]),(1900000,.bx 900000 [.sl .tok aa none,.int .i64 ab,.int .i64 ah,.int .i64 ai,.int .i64 aj])],[102,900000]⟩
def C7k(af:List A1)(ac ao ap anq:Int)(aa:List A1)(ab ah ai aj:Int):S6:=⟨[(0,.one (.ptr 900000 0)),(2,.one (.ptr 102 0)),(3,.one (.bool false)),(1000102,.bx 102 [.str [],.str []]),(1900000,.bx 900000 [.sl .tok aa none,.int .i64 ab,.int .i64 ah,.int .i64 ai,.int .i64 aj])],[102,900000]⟩
def C3E(af:List A1)(ac ao ap anq:Int)(x3:Bool)(dI dJ:List UInt8)(aa:List A1)(ab ah ai aj:Int):S6:=⟨[(0,.one (.ptr 900000 0)),(2,.one (.ptr 102 0)),(3,.one (.bool x3)),(1000102,.bx 102 [.str dI,.str dJ]),(1900000,.bx 900000 [.sl .tok aa none,.int .i64 ab,.int .i64 ah,.int .i64 ai,.int .i64 aj])],[102,900000]⟩
def B6n(af:List A1)(ac ao ap anq:Int)(x4:Int)(aH aD:List UInt8)(aa:List A1)(ab ah ai aj:Int):S6:=⟨[(0,.one (.ptr 900000 0)),(2,.one (.ptr 102 0)),(4,.one (.int .i64 x4)),(8,.one (.ptr 108 0)),(1000102,.bx 102 [.str [],.str []]),(1000108,.bx 108 [.str aH,.str aD]),(1900000,.bx 900000 [.sl .tok aa none,.int .i64 ab,.int .i64 ah,.int .i64 ai,.int .i64 aj])],[102,108,900000]⟩
def A8E{R:Type}(nn:Nat)(af:List A1)(ac ao ap anq:Int)(x4:Int)(aa:List A1)(ab ah ai aj:Int)(k1:(List A1)→Int→Int→Int→Int→Option R)(k2:Int→(List A1)→Int→Int→Int→Int→Option R)(k3:Int→Bool→(List A1)→Int→Int→Int→Int→Option R):Option R:=let eg:=F94 [91] aa ab ah ai aj;gd (okB [.bool] kC eg) (let z1:=(lB (gB eg 0));let z2:=(G6 (gC eg 0 0));let z3:=(lI (gC eg 0 1));let z4:=(lI (gC eg 0 2));let z5:=(lI (gC eg 0 3));let z6:=(lI (gC eg 0 4));bif z1 then(let jl:=A4O [91] z2 z3 z4 z5 z6;gd (okB [.bool] kC jl) (let z7:=(lB (gB jl 0));let z8:=(G6 (gC jl 0 0));let z9:=(lI (gC jl 0 1));let e9:=(lI (gC jl 0 2));let dy:=(lI (gC jl 0 3));let dM:=(lI (gC jl 0 4));bif(!z7)then(k1 z8 z9 e9 dy dM)else(k2 (Ba .i64 (x4+1)) z8 z9 e9 dy dM)))else(k3 x4 z1 z2 z3 z4 z5 z6))
def A4Z{R:Type}(nn:Nat)(af:List A1)(ac ao ap anq:Int):Nat→Int→(List A1)→Int→Int→Int→Int→((List A1)→Int→Int→Int→Int→Option R)→(Int→Bool→(List A1)→Int→Int→Int→Int→Option R)→Option R
 |0,_,_,_,_,_,_,_,_=>none
 |n+1,x4,aa,ab,ah,ai,aj,k1,k3=>A8E nn af ac ao ap anq x4 aa ab ah ai aj k1 (fun x4 aa ab ah ai aj=>A4Z nn af ac ao ap anq n x4 aa ab ah ai aj k1 k3) k3
theorem B4A{R:Type}(nn:Nat)(af:List A1)(ac ao ap anq:Int):∀(n:Nat)(x4:Int)(aa:List A1)(ab ah ai aj:Int)(K:Ex→S6→Option R),LP E46 nn Bz [1,1,0,0,0] 10002 n (B5W af ac ao ap anq x4 aa ab ah ai aj) K=A4Z nn af ac ao ap anq n x4 aa ab ah ai aj (fun aa ab ah ai aj=>K .ret (C7k af ac ao ap anq aa ab ah ai aj)) (fun x4 dB aa ab ah ai aj=>K (.exit 0) (B5s af ac ao ap anq x4 dB aa ab ah ai aj))
 |0,_,_,_,_,_,_,_=>rfl
 |n+1,x4,aa,ab,ah,ai,aj,K=>by
  rw[A4Z];simp only[←B4A nn af ac ao ap anq n _ _ _ _ _ _ K];kernel_rfl
def A8T{R:Type}(nn:Nat)(af:List A1)(ac ao ap anq:Int)(x4:Int)(aH aD:List UInt8)(aa:List A1)(ab ah ai aj:Int)(k1:Bool→(List UInt8)→(List UInt8)→(List A1)→Int→Int→Int→Int→Option R)(k2:Int→(List UInt8)→(List UInt8)→(List A1)→Int→Int→Int→Int→Option R):Option R:=let jk:=A4F [33] aa ab ah ai aj;gd (okB [.bool] kC jk) (let z1:=(lB (gB jk 0));let z2:=(G6 (gC jk 0 0));let z3:=(lI (gC jk 0 1));let z4:=(lI (gC jk 0 2));let z5:=(lI (gC jk 0 3));let z6:=(lI (gC jk 0 4));bif z1 then(gd (decide (Bb aD+Bb [33]≤9223372036854775807)) (let z7:=(aD++[33]);bif(x4==0)then(k1 true aH z7 z2 z3 z4 z5 z6)else(let eg:=F96 [93] z2 z3 z4 z5 z6;gd (okB [.bool] kC eg) (let z8:=(lB (gB eg 0));let z9:=(G6 (gC eg 0 0));let e9:=(lI (gC eg 0 1));let dy:=(lI (gC eg 0 2));let dM:=(lI (gC eg 0 3));let fJ:=(lI (gC eg 0 4));bif(!z8)then(k1 false [] [] z9 e9 dy dM fJ)else(gd (decide (Bb z7+Bb [93]≤9223372036854775807)) (k2 (Ba .i64 (x4 - 1)) aH (z7++[93]) z9 e9 dy dM fJ))))))else(bif(x4==0)then(k1 true aH aD z2 z3 z4 z5 z6)else(let lw:=F96 [93] z2 z3 z4 z5 z6;gd (okB [.bool] kC lw) (let eo:=(lB (gB lw 0));let gX:=(G6 (gC lw 0 0));let iz:=(lI (gC lw 0 1));let iy:=(lI (gC lw 0 2));let gF:=(lI (gC lw 0 3));let z20:=(lI (gC lw 0 4));bif(!eo)then(k1 false [] [] gX iz iy gF z20)else(gd (decide (Bb aD+Bb [93]≤9223372036854775807)) (k2 (Ba .i64 (x4 - 1)) aH (aD++[93]) gX iz iy gF z20))))))
def A24{R:Type}(nn:Nat)(af:List A1)(ac ao ap anq:Int):Nat→Int→(List UInt8)→(List UInt8)→(List A1)→Int→Int→Int→Int→(Bool→(List UInt8)→(List UInt8)→(List A1)→Int→Int→Int→Int→Option R)→Option R
 |0,_,_,_,_,_,_,_,_,_=>none
 |n+1,x4,aH,aD,aa,ab,ah,ai,aj,k1=>A8T nn af ac ao ap anq x4 aH aD aa ab ah ai aj k1 (fun x4 aH aD aa ab ah ai aj=>A24 nn af ac ao ap anq n x4 aH aD aa ab ah ai aj k1)
theorem B9P{R:Type}(nn:Nat)(af:List A1)(ac ao ap anq:Int):∀(n:Nat)(x4:Int)(aH aD:List UInt8)(aa:List A1)(ab ah ai aj:Int)(K:Ex→S6→Option R),LP E46 nn Bz [1,1,1,1,1,1,0,0] 10011 n (B6n af ac ao ap anq x4 aH aD aa ab ah ai aj) K=A24 nn af ac ao ap anq n x4 aH aD aa ab ah ai aj (fun x3 dI dJ aa ab ah ai aj=>K .ret (C3E af ac ao ap anq x3 dI dJ aa ab ah ai aj))
 |0,_,_,_,_,_,_,_,_,_=>rfl
 |n+1,x4,aH,aD,aa,ab,ah,ai,aj,K=>by
  rw[A24];simp only[←B9P nn af ac ao ap anq n _ _ _ _ _ _ _ _ K];kernel_rfl
def A6L(nn:Nat)(af:List A1)(ac ao ap anq:Int):Option B6:=A4Z nn af ac ao ap anq nn 0 af ac ao ap anq (fun z1 z2 z3 z4 z5=>some ([.agg .tref (⟨[],[]⟩:I0),.bool false],[[.sl .tok z1 none,.int .i64 z2,.int .i64 z3,.int .i64 z4,.int .i64 z5]])) (fun z6 z7 z8 z9 e9 dy dM=>let gM:=F97 [] z8 z9 e9 dy dM;gd (okB [.agg .named,.bool] kC gM) (let fJ:=(lB (gB gM 1));let fB:=(G6 (gC gM 0 0));let eo:=(lI (gC gM 0 1));let gX:=(lI (gC gM 0 2));let iz:=(lI (gC gM 0 3));let iy:=(lI (gC gM 0 4));bif(!fJ)then(some ([.agg .tref (⟨[],[]⟩:I0),.bool false],[[.sl .tok fB none,.int .i64 eo,.int .i64 gX,.int .i64 iz,.int .i64 iy]]))else(A24 nn af ac ao ap anq nn z6 ((M9 (gB gM 0)).name) [] fB eo gX iz iy (fun gF z20 z21 mT tY iA tZ yH=>some ([.agg .tref (⟨z20,z21⟩:I0),.bool gF],[[.sl .tok mT none,.int .i64 tY,.int .i64 iA,.int .i64 tZ,.int .i64 yH]])))))
def F46(af:List A1)(ac ao ap anq:Int):Option B6:=A6L NN af ac ao ap anq
theorem B22(nn:Nat){af:List A1}{ac ao ap anq:Int}:I7 E46 nn Bz [0] [.ptr 900000 0] [[.sl .tok af none,.int .i64 ac,.int .i64 ao,.int .i64 ap,.int .i64 anq]]=A6L nn af ac ao ap anq:=by
 have h:I7 E46 nn Bz [0] [.ptr 900000 0] [[.sl .tok af none,.int .i64 ac,.int .i64 ao,.int .i64 ap,.int .i64 anq]]=LP E46 nn Bz [1,1,0,0,0] 10002 nn (B5W af ac ao ap anq 0 af ac ao ap anq) (A8 0 (sk E46 nn Bz [1,1,1] (Z3 E46 Tryz.f46.results.toList [0] [[.sl .tok af none,.int .i64 ac,.int .i64 ao,.int .i64 ap,.int .i64 anq]]))):=by kernel_rfl
 have h0:∀(z6:Int)(z7:Bool)(z8:List A1)(z9:Int)(e9:Int)(dy:Int)(dM:Int),(A8 0 (sk E46 nn Bz [1,1,1] (Z3 E46 Tryz.f46.results.toList [0] [[.sl .tok af none,.int .i64 ac,.int .i64 ao,.int .i64 ap,.int .i64 anq]]))) (.exit 0) (B5s af ac ao ap anq z6 z7 z8 z9 e9 dy dM)=let gM:=F97 [] z8 z9 e9 dy dM;gd (okB [.agg .named,.bool] kC gM) (let fJ:=(lB (gB gM 1));let fB:=(G6 (gC gM 0 0));let eo:=(lI (gC gM 0 1));let gX:=(lI (gC gM 0 2));let iz:=(lI (gC gM 0 3));let iy:=(lI (gC gM 0 4));bif(!fJ)then(some ([.agg .tref (⟨[],[]⟩:I0),.bool false],[[.sl .tok fB none,.int .i64 eo,.int .i64 gX,.int .i64 iz,.int .i64 iy]]))else(LP E46 nn Bz [1,1,1,1,1,1,0,0] 10011 nn (B6n af ac ao ap anq z6 ((M9 (gB gM 0)).name) [] fB eo gX iz iy) (A8 2 (Z3 E46 Tryz.f46.results.toList [0] [[.sl .tok af none,.int .i64 ac,.int .i64 ao,.int .i64 ap,.int .i64 anq]])))):=by intros;kernel_rfl
 rw[h];simp only[B4A,B9P,h0];show _=_;kernel_rfl
def S46:S2T
 |[.ptr d0 o0],[[.sl .tok af none,.int .i64 ac,.int .i64 ao,.int .i64 ap,.int .i64 anq]]=>bif bq d0 o0 then pB [.agg .tref,.bool] kC (F46 af ac ao ap anq)else none
 |_,_=>none
def E18:Env Ty6 A4:=mkE [(47,S47),(48,S48)] [] noD 13 [] 0 [] []
def F18(a0:I0):Option E6:=let r2:=F48 a0.wrap [93];gd (okR [.int .i64] r2) (let r1:=F47 [91] (lI (gL r2 0));gd (okR [.str] r1) (gd (decide (Bb (lS (gL r1 0))+Bb a0.name≤9223372036854775807)) (gd (decide (Bb ((lS (gL r1 0))++a0.name)+Bb a0.wrap≤9223372036854775807)) (some (.one (.str (((lS (gL r1 0))++a0.name)++a0.wrap)))))))
theorem C2C{a0:I0}:A2 E18 NN Tryz.f18 [.agg .tref a0]=F18 a0:=by kernel_rfl
def S18:S1T
 |[.agg .tref a0]=>pR [.str] (F18 a0)
 |_=>none
def G1:List (List KD):=[[.sl .tok none,.int .i64,.int .i64,.int .i64,.int .i64]]
def J9(F:Option (List L6×List (List L6))):CurT:=⟨lL .tok (gC F 0 0),lI (gC F 0 1),lI (gC F 0 2),lI (gC F 0 3),lI (gC F 0 4)⟩
def F9:LitT:=.mk 0 [] false [] [] ⟨0,0⟩
def f94(p:List UInt8)(c:CurT):=F94 p c.toks c.at_ c.nest c.limit c.kind
def f96(p:List UInt8)(c:CurT):=F96 p c.toks c.at_ c.nest c.limit c.kind
def f97(c:CurT):=F97 [] c.toks c.at_ c.nest c.limit c.kind
def f98(p:List UInt8)(c:CurT):=F98 p c.toks c.at_ c.nest c.limit c.kind
def f100(k:Int)(c:CurT):=A0T k c.toks c.at_ c.nest c.limit c.kind
def f103(p:List UInt8)(c:CurT):=A4O p c.toks c.at_ c.nest c.limit c.kind
def CurT.next(c:CurT):CurT:={c with at_:=Ba .i64 (c.at_+1)}
def W7(t:A1):Option LitT:=
 bif t.kind==4 then some (.mk 2 t.text false [] [] t.pos)
 else bif t.kind==5 then some (.mk 3 t.text false [] [] t.pos)
 else bif(t.kind==6)||(t.kind==7)then some (.mk 4 t.value (t.kind==7) [] [] t.pos)
 else bif(t.kind==3)&&((t.text==[116,114,117,101])||(t.text==[102,97,108,115,101]))then some (.mk 5 t.text false [] [] t.pos)
 else bif(t.kind==3)&&(t.text==[110,117,108,108])then some (.mk 6 [] false [] [] t.pos)
 else bif t.kind==3 then some (.mk 7 t.text false [] [] t.pos)
 else none
def A0g(t:A1)(ae:Bool):Bool:=((t.kind==2)&&(t.text==[36]))&& !ae
def X2(t:A1):Bool:=(t.kind==2)&&((t.text==[91])||(t.text==[123]))
def A09(ae:Bool)(c:CurT):Option (LitT×CurT):=
 bif decide (0≤c.at_)then
  match c.toks[c.at_.toNat]? with
  |none=>none
  |some t=>
   bif !(c.kind==0)then some (F9,c)
   else match W7 t with
   |some v=>some (v,c.next)
   |none=>
    bif A0g t ae then
     bif okB [.agg .named,.bool] G1 (f97 c.next)then some (.mk 1 (M9 (gB (f97 c.next) 0)).name false [] [] t.pos,J9 (f97 c.next))else none
    else bif X2 t then
     bif okB [.bool] G1 (f103 t.text c)then some (.mk (bif t.text==[123]then 9 else 8) [] false [] [] t.pos,J9 (f103 t.text c))else none
    else
     bif okB [] G1 (f100 70 c)then some (F9,J9 (f100 70 c))else none
 else none
def O2(n:Nat):Bool:=Dx n 549755813888
def A8m(k:Int)(c:CurT):Option (Bool×CurT):=
 bif okR [.str] (F95 k)then
  bif okB [.bool] G1 (f94 (lS (gL (F95 k) 0)) c)then some (lB (gB (f94 (lS (gL (F95 k) 0)) c) 0),J9 (f94 (lS (gL (F95 k) 0)) c))else none
 else none
def A8b(k:Int)(c:CurT):Option CurT:=
 bif okR [.str] (F95 k)then
  bif okB [.bool] G1 (f96 (lS (gL (F95 k) 0)) c)then some (J9 (f96 (lS (gL (F95 k) 0)) c))else none
 else none
def A43(top:LitT)(c:CurT):Option (LitT×CurT):=
 bif top.kind==9 then
  bif okB [.agg .named,.bool] G1 (f97 c)then
   bif okB [.bool] G1 (f98 [58] (J9 (f97 c)))then
    bif O2 top.fields.length then
     some (.mk top.kind top.text top.block top.items (top.fields++[((M9 (gB (f97 c) 0)).name,F9,(M9 (gB (f97 c) 0)).pos)]) top.pos,J9 (f98 [58] (J9 (f97 c))))
    else none
   else none
  else none
 else some (top,c)
def A6G(top v:LitT):Option LitT:=
 bif top.kind==9 then
  match top.fields.getLast? with
  |none=>none
  |some f=>bif O2 top.fields.dropLast.length then some (.mk top.kind top.text top.block top.items (top.fields.dropLast++[(f.name,v,f.pos)]) top.pos)else none
 else bif O2 top.items.length then some (.mk top.kind top.text top.block (top.items++[v]) top.fields top.pos)else none
def A6U(op:List LitT)(c:CurT):Option (Bool×CurT):=match op with
 |[]=>some (false,c)
 |top::_=>A8m top.kind c
def A5k(op:List LitT)(c:CurT):Option (List LitT×CurT):=match op with
 |[]=>some ([],c)
 |top::am=>match A43 top c with
  |none=>none
  |some (t',c')=>some (t'::am,c')
abbrev A6M:=LitT×Bool×CurT
def A38(v:LitT)(c:CurT)(am:List LitT):Option (A6M ⊕ (CurT×List LitT)):=
 bif !(c.kind==0)then some (.inl (F9,false,c))
 else match am with
 |[]=>some (.inl (v,true,c))
 |top::r2=>match A6G top v with
  |none=>none
  |some dC=>some (.inr (c,dC::r2))
def A4z(ae:Bool)(c:CurT)(op:List LitT):Option (A6M ⊕ (CurT×List LitT)):=
 bif !(c.kind==0)then some (.inl (F9,false,c))
 else match A6U op c with
 |none=>none
 |some (shut,c1)=>
  bif shut then
   match op with
   |[]=>none
   |v::am=>
    match A8b v.kind c1 with
    |none=>none
    |some c2=>A38 v c2 am
  else
   match A5k op c1 with
   |none=>none
   |some (eE,c2)=>
    match A09 ae c2 with
    |none=>none
    |some (v,c3)=>
     bif(v.kind==8)||(v.kind==9)then
      bif O2 eE.length then some (.inr (c3,v::eE))else none
     else A38 v c3 eE
def A1X(ae:Bool):Nat→CurT→List LitT→Option A6M
 |0,_,_=>none
 |f+1,c,op=>match A4z ae c op with
  |none=>none
  |some (.inl r)=>some r
  |some (.inr (c',eF))=>A1X ae f c' eF
def F41(a1:Bool)(af:List A1)(ac:Int)(ao:Int)(ap:Int)(anq:Int):Option (List L6×List (List L6)):=
 match A1X a1 NN ⟨af,ac,ao,ap,anq⟩ []with
 |some (v,ok,c)=>some ([.agg .lit v,.bool ok],[[.sl .tok c.toks none,.int .i64 c.at_,.int .i64 c.nest,.int .i64 c.limit,.int .i64 c.kind]])
 |none=>none
def S41:List L6→List (List L6)→Option (Bool×List L6×List (List L6))
 |[.ptr d0 o0,.bool a1],[[.sl .tok af none,.int .i64 ac,.int .i64 ao,.int .i64 ap,.int .i64 anq]]=>bif(Be d0 900000&&Be o0 0)then some (okB [.agg .lit,.bool] [[.sl .tok none,.int .i64,.int .i64,.int .i64,.int .i64]] (F41 a1 af ac ao ap anq),rsR [.agg .lit,.bool] (F41 a1 af ac ao ap anq),csR [[.sl .tok none,.int .i64,.int .i64,.int .i64,.int .i64]] (F41 a1 af ac ao ap anq))else none
 |_,_=>none
def L7(toks:List A1)(depth:Int):CurT:=⟨toks,0,0,if 200<(if 0>depth then 0 else depth)then 200 else(if 0>depth then 0 else depth),0⟩
def f41(b:Bool)(c:CurT):=F41 b c.toks c.at_ c.nest c.limit c.kind
def f42(c:CurT):=F42 c.toks c.at_ c.nest c.limit c.kind
def f43(c:CurT):=F43 c.toks c.at_ c.nest c.limit c.kind
def f46(c:CurT):=F46 c.toks c.at_ c.nest c.limit c.kind
def A7p:Q8:=⟨0,[],[]⟩
def B5n:I0:=⟨[],[]⟩
def A4X(c1:CurT):Option (Bool×Q8):=
 bif okB [.bool] G1 (f42 c1)then
  bif okB [.agg .fault,.bool] G1 (f43 (J9 (f42 c1)))then some (lB (gB (f43 (J9 (f42 c1))) 1),A9X (gB (f43 (J9 (f42 c1))) 0))else none
 else none
def F14(a0:List Int)(a1:Bool)(a2:Int):Option E6:=
 bif okR [.sl .tok (some 1)] (F24 a0)then
  bif okB [.agg .lit,.bool] G1 (f41 a1 (L7 (G6 (gL (F24 a0) 0)) a2))then
   match A4X (J9 (f41 a1 (L7 (G6 (gL (F24 a0) 0)) a2)))with
   |none=>none
   |some (fm,f)=>bif fm then some (.tup [.agg .lit F9,.agg .fault f])else some (.tup [.agg .lit (A1D (gB (f41 a1 (L7 (G6 (gL (F24 a0) 0)) a2)) 0)),.agg .fault A7p])
  else none
 else none
def S14:List L6→Option (Bool×E6)
 |[.sl .u8 a0 none,.bool a1,.int .i64 a2]=>some (okR [.agg .lit,.agg .fault] (F14 a0 a1 a2),J4 [.agg .lit,.agg .fault] (F14 a0 a1 a2))
 |_=>none
def F17(a0:List Int)(a1:Int):Option E6:=
 bif okR [.sl .tok (some 1)] (F24 a0)then
  bif okB [.agg .tref,.bool] G1 (f46 (L7 (G6 (gL (F24 a0) 0)) a1))then
   match A4X (J9 (f46 (L7 (G6 (gL (F24 a0) 0)) a1)))with
   |none=>none
   |some (fm,f)=>bif fm then some (.tup [.agg .tref B5n,.agg .fault f])else some (.tup [.agg .tref (A9r (gB (f46 (L7 (G6 (gL (F24 a0) 0)) a1)) 0)),.agg .fault A7p])
  else none
 else none
def S17:List L6→Option (Bool×E6)
 |[.sl .u8 a0 none,.int .i64 a1]=>some (okR [.agg .tref,.agg .fault] (F17 a0 a1),J4 [.agg .tref,.agg .fault] (F17 a0 a1))
 |_=>none
def B6F:Env Ty6 A4:=mkE [(131,A4p),(183,A6Q)] [] noD 92 [] 0 [] []
def A9n(a0 a1:List UInt8)(a2:A1):Option E6:=bif(a0==[68,105,114,115])then(gd (decide (Bb a1+Bb [65,114,103,115]≤9223372036854775807)) (gd (decide (Bb a1+Bb [68,105,114,115]≤9223372036854775807)) (let r1:=U2 a2 [64] [[64],[110,97,109,101],a1++[65,114,103,115],a1++[68,105,114,115]] [];gd (okR [.sl .str none] r1) (some (.one (.sl .str (K5 (gL r1 0)) none))))))else(bif(a0==[65,114,103,115])then(gd (decide (Bb a1+Bb [65,114,103]≤9223372036854775807)) (gd (decide (Bb a1+Bb [77,111,114,101]≤9223372036854775807)) (let r2:=U2 a2 [40] [[40],a1++[65,114,103],a1++[77,111,114,101],[41]] [];gd (okR [.sl .str none] r2) (some (.one (.sl .str (K5 (gL r2 0)) none))))))else(bif(a0==[77,111,114,101])then(gd (decide (Bb a1+Bb [65,114,103]≤9223372036854775807)) (gd (decide (Bb a1+Bb [77,111,114,101]≤9223372036854775807)) (let r3:=U2 a2 [41] [] [a1++[65,114,103],a1++[77,111,114,101]];gd (okR [.sl .str none] r3) (some (.one (.sl .str (K5 (gL r3 0)) none))))))else(bif(a0==[65,114,103])then(gd (decide (Bb a1+Bb [86,97,108,117,101]≤9223372036854775807)) (some (.one (.sl .str [[110,97,109,101],[58],a1++[86,97,108,117,101]] (some 1)))))else(bif(a0==[86,97,108,117,101])then(let j4:Bool→Option E6:=fun z5=>some (.one (.sl .str [[108,105,116]] (some 1)));let ea:=A0u a2 [36];gd (okR [.bool] ea) (bif(lB (gL ea 0))==true then(bif(a1==[])then(some (.one (.sl .str [[36],[110,97,109,101]] (some 1))))else(let r7:=A0u a2 [91];gd (okR [.bool] r7) (bif(lB (gL r7 0))then(gd (decide (Bb a1+Bb [73,116,101,109,115]≤9223372036854775807)) (some (.one (.sl .str [[91],a1++[73,116,101,109,115],[93]] (some 1)))))else(let r6:=A0u a2 [123];gd (okR [.bool] r6) (bif(lB (gL r6 0))then(gd (decide (Bb a1+Bb [70,105,101,108,100,115]≤9223372036854775807)) (some (.one (.sl .str [[123],a1++[70,105,101,108,100,115],[125]] (some 1)))))else(bif(a2.kind==3)then(some (.one (.sl .str [[110,97,109,101]] (some 1))))else(j4 (a2.kind==3))))))))else(bif false then(some (.one (.sl .str [[36],[110,97,109,101]] (some 1))))else(let r9:=A0u a2 [91];gd (okR [.bool] r9) (bif(lB (gL r9 0))then(gd (decide (Bb a1+Bb [73,116,101,109,115]≤9223372036854775807)) (some (.one (.sl .str [[91],a1++[73,116,101,109,115],[93]] (some 1)))))else(let r8:=A0u a2 [123];gd (okR [.bool] r8) (bif(lB (gL r8 0))then(gd (decide (Bb a1+Bb [70,105,101,108,100,115]≤9223372036854775807)) (some (.one (.sl .str [[123],a1++[70,105,101,108,100,115],[125]] (some 1)))))else(bif(a2.kind==3)then(some (.one (.sl .str [[110,97,109,101]] (some 1))))else(j4 (a2.kind==3))))))))))else(bif(a0==[73,116,101,109,115])then(gd (decide (Bb a1+Bb [86,97,108,117,101]≤9223372036854775807)) (gd (decide (Bb a1+Bb [73,116,101,109,115]≤9223372036854775807)) (let jj:=U2 a2 [93] [] [a1++[86,97,108,117,101],a1++[73,116,101,109,115]];gd (okR [.sl .str none] jj) (some (.one (.sl .str (K5 (gL jj 0)) none))))))else(bif(a0==[70,105,101,108,100,115])then(gd (decide (Bb a1+Bb [70,105,101,108,100]≤9223372036854775807)) (gd (decide (Bb a1+Bb [70,105,101,108,100,115]≤9223372036854775807)) (let mU:=U2 a2 [125] [] [a1++[70,105,101,108,100],a1++[70,105,101,108,100,115]];gd (okR [.sl .str none] mU) (some (.one (.sl .str (K5 (gL mU 0)) none))))))else(let fJ:=a0==[70,105,101,108,100];bif fJ then(gd (decide (Bb a1+Bb [86,97,108,117,101]≤9223372036854775807)) (some (.one (.sl .str [[110,97,109,101],[58],a1++[86,97,108,117,101]] (some 1)))))else(some (.one (.sl .str [[110,111,110,101]] (some 1)))))))))))
theorem C4p{a0 a1:List UInt8}{a2:A1}:A2 B6F NN Tryz.f128 [.str a0,.str a1,.agg .tok a2]=A9n a0 a1 a2:=by kernel_rfl
def A95:S1T
 |[.str a0,.str a1,.agg .tok a2]=>pR [.slc .str] (A9n a0 a1 a2)
 |_=>none
def E57:Env Ty6 A4:=mkE [(126,B2t),(127,B1I),(128,A95)] [] noD 33 [] 0 [] []
def F57(a0:List UInt8)(a1:A1):Option E6:=gd (okR [.slc .str,.bool] (A6W a0 a1)) (let z1:=(K5 (gL (A6W a0 a1) 0));let z2:=(lB (gL (A6W a0 a1) 1));bif z2 then(some (.one (.sl .str z1 none)))else(gd (okR [.slc .str,.bool] (A6E a0 a1)) (let z3:=(K5 (gL (A6E a0 a1) 0));let z4:=(lB (gL (A6E a0 a1) 1));bif z4 then(some (.one (.sl .str z3 none)))else(match idx a0 0 with|none=>none|some y5=>(let z6:=(Cd y5:Int)==67;bif z6 then(match sub a0 1 (Bb a0:Int)with|none=>none|some y7=>(let r8:=A9n y7 [67] a1;gd (okR [.slc .str] r8) (some (.one (.sl .str (K5 (gL r8 0)) none)))))else(let r9:=A9n a0 [] a1;gd (okR [.slc .str] r9) (some (.one (.sl .str (K5 (gL r9 0)) none)))))))))
theorem C4m{a0:List UInt8}{a1:A1}:A2 E57 NN Tryz.f57 [.str a0,.agg .tok a1]=F57 a0 a1:=by kernel_rfl
def S57:S1T
 |[.str a0,.agg .tok a1]=>pR [.sl .str none] (F57 a0 a1)
 |_=>none
def B4w:Env Ty6 A4:=mkE [] [] noD 21 [] 0 [] []
def A7D(a0:A1):Option E6:=bif(a0.kind==4)==false then(bif(a0.kind==5)==false then(bif(a0.kind==6)==false then(some (.one (.bool (a0.kind==7))))else(some (.one (.bool true))))else(some (.one (.bool true))))else(some (.one (.bool true)))
theorem C3m{a0:A1}:A2 B4w NN Tryz.f130 [.agg .tok a0]=A7D a0:=by kernel_rfl
def B4a:S1T
 |[.agg .tok a0]=>pR [.bool] (A7D a0)
 |_=>none
def E58:Env Ty6 A4:=mkE [(129,A62),(130,B4a),(131,A4p)] [] noD 39 [] 0 [] []
def F58(a0:List UInt8)(a1:A1):Option E6:=bif(a0==[110,97,109,101])then(some (.one (.bool (a1.kind==3))))else(bif(a0==[98,117,116,79,110])then(bif(a1.kind==3)==true then(some (.one (.bool (!(a1.text==[111,110])))))else(some (.one (.bool false))))else(bif(a0==[111,110])then(let r1:=A1r a1 [111,110];gd (okR [.bool] r1) (some (.one (.bool (lB (gL r1 0))))))else(bif(a0==[108,105,116])then(gd (okR [.bool] (A7D a1)) (some (.one (.bool (lB (gL (A7D a1) 0))))))else(bif(a0==[101,110,100])then(some (.one (.bool (a1.kind==0))))else(let z2:=a0==[110,111,110,101];bif z2 then(some (.one (.bool false)))else(gd (okR [.bool] (A0u a1 a0)) (some (.one (.bool (lB (gL (A0u a1 a0) 0)))))))))))
theorem C1t{a0:List UInt8}{a1:A1}:A2 E58 NN Tryz.f58 [.str a0,.agg .tok a1]=F58 a0 a1:=by kernel_rfl
def S58:S1T
 |[.str a0,.agg .tok a1]=>pR [.bool] (F58 a0 a1)
 |_=>none
def E73:Env Ty6 A4:=mkE [] [] noD 11 [] 0 [] []
def F73(a0:List UInt8):Option E6:=match idx a0 0 with|none=>none|some y1=>(bif(decide ((Cd y1:Int)≥65))==true then(match idx a0 0 with|none=>none|some y2=>(some (.one (.bool (decide ((Cd y2:Int)≤90))))))else(some (.one (.bool false))))
theorem C8q{a0:List UInt8}:A2 E73 NN Tryz.f73 [.str a0]=F73 a0:=by kernel_rfl
def S73:S1T
 |[.str a0]=>pR [.bool] (F73 a0)
 |_=>none
def A3N:Env Ty6 A4:=mkE [] [] (lkD [(0,[4]),(2,[6,7,8]),(3,[10,11,18]),(4,[9,12,13,14,15,16,17]),(5,[0,1,5,18,19,20,21,22,23]),(6,[0,1,5,9])]) 24 [] 0 [] []
def B4T(a0:List B7)(a1:List UInt8)(x5:Int):S6:=⟨[(0,.one (.sl .rule a0 none)),(1,.one (.str a1)),(5,.one (.int .i64 x5))],[]⟩
def C9a(a0:List B7)(a1:List UInt8)(x5:Int)(x9:Bool):S6:=⟨[(0,.one (.sl .rule a0 none)),(1,.one (.str a1)),(5,.one (.int .i64 x5)),(9,.one (.bool x9))],[]⟩
def C2W(a0:List B7)(a1:List UInt8)(x4:List (List (List UInt8))):S6:=⟨[(4,.one (.sl .strs x4 none))],[]⟩
def C44{R:Type}(nn:Nat)(a0:List B7)(a1:List UInt8)(x5:Int)(k1:(List (List (List UInt8)))→Option R)(k2:Int→Option R)(k3:Int→Bool→Option R):Option R:=let z1:=decide (x5<(Bb a0:Int));bif z1 then(match idx a0 x5 with|none=>none|some y2=>(bif(y2.name==a1)then(match idx a0 x5 with|none=>none|some y3=>(k1 y3.choices))else(k2 (Ba .i64 (x5+1)))))else(k3 x5 z1)
def A7a{R:Type}(nn:Nat)(a0:List B7)(a1:List UInt8):Nat→Int→((List (List (List UInt8)))→Option R)→(Int→Bool→Option R)→Option R
 |0,_,_,_=>none
 |n+1,x5,k1,k3=>C44 nn a0 a1 x5 k1 (fun x5=>A7a nn a0 a1 n x5 k1 k3) k3
theorem B8w{R:Type}(nn:Nat)(a0:List B7)(a1:List UInt8):∀(n:Nat)(x5:Int)(K:Ex→S6→Option R),LP A3N nn Cz [1,0,1,0,0] 10002 n (B4T a0 a1 x5) K=A7a nn a0 a1 n x5 (fun x4=>K .ret (C2W a0 a1 x4)) (fun x5 x9=>K (.exit 0) (C9a a0 a1 x5 x9))
 |0,_,_=>rfl
 |n+1,x5,K=>by
  rw[A7a];simp only[←B8w nn a0 a1 n _ K];kernel_rfl
def B82(nn:Nat)(a0:List B7)(a1:List UInt8):Option E6:=A7a nn a0 a1 nn 0 (fun z1=>some (.one (.sl .strs z1 none))) (fun z2 z3=>some (.one (.sl .strs [] (some 1))))
def A0a(a0:List B7)(a1:List UInt8):Option E6:=B82 NN a0 a1
theorem C8u(nn:Nat){a0:List B7}{a1:List UInt8}:A2 A3N nn Cz [.sl .rule a0 none,.str a1]=B82 nn a0 a1:=by
 have h:A2 A3N nn Cz [.sl .rule a0 none,.str a1]=LP A3N nn Cz [1,0,1,0,0] 10002 nn (B4T a0 a1 0) (A8 0 (sk A3N nn Cz [1,1] (B2 A3N Tryz.f146.results.toList))):=by kernel_rfl
 rw[h];simp only[B8w];show _=_;kernel_rfl
def A6m:S1T
 |[.sl .rule a0 none,.str a1]=>pR [.slc .strs] (A0a a0 a1)
 |_=>none
def E77:Env Ty6 A4:=mkE [] [] (lkD [(0,[2]),(4,[6,7,8]),(5,[10,11,21]),(6,[9,12,13,14,15,16,17,18,19,20]),(7,[21,22,23]),(8,[4,24,25,26,27,28,29,30,31]),(9,[24,32,33]),(10,[0,3,4,5,9,34])]) 35 [] 0 [] []
def B9i(a0:List UInt8)(x3:List (List UInt8))(x4 x5:Int):S6:=⟨[(0,.one (.str a0)),(3,.one (.sl .str x3 (some 103))),(4,.one (.int .i64 x4)),(5,.one (.int .i64 x5))],[103]⟩
def C9i(a0:List UInt8)(x3:List (List UInt8))(x4 x5:Int)(x9:Bool):S6:=⟨[(0,.one (.str a0)),(3,.one (.sl .str x3 (some 103))),(4,.one (.int .i64 x4)),(5,.one (.int .i64 x5)),(9,.one (.bool x9))],[103]⟩
def C4k{R:Type}(nn:Nat)(a0:List UInt8)(x3:List (List UInt8))(x4 x5:Int)(k1:(List (List UInt8))→Int→Int→Option R)(k2:(List (List UInt8))→Int→Int→Bool→Option R):Option R:=let z1:=decide (x5≤(Bb a0:Int));bif z1 then(let j2:(List (List UInt8))→Int→Int→Bool→Option R:=fun z3 z4 z5 z6=>k1 z3 z4 (Ba .i64 (z5+1));let j7:(List (List UInt8))→Int→Int→Option R:=fun z8 z9 e9=>k1 z8 z9 (Ba .i64 (e9+1));let wG:(List (List UInt8))→Int→Int→Bool→Option R:=fun dM fJ fB eo=>let gX:=decide (fB>fJ);bif gX then(match sub a0 fJ fB with|none=>none|some rY=>(gd (A3 (Bb dM+1) 16) (j7 (dM++[rY]) (Ba .i64 (fB+1)) fB)))else(j7 dM (Ba .i64 (fB+1)) fB);bif(decide (x5<(Bb a0:Int)))==true then(match idx a0 x5 with|none=>none|some nZ=>(let gF:=(Cd nZ:Int) !=32;bif gF then(j2 x3 x4 x5 gF)else(wG x3 x4 x5 gF)))else(bif false then(j2 x3 x4 x5 false)else(wG x3 x4 x5 false)))else(k2 x3 x4 x5 z1)
def A7v{R:Type}(nn:Nat)(a0:List UInt8):Nat→(List (List UInt8))→Int→Int→((List (List UInt8))→Int→Int→Bool→Option R)→Option R
 |0,_,_,_,_=>none
 |n+1,x3,x4,x5,k2=>C4k nn a0 x3 x4 x5 (fun x3 x4 x5=>A7v nn a0 n x3 x4 x5 k2) k2
theorem B8k{R:Type}(nn:Nat)(a0:List UInt8):∀(n:Nat)(x3:List (List UInt8))(x4 x5:Int)(K:Ex→S6→Option R),LP E77 nn Cq [1,1,1,0,1,0,0] 10004 n (B9i a0 x3 x4 x5) K=A7v nn a0 n x3 x4 x5 (fun x3 x4 x5 x9=>K (.exit 0) (C9i a0 x3 x4 x5 x9))
 |0,_,_,_,_=>rfl
 |n+1,x3,x4,x5,K=>by
  rw[A7v];simp only[←B8k nn a0 n _ _ _ K];kernel_rfl
def B44(nn:Nat)(a0:List UInt8):Option E6:=A7v nn a0 nn [] 0 0 (fun z1 z2 z3 z4=>some (.one (.sl .str z1 (some 1))))
def F77(a0:List UInt8):Option E6:=B44 NN a0
theorem C8M(nn:Nat){a0:List UInt8}:A2 E77 nn Cq [.str a0]=B44 nn a0:=by
 have h:A2 E77 nn Cq [.str a0]=LP E77 nn Cq [1,1,1,0,1,0,0] 10004 nn (B9i a0 [] 0 0) (A8 0 (sk E77 nn Cq [1,1,1,1] (B2 E77 Tryz.f77.results.toList))):=by kernel_rfl
 rw[h];simp only[B8k];show _=_;kernel_rfl
def S77:S1T
 |[.str a0]=>pR [.sl .str (some 1)] (F77 a0)
 |_=>none
def A49(n:Nat):Bool:=Dx n 1099511627776
def A0d(s:List UInt8):Bool:=(s==[40])||((s==[91])||(s==[123]))
def A1o(s:List UInt8):Bool:=(s==[41])||((s==[93])||(s==[125]))
def A8P(s:List UInt8):Bool:=s==[101,110,100]
def setTok(N:List G3)(n:Nat)(nd:G3)(at_:Nat):List G3:=N.set n {nd with tok:=(at_:Int)}
def A6q(N:List G3)(n:Nat)(nd:G3)(r:List (List UInt8)):List G3:=
 N.set n {nd with kids:=(Bo r.length).map fun i=>((N.length+i:Nat):Int)}++r.map fun s=>⟨s,[],0⟩
def A2B(toks:List A1)(depth:Int):Nat→List G3→List Nat→Nat→Int→Option (A1t×Nat×Int)
 |0,_,_,_,_=>none
 |_+1,N,[],_,_=>some (⟨N,toks⟩,0,0)
 |f+1,N,n::am,at_,op=>
  match N[n]? with
  |none=>none
  |some nd=>
  match toks[at_]? with
  |none=>none
  |some t=>
   bif okR [.bool] (F56 nd.sym)then
    bif lB (gL (F56 nd.sym) 0)then
     bif okR [.bool] (F58 nd.sym t)then
      bif lB (gL (F58 nd.sym t) 0)then
       bif A0d nd.sym then
        bif decide (depth<Ba .i64 (op+1))then some (⟨[],[]⟩,at_,71)
        else A2B toks depth f (setTok N n nd at_) am (bif A8P nd.sym then at_ else at_+1) (Ba .i64 (op+1))
       else A2B toks depth f (setTok N n nd at_) am (bif A8P nd.sym then at_ else at_+1) (bif A1o nd.sym then Ba .i64 (op - 1)else op)
      else some (⟨[],[]⟩,at_,70)
     else none
    else
     match nd.kids with
     |[]=>
      bif okR [.sl .str none] (F57 nd.sym t)then
       bif A49 (N.length+(am.length+(K5 (gL (F57 nd.sym t) 0)).length))then
        A2B toks depth f (A6q N n nd (K5 (gL (F57 nd.sym t) 0))) ((Bo (K5 (gL (F57 nd.sym t) 0)).length).map (fun i=>N.length+i)++am) at_ op
       else none
      else none
     |_::_=>none
   else none
def A0P:List UInt8:=[68,111,99,117,109,101,110,116]
def F25(a0:List A1)(a1:Int):Option E6:=
 bif A49 a0.length then
  match A2B a0 a1 NN [⟨A0P,[],0⟩] [0] 0 0 with
  |some (d,at_,k)=>some (.tup [.agg .tree d,.int .i64 (at_:Int),.int .i64 k])
  |none=>none
 else none
def S25:List L6→Option (Bool×E6)
 |[.sl .tok a0 none,.int .i64 a1]=>some (okR [.agg .tree,.int .i64,.int .i64] (F25 a0 a1),J4 [.agg .tree,.int .i64,.int .i64] (F25 a0 a1))
 |_=>none
def A3z:Env Ty6 A4:=mkE [(77,S77)] [] (lkD [(0,[4]),(1,[1,7,8]),(3,[9,10,11]),(4,[13,14,20]),(5,[12,15,16,17,18,19]),(6,[0,5,6,20]),(7,[0,5,6,12])]) 21 [] 0 [] []
def B4d(a0 a1:List UInt8)(x5:List (List UInt8))(x6:Int):S6:=⟨[(0,.one (.str a0)),(5,.one (.sl .str x5 (some 1008))),(6,.one (.int .i64 x6))],[1008]⟩
def C2F(a0 a1:List UInt8)(x5:List (List UInt8))(x6:Int)(de:Bool):S6:=⟨[(0,.one (.str a0)),(5,.one (.sl .str x5 (some 1008))),(6,.one (.int .i64 x6)),(12,.one (.bool de))],[1008]⟩
def C4K(a0 a1:List UInt8):S6:=⟨[(4,.one (.bool true))],[]⟩
def C5P{R:Type}(nn:Nat)(a0 a1:List UInt8)(x5:List (List UInt8))(x6:Int)(k1:Option R)(k2:(List (List UInt8))→Int→Option R)(k3:(List (List UInt8))→Int→Bool→Option R):Option R:=let z1:=decide (x6<(Bb x5:Int));bif z1 then(match idx x5 x6 with|none=>none|some y2=>(bif(y2==a0)then k1 else(k2 x5 (Ba .i64 (x6+1)))))else(k3 x5 x6 z1)
def A8D{R:Type}(nn:Nat)(a0 a1:List UInt8):Nat→(List (List UInt8))→Int→(Option R)→((List (List UInt8))→Int→Bool→Option R)→Option R
 |0,_,_,_,_=>none
 |n+1,x5,x6,k1,k3=>C5P nn a0 a1 x5 x6 k1 (fun x5 x6=>A8D nn a0 a1 n x5 x6 k1 k3) k3
theorem B9d{R:Type}(nn:Nat)(a0 a1:List UInt8):∀(n:Nat)(x5:List (List UInt8))(x6:Int)(K:Ex→S6→Option R),LP A3z nn Cy [1,1,0,1,0,0] 10003 n (B4d a0 a1 x5 x6) K=A8D nn a0 a1 n x5 x6 (K .ret (C4K a0 a1)) (fun x5 x6 de=>K (.exit 0) (C2F a0 a1 x5 x6 de))
 |0,_,_,_=>rfl
 |n+1,x5,x6,K=>by
  rw[A8D];simp only[←B9d nn a0 a1 n _ _ K];kernel_rfl
def B7Q(nn:Nat)(a0 a1:List UInt8):Option E6:=gd (okR [.sl .str (some 1)] (F77 a1)) (A8D nn a0 a1 nn (K5 (gL (F77 a1) 0)) 0 (some (.one (.bool true))) (fun z1 z2 z3=>some (.one (.bool false))))
def A7o(a0 a1:List UInt8):Option E6:=B7Q NN a0 a1
theorem C1q(nn:Nat){a0 a1:List UInt8}:A2 A3z nn Cy [.str a0,.str a1]=B7Q nn a0 a1:=by
 have h:A2 A3z nn Cy [.str a0,.str a1]=gd (okR [.sl .str (some 1)] (F77 a1)) (LP A3z nn Cy [1,1,0,1,0,0] 10003 nn (B4d a0 a1 (K5 (gL (F77 a1) 0)) 0) (A8 0 (sk A3z nn Cy [1,1,1] (B2 A3z Tryz.f149.results.toList)))):=by kernel_rfl
 rw[h];simp only[B9d];show _=_;kernel_rfl
def B0J:S1T
 |[.str a0,.str a1]=>pR [.bool] (A7o a0 a1)
 |_=>none
def E75:Env Ty6 A4:=mkE [(149,B0J)] [] noD 83 [] 0 [] []
def F75(a0:List UInt8)(a1:A1):Option E6:=bif(a0==[46,110,97,109,101])then(some (.one (.bool (a1.kind==3))))else(bif(a0==[46,99,97,115,101])then(bif(a1.kind==3)==true then(let r1:=A7o a1.text [116,114,117,101,32,102,97,108,115,101,32,110,117,108,108];gd (okR [.bool] r1) (some (.one (.bool (!(lB (gL r1 0)))))))else(some (.one (.bool false))))else(bif(a0==[46,114,111,111,116])then(bif(a1.kind==3)==true then(let r2:=A7o a1.text [113,117,101,114,121,32,109,117,116,97,116,105,111,110,32,115,117,98,115,99,114,105,112,116,105,111,110];gd (okR [.bool] r2) (some (.one (.bool (lB (gL r2 0))))))else(some (.one (.bool false))))else(bif(a0==[46,112,108,97,99,101])then(bif(a1.kind==3)==true then(let r3:=A7o a1.text [81,85,69,82,89,32,77,85,84,65,84,73,79,78,32,83,85,66,83,67,82,73,80,84,73,79,78,32,70,73,69,76,68,32,70,82,65,71,77,69,78,84,95,68,69,70,73,78,73,84,73,79,78,32,70,82,65,71,77,69,78,84,95,83,80,82,69,65,68,32,73,78,76,73,78,69,95,70,82,65,71,77,69,78,84,32,86,65,82,73,65,66,76,69,95,68,69,70,73,78,73,84,73,79,78,32,83,67,72,69,77,65,32,83,67,65,76,65,82,32,79,66,74,69,67,84,32,70,73,69,76,68,95,68,69,70,73,78,73,84,73,79,78,32,65,82,71,85,77,69,78,84,95,68,69,70,73,78,73,84,73,79,78,32,73,78,84,69,82,70,65,67,69,32,85,78,73,79,78,32,69,78,85,77,32,69,78,85,77,95,86,65,76,85,69,32,73,78,80,85,84,95,79,66,74,69,67,84,32,73,78,80,85,84,95,70,73,69,76,68,95,68,69,70,73,78,73,84,73,79,78];gd (okR [.bool] r3) (some (.one (.bool (lB (gL r3 0))))))else(some (.one (.bool false))))else(bif(a0==[46,115,116,114])then(bif(a1.kind==6)==false then(some (.one (.bool (a1.kind==7))))else(some (.one (.bool true))))else(bif(a0==[46,110,117,109])then(bif(a1.kind==4)==false then(some (.one (.bool (a1.kind==5))))else(some (.one (.bool true))))else(let z4:=a0==[46,101,110,100];bif z4 then(some (.one (.bool (a1.kind==0))))else(match idx a0 0 with|none=>none|some y5=>(let z6:=(Cd y5:Int)==39;bif z6 then(bif(a1.kind==3)==true then(match sub a0 1 (Bb a0:Int)with|none=>none|some y7=>(some (.one (.bool (a1.text==y7)))))else(some (.one (.bool false))))else(bif(a1.kind==2)==true then(some (.one (.bool (a1.text==a0))))else(some (.one (.bool false))))))))))))
theorem C8g{a0:List UInt8}{a1:A1}:A2 E75 NN Tryz.f75 [.str a0,.agg .tok a1]=F75 a0 a1:=by kernel_rfl
def S75:S1T
 |[.str a0,.agg .tok a1]=>pR [.bool] (F75 a0 a1)
 |_=>none
def A8W(g:(List B7)→(List UInt8)→Option E6):S1T
 |[.sl .rule a0 none,.str a1]=>pR [.bool] (g a0 a1)
 |_=>none
def X7(be:(List B7)→(List UInt8)→Option E6):Env Ty6 A4:=mkE [(73,S73),(146,A6m),(148,A8W be)] [] (lkD [(0,[4]),(1,[9,10]),(2,[0,1,11]),(3,[1,11,12,13,14]),(5,[15,16,17]),(6,[19,20,42]),(7,[18]),(9,[21,22,23,24,25,26]),(10,[28,29]),(11,[27,30,31,32,33,34,35,36,37,38,39,40,41]),(12,[7,8,27]),(13,[0,5,6,42]),(14,[0,5,6,18])]) 43 [] 0 [] []
def B37(a0:List B7)(a1:List UInt8)(x5:List (List (List UInt8)))(x6:Int):S6:=⟨[(0,.one (.sl .rule a0 none)),(5,.one (.sl .strs x5 none)),(6,.one (.int .i64 x6))],[]⟩
def B72(a0:List B7)(a1:List UInt8)(x5:List (List (List UInt8)))(x6:Int)(ud:Bool):S6:=⟨[(0,.one (.sl .rule a0 none)),(5,.one (.sl .strs x5 none)),(6,.one (.int .i64 x6)),(18,.one (.bool ud))],[]⟩
def B4R(a0:List B7)(a1:List UInt8)(x5:List (List (List UInt8)))(x6:Int)(x7:Bool)(x8:Int):S6:=⟨[(0,.one (.sl .rule a0 none)),(5,.one (.sl .strs x5 none)),(6,.one (.int .i64 x6)),(7,.one (.bool x7)),(8,.one (.int .i64 x8))],[]⟩
def C3k(a0:List B7)(a1:List UInt8)(x5:List (List (List UInt8)))(x6:Int)(x7:Bool)(x8:Int)(l7:Bool):S6:=⟨[(0,.one (.sl .rule a0 none)),(5,.one (.sl .strs x5 none)),(6,.one (.int .i64 x6)),(7,.one (.bool x7)),(8,.one (.int .i64 x8)),(27,.one (.bool l7))],[]⟩
def C7q(a0:List B7)(a1:List UInt8):S6:=⟨[(4,.one (.bool true))],[]⟩
def D1k{R:Type}(nn:Nat)(be:(List B7)→(List UInt8)→Option E6)(a0:List B7)(a1:List UInt8)(x5:List (List (List UInt8)))(x6:Int)(x7:Bool)(x8:Int)(k1:(List (List (List UInt8)))→Int→Bool→Int→Option R)(k2:(List (List (List UInt8)))→Int→Bool→Int→Bool→Option R):Option R:=match idx x5 x6 with|none=>none|some y1=>(let z2:=decide (x8<(Bb y1:Int));bif z2 then(let j3:(List (List (List UInt8)))→Int→Bool→Int→Option R:=fun z4 z5 z6 z7=>k1 z4 z5 z6 (Ba .i64 (z7+1));bif x7==true then(match idx x5 x6 with|none=>none|some y8=>(match idx y8 x8 with|none=>none|some y9=>(gd (okR [.bool] (be a0 y9)) (j3 x5 x6 (lB (gL (be a0 y9) 0)) x8))))else(j3 x5 x6 false x8))else(k2 x5 x6 x7 x8 z2))
def A9Q{R:Type}(nn:Nat)(be:(List B7)→(List UInt8)→Option E6)(a0:List B7)(a1:List UInt8):Nat→(List (List (List UInt8)))→Int→Bool→Int→((List (List (List UInt8)))→Int→Bool→Int→Bool→Option R)→Option R
 |0,_,_,_,_,_=>none
 |n+1,x5,x6,x7,x8,k2=>D1k nn be a0 a1 x5 x6 x7 x8 (fun x5 x6 x7 x8=>A9Q nn be a0 a1 n x5 x6 x7 x8 k2) k2
theorem B6g{R:Type}(nn:Nat)(be:(List B7)→(List UInt8)→Option E6)(a0:List B7)(a1:List UInt8):∀(n:Nat)(x5:List (List (List UInt8)))(x6:Int)(x7:Bool)(x8:Int)(K:Ex→S6→Option R),LP (X7 be) nn Br [1,1,1,0,1,0,0,1,0,0,1,0,1,0,0] 10009 n (B4R a0 a1 x5 x6 x7 x8) K=A9Q nn be a0 a1 n x5 x6 x7 x8 (fun x5 x6 x7 x8 l7=>K (.exit 2) (C3k a0 a1 x5 x6 x7 x8 l7))
 |0,_,_,_,_,_=>rfl
 |n+1,x5,x6,x7,x8,K=>by
  rw[A9Q];simp only[←B6g nn be a0 a1 n _ _ _ _ K];kernel_rfl
def C5c{R:Type}(nn:Nat)(be:(List B7)→(List UInt8)→Option E6)(a0:List B7)(a1:List UInt8)(x5:List (List (List UInt8)))(x6:Int)(k1:Option R)(k2:(List (List (List UInt8)))→Int→Option R)(k3:(List (List (List UInt8)))→Int→Bool→Option R):Option R:=let z1:=decide (x6<(Bb x5:Int));bif z1 then(A9Q nn be a0 a1 nn x5 x6 true 0 (fun z2 z3 z4 z5 z6=>bif z4 then k1 else(k2 z2 (Ba .i64 (z3+1)))))else(k3 x5 x6 z1)
def A8Y{R:Type}(nn:Nat)(be:(List B7)→(List UInt8)→Option E6)(a0:List B7)(a1:List UInt8):Nat→(List (List (List UInt8)))→Int→(Option R)→((List (List (List UInt8)))→Int→Bool→Option R)→Option R
 |0,_,_,_,_=>none
 |n+1,x5,x6,k1,k3=>C5c nn be a0 a1 x5 x6 k1 (fun x5 x6=>A8Y nn be a0 a1 n x5 x6 k1 k3) k3
theorem B5p{R:Type}(nn:Nat)(be:(List B7)→(List UInt8)→Option E6)(a0:List B7)(a1:List UInt8):∀(n:Nat)(x5:List (List (List UInt8)))(x6:Int)(K:Ex→S6→Option R),LP (X7 be) nn Br [1,1,1,0,1,0,0] 10005 n (B37 a0 a1 x5 x6) K=A8Y nn be a0 a1 n x5 x6 (K .ret (C7q a0 a1)) (fun x5 x6 ud=>K (.exit 0) (B72 a0 a1 x5 x6 ud))
 |0,_,_,_=>rfl
 |n+1,x5,x6,K=>by
  rw[A8Y];simp only[←B5p nn be a0 a1 n _ _ K];have h:LP (X7 be) nn Br [1,1,1,0,1,0,0] 10005 (n+1) (B37 a0 a1 x5 x6) K=let z1:=decide (x6<(Bb x5:Int));bif z1 then(LP (X7 be) nn Br [1,1,1,0,1,0,0,1,0,0,1,0,1,0,0] 10009 nn (B4R a0 a1 x5 x6 true 0) (A8 2 (sk (X7 be) nn Br [1,1,1,0,1,0,0,1,0,0,1,1] (A8 1 (sk (X7 be) nn Br [1,1,1,0,1,0,0,1,1] (A1z ((X7 be).drop 10005) (A1w (lbN nn (X7 be) (A0 Br [1,1,1,0,1,0,0]) 10005) n K)))))))else(K (.exit 0) (B72 a0 a1 x5 x6 z1)):=by kernel_rfl
  rw[h];simp only[B6g];show _=_;kernel_rfl
def B5k(nn:Nat)(be:(List B7)→(List UInt8)→Option E6)(a0:List B7)(a1:List UInt8):Option E6:=gd (okR [.bool] (F73 a1)) (let z1:= !(lB (gL (F73 a1) 0));bif z1 then(some (.one (.bool false)))else(gd (okR [.slc .strs] (A0a a0 a1)) (A8Y nn be a0 a1 nn (A5x (gL (A0a a0 a1) 0)) 0 (some (.one (.bool true))) (fun z2 z3 z4=>some (.one (.bool false))))))
def C9U(be:(List B7)→(List UInt8)→Option E6)(a0:List B7)(a1:List UInt8):Option E6:=B5k NN be a0 a1
theorem C0n(nn:Nat)(be:(List B7)→(List UInt8)→Option E6){a0:List B7}{a1:List UInt8}:A2 (X7 be) nn Br [.sl .rule a0 none,.str a1]=B5k nn be a0 a1:=by
 have h:A2 (X7 be) nn Br [.sl .rule a0 none,.str a1]=gd (okR [.bool] (F73 a1)) (let z1:= !(lB (gL (F73 a1) 0));bif z1 then(some (.one (.bool false)))else(gd (okR [.slc .strs] (A0a a0 a1)) (LP (X7 be) nn Br [1,1,1,0,1,0,0] 10005 nn (B37 a0 a1 (A5x (gL (A0a a0 a1) 0)) 0) (A8 0 (sk (X7 be) nn Br [1,1,1,1] (B2 (X7 be) Tryz.f148.results.toList)))))):=by kernel_rfl
 rw[h];simp only[B5p];show _=_;kernel_rfl
def A6e:Nat→(List B7)→(List UInt8)→Option E6
 |0,_,_=>none
 |d+1,a0,a1=>C9U (A6e d) a0 a1
def A9W(a0:List B7)(a1:List UInt8):Option E6:=A6e DD a0 a1
def B3j:S1T
 |[.sl .rule a0 none,.str a1]=>pR [.bool] (A9W a0 a1)
 |_=>none
def A8B(g:(List B7)→(List (List UInt8))→A1→Option E6):S1T
 |[.sl .rule a0 none,.sl .str a1 none,.agg .tok a2]=>pR [.bool] (g a0 a1 a2)
 |_=>none
def Y3(bj:(List B7)→(List (List UInt8))→A1→Option E6):Env Ty6 A4:=mkE [(73,S73),(75,S75),(146,A6m),(147,A8B bj),(148,B3j)] [] (lkD [(0,[2,6]),(2,[10,11,12]),(3,[14,15,53]),(4,[13,16,17,18,19,20]),(5,[0,1,5,7,21,22,23,24,25,26,27,1000105]),(6,[21,28,29,30,31,32,33]),(8,[34,35,36]),(9,[38,39,46]),(10,[37,40,41,42,43,44,45]),(11,[0,1,5,7,8,9,46,1000105]),(12,[8,9,37,47,48,49,50,51,52]),(13,[0,1,5,7,53,1000105]),(14,[0,1,5,7,13,1000105])]) 54 [] 0 [] []
def B3O(a0:List B7)(a1:List (List UInt8))(a2:A1)(x7:Int):S6:=⟨[(0,.one (.sl .rule a0 none)),(1,.one (.sl .str a1 none)),(5,.one (.elem .tok a2 0)),(7,.one (.int .i64 x7))],[]⟩
def B9w(a0:List B7)(a1:List (List UInt8))(a2:A1)(x7:Int)(kt:Bool):S6:=⟨[(0,.one (.sl .rule a0 none)),(1,.one (.sl .str a1 none)),(5,.one (.elem .tok a2 0)),(7,.one (.int .i64 x7)),(13,.one (.bool kt))],[]⟩
def B41(a0:List B7)(a1:List (List UInt8))(a2:A1)(x6:Bool):S6:=⟨[(6,.one (.bool x6))],[]⟩
def B7N(a0:List B7)(a1:List (List UInt8))(a2:A1)(x7:Int)(x8:List (List (List UInt8)))(x9:Int):S6:=⟨[(0,.one (.sl .rule a0 none)),(1,.one (.sl .str a1 none)),(5,.one (.elem .tok a2 0)),(7,.one (.int .i64 x7)),(8,.one (.sl .strs x8 none)),(9,.one (.int .i64 x9))],[]⟩
def C3C(a0:List B7)(a1:List (List UInt8))(a2:A1)(x7:Int)(x8:List (List (List UInt8)))(x9:Int)(ue:Bool):S6:=⟨[(0,.one (.sl .rule a0 none)),(1,.one (.sl .str a1 none)),(5,.one (.elem .tok a2 0)),(7,.one (.int .i64 x7)),(8,.one (.sl .strs x8 none)),(9,.one (.int .i64 x9)),(37,.one (.bool ue))],[]⟩
def D0G(a0:List B7)(a1:List (List UInt8))(a2:A1):S6:=⟨[(6,.one (.bool true))],[]⟩
def C7b{R:Type}(nn:Nat)(bj:(List B7)→(List (List UInt8))→A1→Option E6)(a0:List B7)(a1:List (List UInt8))(a2:A1)(x7:Int)(x8:List (List (List UInt8)))(x9:Int)(k1:Option R)(k2:Int→(List (List (List UInt8)))→Int→Option R)(k3:Int→(List (List (List UInt8)))→Int→Bool→Option R):Option R:=let z1:=decide (x9<(Bb x8:Int));bif z1 then(match idx x8 x9 with|none=>none|some y2=>(let r4:=bj a0 y2 a2;gd (okR [.bool] r4) (let z3:=(lB (gL r4 0));bif z3 then k1 else(k2 x7 x8 (Ba .i64 (x9+1))))))else(k3 x7 x8 x9 z1)
def A7r{R:Type}(nn:Nat)(bj:(List B7)→(List (List UInt8))→A1→Option E6)(a0:List B7)(a1:List (List UInt8))(a2:A1):Nat→Int→(List (List (List UInt8)))→Int→(Option R)→(Int→(List (List (List UInt8)))→Int→Bool→Option R)→Option R
 |0,_,_,_,_,_=>none
 |n+1,x7,x8,x9,k1,k3=>C7b nn bj a0 a1 a2 x7 x8 x9 k1 (fun x7 x8 x9=>A7r nn bj a0 a1 a2 n x7 x8 x9 k1 k3) k3
theorem B6H{R:Type}(nn:Nat)(bj:(List B7)→(List (List UInt8))→A1→Option E6)(a0:List B7)(a1:List (List UInt8))(a2:A1):∀(n:Nat)(x7:Int)(x8:List (List (List UInt8)))(x9:Int)(K:Ex→S6→Option R),LP (Y3 bj) nn Bt [1,0,1,0,0,1,0,0,1,1,0,1,0,0] 10008 n (B7N a0 a1 a2 x7 x8 x9) K=A7r nn bj a0 a1 a2 n x7 x8 x9 (K .ret (D0G a0 a1 a2)) (fun x7 x8 x9 ue=>K (.exit 2) (C3C a0 a1 a2 x7 x8 x9 ue))
 |0,_,_,_,_=>rfl
 |n+1,x7,x8,x9,K=>by
  rw[A7r];simp only[←B6H nn bj a0 a1 a2 n _ _ _ K];kernel_rfl
def D1t{R:Type}(nn:Nat)(bj:(List B7)→(List (List UInt8))→A1→Option E6)(a0:List B7)(a1:List (List UInt8))(a2:A1)(x7:Int)(k1:Bool→Option R)(k2:Int→Option R)(k3:Int→Bool→Option R):Option R:=let z1:=decide (x7<(Bb a1:Int));bif z1 then(match idx a1 x7 with|none=>none|some y2=>(gd (okR [.bool] (F73 y2)) (let z3:= !(lB (gL (F73 y2) 0));bif z3 then(match idx a1 x7 with|none=>none|some y4=>(gd (okR [.bool] (F75 y4 a2)) (k1 (lB (gL (F75 y4 a2) 0)))))else(match idx a1 x7 with|none=>none|some y5=>(gd (okR [.slc .strs] (A0a a0 y5)) (A7r nn bj a0 a1 a2 nn x7 (A5x (gL (A0a a0 y5) 0)) 0 (k1 true) (fun z6 z7 z8 z9=>match idx a1 z6 with|none=>none|some iq=>(let mU:=A9W a0 iq;gd (okR [.bool] mU) (let dy:= !(lB (gL mU 0));bif dy then(k1 false)else(k2 (Ba .i64 (z6+1))))))))))))else(k3 x7 z1)
def A8X{R:Type}(nn:Nat)(bj:(List B7)→(List (List UInt8))→A1→Option E6)(a0:List B7)(a1:List (List UInt8))(a2:A1):Nat→Int→(Bool→Option R)→(Int→Bool→Option R)→Option R
 |0,_,_,_=>none
 |n+1,x7,k1,k3=>D1t nn bj a0 a1 a2 x7 k1 (fun x7=>A8X nn bj a0 a1 a2 n x7 k1 k3) k3
theorem B8r{R:Type}(nn:Nat)(bj:(List B7)→(List (List UInt8))→A1→Option E6)(a0:List B7)(a1:List (List UInt8))(a2:A1):∀(n:Nat)(x7:Int)(K:Ex→S6→Option R),LP (Y3 bj) nn Bt [1,0,1,0,0] 10002 n (B3O a0 a1 a2 x7) K=A8X nn bj a0 a1 a2 n x7 (fun x6=>K .ret (B41 a0 a1 a2 x6)) (fun x7 kt=>K (.exit 0) (B9w a0 a1 a2 x7 kt))
 |0,_,_=>rfl
 |n+1,x7,K=>by
  rw[A8X];simp only[←B8r nn bj a0 a1 a2 n _ K];have h:LP (Y3 bj) nn Bt [1,0,1,0,0] 10002 (n+1) (B3O a0 a1 a2 x7) K=let z1:=decide (x7<(Bb a1:Int));bif z1 then(match idx a1 x7 with|none=>none|some y2=>(gd (okR [.bool] (F73 y2)) (let z3:= !(lB (gL (F73 y2) 0));bif z3 then(match idx a1 x7 with|none=>none|some y4=>(gd (okR [.bool] (F75 y4 a2)) (K .ret (B41 a0 a1 a2 (lB (gL (F75 y4 a2) 0))))))else(match idx a1 x7 with|none=>none|some y5=>(gd (okR [.slc .strs] (A0a a0 y5)) (LP (Y3 bj) nn Bt [1,0,1,0,0,1,0,0,1,1,0,1,0,0] 10008 nn (B7N a0 a1 a2 x7 (A5x (gL (A0a a0 y5) 0)) 0) (A8 2 (sk (Y3 bj) nn Bt [1,0,1,0,0,1,0,0,1,1,1] (A8 1 (sk (Y3 bj) nn Bt [1,0,1,0,0,1,1] (A1z ((Y3 bj).drop 10002) (A1w (lbN nn (Y3 bj) (A0 Bt [1,0,1,0,0]) 10002) n K))))))))))))else(K (.exit 0) (B9w a0 a1 a2 x7 z1)):=by kernel_rfl
  rw[h];simp only[B6H];show _=_;kernel_rfl
def B8P(nn:Nat)(bj:(List B7)→(List (List UInt8))→A1→Option E6)(a0:List B7)(a1:List (List UInt8))(a2:A1):Option E6:=A8X nn bj a0 a1 a2 nn 0 (fun z1=>some (.one (.bool z1))) (fun z2 z3=>some (.one (.bool false)))
def D0Y(bj:(List B7)→(List (List UInt8))→A1→Option E6)(a0:List B7)(a1:List (List UInt8))(a2:A1):Option E6:=B8P NN bj a0 a1 a2
theorem C2T(nn:Nat)(bj:(List B7)→(List (List UInt8))→A1→Option E6){a0:List B7}{a1:List (List UInt8)}{a2:A1}:A2 (Y3 bj) nn Bt [.sl .rule a0 none,.sl .str a1 none,.agg .tok a2]=B8P nn bj a0 a1 a2:=by
 have h:A2 (Y3 bj) nn Bt [.sl .rule a0 none,.sl .str a1 none,.agg .tok a2]=LP (Y3 bj) nn Bt [1,0,1,0,0] 10002 nn (B3O a0 a1 a2 0) (A8 0 (sk (Y3 bj) nn Bt [1,1] (B2 (Y3 bj) Tryz.f147.results.toList))):=by kernel_rfl
 rw[h];simp only[B8r];show _=_;kernel_rfl
def A5J:Nat→(List B7)→(List (List UInt8))→A1→Option E6
 |0,_,_,_=>none
 |d+1,a0,a1,a2=>D0Y (A5J d) a0 a1 a2
def B4Q(a0:List B7)(a1:List (List UInt8))(a2:A1):Option E6:=A5J DD a0 a1 a2
def B5o:S1T
 |[.sl .rule a0 none,.sl .str a1 none,.agg .tok a2]=>pR [.bool] (B4Q a0 a1 a2)
 |_=>none
def E74:Env Ty6 A4:=mkE [(146,A6m),(147,B5o),(148,B3j)] [] (lkD [(0,[2,6,7]),(1,[10,11,12]),(3,[13,14,15]),(4,[17,18,25]),(5,[16,19,20,21,22,23,24]),(6,[0,1,5,8,9,25,26,27,28,29,1000105]),(7,[0,1,5,8,9,16,30,31,32,1000105])]) 33 [] 0 [] []
def B7D(a0:List B7)(a1:List UInt8)(a2:A1)(x8:List (List (List UInt8)))(x9:Int):S6:=⟨[(0,.one (.sl .rule a0 none)),(1,.one (.str a1)),(5,.one (.elem .tok a2 0)),(8,.one (.sl .strs x8 none)),(9,.one (.int .i64 x9))],[]⟩
def C7P(a0:List B7)(a1:List UInt8)(a2:A1)(x8:List (List (List UInt8)))(x9:Int)(ug:Bool):S6:=⟨[(0,.one (.sl .rule a0 none)),(1,.one (.str a1)),(5,.one (.elem .tok a2 0)),(8,.one (.sl .strs x8 none)),(9,.one (.int .i64 x9)),(16,.one (.bool ug))],[]⟩
def C30(a0:List B7)(a1:List UInt8)(a2:A1)(x6:List (List UInt8)):S6:=⟨[(6,.one (.sl .str x6 none)),(7,.one (.bool true))],[]⟩
def C0D{R:Type}(nn:Nat)(a0:List B7)(a1:List UInt8)(a2:A1)(x8:List (List (List UInt8)))(x9:Int)(k1:(List (List UInt8))→Option R)(k2:(List (List (List UInt8)))→Int→Option R)(k3:(List (List (List UInt8)))→Int→Bool→Option R):Option R:=let z1:=decide (x9<(Bb x8:Int));bif z1 then(match idx x8 x9 with|none=>none|some y2=>(let r5:=B4Q a0 y2 a2;gd (okR [.bool] r5) (let z3:=(lB (gL r5 0));bif z3 then(match idx x8 x9 with|none=>none|some y4=>(k1 y4))else(k2 x8 (Ba .i64 (x9+1))))))else(k3 x8 x9 z1)
def A7H{R:Type}(nn:Nat)(a0:List B7)(a1:List UInt8)(a2:A1):Nat→(List (List (List UInt8)))→Int→((List (List UInt8))→Option R)→((List (List (List UInt8)))→Int→Bool→Option R)→Option R
 |0,_,_,_,_=>none
 |n+1,x8,x9,k1,k3=>C0D nn a0 a1 a2 x8 x9 k1 (fun x8 x9=>A7H nn a0 a1 a2 n x8 x9 k1 k3) k3
theorem B8V{R:Type}(nn:Nat)(a0:List B7)(a1:List UInt8)(a2:A1):∀(n:Nat)(x8:List (List (List UInt8)))(x9:Int)(K:Ex→S6→Option R),LP E74 nn Cr [1,1,0,1,0,0] 10003 n (B7D a0 a1 a2 x8 x9) K=A7H nn a0 a1 a2 n x8 x9 (fun x6=>K .ret (C30 a0 a1 a2 x6)) (fun x8 x9 ug=>K (.exit 0) (C7P a0 a1 a2 x8 x9 ug))
 |0,_,_,_=>rfl
 |n+1,x8,x9,K=>by
  rw[A7H];simp only[←B8V nn a0 a1 a2 n _ _ K];kernel_rfl
def B8l(nn:Nat)(a0:List B7)(a1:List UInt8)(a2:A1):Option E6:=gd (okR [.slc .strs] (A0a a0 a1)) (A7H nn a0 a1 a2 nn (A5x (gL (A0a a0 a1) 0)) 0 (fun z1=>some (.tup [.sl .str z1 none,.bool true])) (fun z2 z3 z4=>gd (okR [.bool] (A9W a0 a1)) (some (.tup [.sl .str [] (some 1),.bool (lB (gL (A9W a0 a1) 0))]))))
def F74(a0:List B7)(a1:List UInt8)(a2:A1):Option E6:=B8l NN a0 a1 a2
theorem C0G(nn:Nat){a0:List B7}{a1:List UInt8}{a2:A1}:A2 E74 nn Cr [.sl .rule a0 none,.str a1,.agg .tok a2]=B8l nn a0 a1 a2:=by
 have h:A2 E74 nn Cr [.sl .rule a0 none,.str a1,.agg .tok a2]=gd (okR [.slc .strs] (A0a a0 a1)) (LP E74 nn Cr [1,1,0,1,0,0] 10003 nn (B7D a0 a1 a2 (A5x (gL (A0a a0 a1) 0)) 0) (A8 0 (sk E74 nn Cr [1,1,1] (B2 E74 Tryz.f74.results.toList)))):=by kernel_rfl
 rw[h];simp only[B8V];show _=_;kernel_rfl
def S74:S1T
 |[.sl .rule a0 none,.str a1,.agg .tok a2]=>pR [.slc .str,.bool] (F74 a0 a1 a2)
 |_=>none
def E76:Env Ty6 A4:=mkE [] [] noD 12 [] 0 [] []
def F76(a0:List UInt8):Option E6:=let j1:Bool→Option E6:=fun z2=>some (.one (.int .i64 0));let j3:Bool→Option E6:=fun z4=>some (.one (.int .i64 0));let j5:Bool→Option E6:=fun z6=>bif z6 then(some (.one (.int .i64 1)))else(let j7:Bool→Option E6:=fun z8=>bif z8 then(some (.one (.int .i64 (-1))))else(j1 z8);bif(a0==[41])then(j7 (a0==[41]))else(bif(a0==[93])then(j7 (a0==[93]))else(bif(a0==[125])then(some (.one (.int .i64 (-1))))else(j3 (a0==[125])))));bif(a0==[40])then(j5 (a0==[40]))else(bif(a0==[91])then(j5 (a0==[91]))else(j5 (a0==[123])))
theorem C7T{a0:List UInt8}:A2 E76 NN Tryz.f76 [.str a0]=F76 a0:=by kernel_rfl
def S76:S1T
 |[.str a0]=>pR [.int .i64] (F76 a0)
 |_=>none
def smN(n:Nat):Bool:=Dx n 1099511627776
def A15(bg:List B7)(toks:List A1)(depth:Int):Nat→List (List UInt8)→Nat→Int→Option (Int×C2)
 |0,_,_,_=>none
 |_+1,[],_,_=>some (0,⟨0,0⟩)
 |f+1,top::am,at_,op=>
  match toks[at_]? with
  |none=>none
  |some t=>
   bif okR [.bool] (F73 top)then
    bif lB (gL (F73 top) 0)then
     bif okR [.slc .str,.bool] (F74 bg top t)then
      bif lB (gL (F74 bg top t) 1)then
       bif smN ((K5 (gL (F74 bg top t) 0)).length+am.length)then A15 bg toks depth f (K5 (gL (F74 bg top t) 0)++am) at_ op else none
      else some (70,t.pos)
     else none
    else
     bif okR [.bool] (F75 top t)then
      bif lB (gL (F75 top t) 0)then
       bif okR [.int .i64] (F76 top)then
        bif(lI (gL (F76 top) 0)==1)&&decide (depth≤op)then some (71,t.pos)
        else A15 bg toks depth f am (bif Bn (at_+1) toks.length then at_+1 else at_) (Ba .i64 (op+lI (gL (F76 top) 0)))
       else none
      else some (70,t.pos)
     else none
   else none
def F33(a0:List B7)(a1:List UInt8)(a2:List A1)(a3:Int):Option E6:=
 bif smN a2.length then
  match A15 a0 a2 a3 NN [a1] 0 0 with
  |some (k,p)=>some (.tup [.int .i64 k,.agg .pos p])
  |none=>none
 else none
def S33:List L6→Option (Bool×E6)
 |[.sl .rule a0 none,.str a1,.sl .tok a2 none,.int .i64 a3]=>some (okR [.int .i64,.agg .pos] (F33 a0 a1 a2 a3),J4 [.int .i64,.agg .pos] (F33 a0 a1 a2 a3))
 |_=>none
end Go.Aev
section
namespace Go.Aev
open Go.Proofs
theorem A5I{P:Ci}{T f:Nat}{ie:TypeInfo}{me:Method}{v v1 v2:Value}{w:World}(hi:P.info? T=some ie)(hm:ie.methods= #[me])(hn:me.name= "pergola/printer.print")(hp:me.path= #[])(hf:me.func=some (f,false))
  (hu:(match P.underlying T with|some (.struct _)=>true|_=>false)=true)(hc:∀ args w,(callFunc f args).run P w=.ok (.enter f args) w):
  (invoke (.fn (.method "pergola/printer.print") #[]) #[.iface T v,v1,v2]).run P w=.ok (.enter f #[v,v1,v2]) w:=by
 have hd:∃ n,P.types.size+Dy=n+1:=⟨P.types.size+Dy - 1,by unfold Dy;omega⟩;obtain⟨n,jL⟩:=hd;split at hu
 ·rename_i fs bW;simp[invoke,callMethod,jL,method,typeInfo,hi,hm,hn,hp,hf,follow,receiverAt,run_underlying bW,Place.get,hc]
 ·cases hu
end Go.Aev
namespace Go.Aev
open Go.Proofs
theorem A5V{I:Inv}(hb:HB I){w:World}{m:Nat→Nat}(hI:I w m){x:PartT}{T f:Nat}{t:Ty6}{y:A4 t}{a2:Int}{cs:List (List L6)}{rs:List L6}{av:List (List L6)}
  (hx:G8 .part x=[.ifc T t y])(ag:∀ v v1 v2 w,(invoke (.fn (.method "pergola/printer.print") #[]) #[.iface T v,v1,v2]).run Ai w=.ok (.enter f #[v,v1,v2]) w)
  (hc:X9 Ai U6 I f [.agg t y,.ptr 900000 0,.int .i64 a2] cs rs av):
  A6S Ai U6 ⟨w,m,fun _=>False,0,fun _=>undef⟩ "pergola/printer.print" [.one1 .part x,.ptr 900000 0,.int .i64 a2] cs rs av:=by
 intro w1 g1 vs hl
 match vs,hl with
 |[v0,v1,v2],hl=>
  obtain⟨h0,h1,h2,_⟩:=hl;have fD:=h0.1;cases fD with
  |one1 _ _ lf _ cm fq=>
   have cz:lf=.ifc T t y:=by
    have:[lf]=[Leaf.ifc T t y]:=by rw[←hx];exact cm.symm
    exact(List.cons.inj this).1
   subst cz;cases fq with
   |ifc _ _ _ v' dj=>
    refine⟨f,[.agg t y,.ptr 900000 0,.int .i64 a2],[v',v1,v2],ag v' v1 v2 w1,⟨⟨dj,fun _ _ _ e=>(by cases e),fun _ _ e=>(by cases e)⟩,h1,h2,trivial⟩,fun lf cz d hd=>?_,?_⟩
    ·simp only[Bi,Bm,or_false]at cz;rcases cz with rfl|rfl|rfl
     ·cases hd
     ·exact⟨.ptr 900000 0,by simp,hd⟩
     ·cases hd
    ·intro w2 g2 jc uh fu;exact hc w2 g2 jc uh (hb.mono _ _ _ _ hI fu)
 |[],hl=>exact hl.elim
 |[_],hl=>exact hl.2.elim
 |[_,_],hl=>exact hl.2.2.elim
 |_::_::_::_::_,hl=>exact hl.2.2.2.elim
end Go.Aev
end
namespace Go.Aev
section
variable {P:Ci}{ops:Array Oper}{Q:Exit→Act→World→Prop}{S:World→Prop}{L:Nat}
def A0q(P:Ci)(ops:Array Oper)(Q:Exit→Act→World→Prop)(S:World→Prop)(L:Nat):Nat→Array Bool→Act→World→Prop
 |0,listed,a,w=>Bx .any ops listed=[]∧Q .normal a w
 |fuel+1,listed,a,w=>
  (Bx .any ops listed=[]→Q .normal a w)∧
  ∀ i∈Bx .any ops listed,wpOp P ops Q i (fun a' w'=>(i≠L→S w')∧A0q P ops Q S L fuel (listed.setIfInBounds i true) a' w') a w
theorem B9f:∀(fuel:Nat)(listed:Array Bool)(a:Act)(w:World),A0q P ops Q S L fuel listed a w→wpAny P .any ops Q fuel listed a w
 |0,_,_,_,h=>h
 |fuel+1,_,_,_,h=>⟨h.1,fun i hi=>wpOp_mono (fun a' w' h'=>B9f fuel _ a' w' h'.2) (h.2 i hi)⟩
def A7c(ops:Array Oper)(L i:Nat):Bool:=match ops[L]? with
 |some o=>o.after.any fun e=>Dv .any e&&Be e.on i
 |none=>false
theorem C4j{i:Nat}{oi:Oper}{v:Value}(hi:ops[i]?=some oi)(eC:∀(j:Nat)(o:Oper) cs b,ops[j]?=some o→o.op≠ .select cs b)
  (hQ:∀ c a w,Q (.panic c) (a.put oi.dst v) w→Q (.panic c) a w)(hL:A7c ops L i=true):
  ∀(fuel:Nat)(listed:Array Bool)(a:Act)(w:World),
   (∀ j oj,ops[j]?=some oj→j≠i→listed.getD j true=false→(∀ e∈oj.after,Dv .any e=true→e.on≠i)→oi.apart ops oj=true)→
   i∈Bx .any ops listed→i≠L→YieldsIf P ops S oi v a→S w→
   A0q P ops Q S L fuel (listed.setIfInBounds i true) (a.put oi.dst v) w→A0q P ops Q S L (fuel+1) listed a w:=by
 intro fuel
 induction fuel with
 |zero=>
  intro listed a w _ hr oc hy hS H;refine⟨fun h=>(by rw[h]at hr;cases hr),fun j hj=>?_⟩;by_cases ee:j=i
  ·subst ee;exact hy.wpOp hi hS ⟨fun _=>hS,H⟩
  ·have:=Dq hj ee;rw[H.1]at this;cases this
 |succ fuel ih=>
  intro listed a w fH hr oc hy hS H;refine⟨fun h=>(by rw[h]at hr;cases hr),fun j hj=>?_⟩;by_cases ee:j=i
  ·subst ee;exact hy.wpOp hi hS ⟨fun _=>hS,H⟩
  have h1:=H.2 j (Dq hj ee);obtain⟨qU,oj,gx,bO⟩:=mem_ready.1 hj;have eW:∀ e∈oj.after,Dv .any e=true→e.on≠i:=fun e he hb bW=>by
   have k1:=bO e he hb;have k0:=(mem_ready.1 hr).1;rw[bW]at k1;rcases Nat.lt_or_ge i listed.size with h'|h'
   ·simp[h']at k0 k1;rw[k0]at k1;cases k1
   ·simp[Array.getElem?_eq_none h']at k1
  have yI:j≠L:=fun e=>by
   subst e;unfold A7c at hL;rw[gx]at hL;simp only[Array.any_eq_true',Bd]at hL;obtain⟨e,he,hb,yJ⟩:=hL;exact eW e he hb ((F6 _ _).1 yJ)
  have h2:=wpOp_putIf gx (fH j oj gx ee qU eW) (fun cs b=>eC i oi cs b hi) (fun cs b=>eC j oj cs b gx) hQ hy h1;refine wpOp_mono (fun a' w' h3=>⟨h3.2.1,ih (listed.setIfInBounds j true) a' w' (fun k ok hk yK gw cP=>fH k ok hk yK ?_ cP) (Dq hr (Dw ee)) oc h3.1 (h3.2.1 yI) ?_⟩) h2
  ·by_cases wH:j=k
   ·subst wH;exact qU
   ·rw[getD_set_ne true wH]at gw;exact gw
  ·rw[Array.setIfInBounds_comm _ _ ee];exact h3.2.2
variable {a:Act}{w w':World}{c:Code}{n:Nat}{fr:List (Nat×Value)}{o:Oper}{K:Act→World→Prop}
theorem B2O{S:World→Prop}(L:Nat)(hm:P.follows .mixedOrders=true)(id m:Nat)(h:c=.region id (A05 c) true)(hs:(A05 c).size=m)
  (hw:A0q P (A05 c) (M2 Q) S L m (Eb m false) a {w with drawn:=w.drawn+1}):c.wp P Q a w:=by
 rw[h];refine Code.wp_mono (Q:=M2 Q) (fun e a w h=>by cases e<;>first|exact h|exact h.elim) ?_;subst hs;exact wp_region_any hm (B9f _ _ _ _ hw)
theorem C2P{listed:Array Bool}{fuel i d:Nat}{v:Value}(tm:Tm a n fr)(hi:ops[i]?=some o)(hs:Ds ops=true)(hf:Du .any ops listed i=true)
  (hr:(Bx .any ops listed).contains i=true)(hL:A7c ops L i=true)(oc:Be i L=false)(hg:o.guard=none)(aJ:o.dst=some d)(hd:Bn d n=true)(hS:S w)(ag:∀ w,S w→(Co a.eval o).run P w=.ok (.value v) w)
  (hk:∀ a',Tm a' n ((d,v)::fr)→A0q P ops (M2 Q) S L fuel (listed.setIfInBounds i true) a' w):A0q P ops (M2 Q) S L (fuel+1) listed a w:=by
 refine C4j hi (Region.noSelect_spec hs) (fun _ _ _ h=>h.elim) hL fuel listed a w (Region.free_spec hi hf) (by simpa using hr) (fun e=>by rw[(F6 _ _).2 e]at oc;cases oc) (.inl ⟨by simp[El,hg],ag⟩) hS ?_;rw[aJ];exact hk _ (tm.put hd)
theorem A1m{listed:Array Bool}{fuel i:Nat}(hr:Bx .any ops listed=[i])(hi:ops[i]?=some o)(hg:o.guard=none)
  (h:∀ K:Act→World→Prop,(∀ a' w',(i≠L→S w')→A0q P ops (M2 Q) S L fuel (listed.setIfInBounds i true) a' w'→K a' w')→o.wp P a w K (M2 Q)):A0q P ops (M2 Q) S L (fuel+1) listed a w:=by
 refine⟨fun h0=>(by rw[hr]at h0;cases h0),fun j hj=>?_⟩;rw[hr]at hj;rcases Dc.1 hj with rfl
 unfold Go.wpOp;simp only[hi];rw[if_pos (by simp[El,hg])];exact .inl (h _ fun a' w' h1 h2=>⟨h1,h2⟩)
theorem B2r{listed:Array Bool}(hr:Bx .any ops listed=[])(h:Q .normal a w):∀(fuel:Nat),A0q P ops (M2 Q) S L fuel listed a w
 |0=>⟨hr,h⟩
 |_+1=>⟨fun _=>h,by rw[hr];simp⟩
end
theorem A4n(q:List Nat):∀(p:List Nat)(c:Code),nav c (p++q)=nav (nav c p) q:=by
 intro p
 induction p with
 |nil=>intro c;cases c<;>rfl
 |cons i p ih=>
  intro c;cases c with
  |seq a b=>cases i<;>exact ih _
  |cond o a b=>cases i<;>exact ih _
  |block _ c=>exact ih c
  |loop c=>exact ih c
  |_=>cases q<;>rfl
theorem A7g(c:Code):nav c []=c:=by cases c<;>rfl
def C1f:Code→Bool
 | .seq _ _=>true
 |_=>false
def cnO:Code→Option Db
 | .cond o _ _=>some o
 |_=>none
def blO:Code→Option Nat
 | .block i _=>some i
 |_=>none
def C9E:Code→Bool
 | .loop _=>true
 |_=>false
def A3P(n:Nat)(o:Oper):Option Nat:=match o.guard,o.dst with
 |none,some d=>bif Bn d n then some d else none
 |_,_=>none
def B5b(n:Nat)(fr:List (Nat×Value))(ops:Array Oper)(o:Oper)(j g:Nat):Option Nat:=match o.guard,o.dst,(ops[j]?).bind (·.dst),N9 fr g with
 |some (i,aL),some d,some k,some (.bool b)=>bif(Be i j&&Be k g)&&(Bn g n&&(Bn d n&&(b==aL)))then some d else none
 |_,_,_,_=>none
section
variable {P:Ci}{a:Act}{n:Nat}{fr:List (Nat×Value)}{w w':World}{o:Oper}{Q:Exit→Act→World→Prop}{f:Func}{p:List Nat}
theorem wsq(h:C1f (A0 f p)=true)(hx:(A0 f (p++[0])).wp P (Exit.then ((A0 f (p++[1])).wp P Q) Q) a w):(A0 f p).wp P Q a w:=by
 unfold A0 at*;rw[A4n,A4n]at hx;generalize nav (body f) p=c at*;cases c<;>first|(cases h;done)|skip
 simp only[nav,A7g]at hx;exact wp_seq hx
theorem wcn(tm:Tm a n fr){o:Db}(h:cnO (A0 f p)=some o)(b:Bool)(hv:evV fr o=some (.bool b))(hx:(if b then A0 f (p++[0])else A0 f (p++[1])).wp P Q a w):(A0 f p).wp P Q a w:=by
 unfold A0 at*;rw[A4n,A4n]at hx;generalize nav (body f) p=c at*;cases c<;>first|(cases h;done)|skip
 cases h;simp only[nav,A7g]at hx;exact wp_cond (tm.ev hv) hx
theorem wbl(id:Nat)(h:blO (A0 f p)=some id)(hx:(A0 f (p++[0])).wp P (Cn id Q) a w):(A0 f p).wp P Q a w:=by
 unfold A0 at*;rw[A4n]at hx;generalize nav (body f) p=c at*;cases c<;>first|(cases h;done)|skip
 cases h;simp only[nav,A7g]at hx;exact wp_block hx
theorem wlp(h:C9E (A0 f p)=true)(I:Nat→Act→World→Prop)(n₀:Nat)(h₀:I n₀ a w)
  (kE:∀ n a w,I n a w→(A0 f (p++[0])).wp P (Exit.then (fun a' w'=>∃ n',n'<n∧I n' a' w') Q) a w):(A0 f p).wp P Q a w:=by
 unfold A0 at*;rw[A4n]at kE;generalize nav (body f) p=c at*;cases c<;>first|(cases h;done)|skip
 simp only[nav,A7g]at kE;exact wp_loop_ghost I n₀ h₀ kE
theorem Wn{ops:Array Oper}{c:Code}{Q1:Exit→Act→World→Prop}(h:c.wp P Q1 a w):Bp P ops (Exit.then (c.wp P Q1) Q) [] a w:=h
theorem A99{d:Nat}(h:A3P n o=some d):o.guard=none∧o.dst=some d∧Bn d n=true:=by
 unfold A3P at h;split at h
 ·rename_i d' h1 h2;cases hb:Bn d' n with
  |false=>rw[hb]at h;cases h
  |true=>rw[hb]at h;cases h;exact⟨h1,h2,hb⟩
 ·cases h
theorem Pv{ops:Array Oper}{am:List Oper}(tm:Tm a n fr){d:Nat}{v:Value}(ag:(Co a.eval o).run P w=.ok (.value v) w')(hk:∀ a',Tm a' n ((d,v)::fr)→Bp P ops Q am a' w')(hd:A3P n o=some d:=by rfl):Bp P ops Q (o::am) a w:=by
 obtain⟨h1,h2,h3⟩:=A99 hd;exact Bf h1 fun K hK=>A1s tm h2 h3 ag fun a tm=>hK _ _ (hk a tm)
theorem Pg{ops:Array Oper}{am:List Oper}(tm:Tm a n fr)(j g:Nat){d:Nat}{v:Value}(ag:(Co a.eval o).run P w=.ok (.value v) w')(hk:∀ a',Tm a' n ((d,v)::fr)→Bp P ops Q am a' w')(hd:B5b n fr ops o j g=some d:=by rfl):Bp P ops Q (o::am) a w:=by
 unfold B5b at hd;split at hd
 ·rename_i i aL d' k b h1 h2 h3 h4;cases hb:((Be i j&&Be k g)&&(Bn g n&&(Bn d' n&&(b==aL))))with
  |false=>rw[hb]at hd;cases hd
  |true=>
   rw[hb]at hd;cases hd;simp only[Bd,F6]at hb;obtain⟨⟨rfl,rfl⟩,e3,e4,e5⟩:=hb;cases eq_of_beq e5;exact A3U tm h1 h3 e3 h4 fun K hK=>A1s tm h2 e4 ag fun a tm=>hK _ _ (hk a tm)
 ·cases hd
theorem Ps{ops:Array Oper}{am:List Oper}(tm:Tm a n fr){t:TypeId}{x y:Db}{b off sz fj:Nat}{zc us:List Value}{v:Value}(bR:J8 P t=some (sz,fj,some zc))(bL:(storeCells ⟨b,off,none⟩ us).run P w=.ok () w')(hk:Bp P ops Q am a w')
  (hg:o.guard=none:=by rfl)(aJ:o.dst=none:=by rfl)(ak:o.op=.store t x y:=by rfl)(hx:evV fr x=some (.pointer (some ⟨b,off,none⟩)):=by rfl)(hy:evV fr y=some v:=by rfl)(hv:v.cells=us.toArray:=by rfl)(hl:us.length=sz:=by rfl):Bp P ops Q (o::am) a w:=
 Bf hg fun K hK=>G9 tm bR aJ ak hx hy hv hl bL (hK _ _ hk)
theorem Pm{ops:Array Oper}{am:List Oper}(tm:Tm a n fr){d:Nat}{v:Value}{x:Db}(hk:∀ a',Tm a' n ((d,v)::fr)→Bp P ops Q am a' w)(ak:o.op=.move x:=by rfl)(hx:evV fr x=some v:=by rfl)(hd:A3P n o=some d:=by rfl):Bp P ops Q (o::am) a w:=Pv tm (Q9 tm ak hx) hk hd
theorem Pa{ops:Array Oper}{am:List Oper}(tm:Tm a n fr){d:Nat}{v:Value}{x:Db}(hk:∀ a',Tm a' n ((d,v)::fr)→Bp P ops Q am a' w)(ak:o.op=.assign x:=by rfl)(hx:evV fr x=some v:=by rfl)(hd:A3P n o=some d:=by rfl):Bp P ops Q (o::am) a w:=Pv tm (A8p tm ak hx) hk hd
theorem Dt{ops:Array Oper}{S:World→Prop}{listed:Array Bool}{fuel d:Nat}{v:Value}(tm:Tm a n fr)(i:Nat)(hi:ops[i]?=some o)(hS:S w)(ag:∀ w,S w→(Co a.eval o).run P w=.ok (.value v) w)
  (hk:∀ a',Tm a' n ((d,v)::fr)→wpAnyH P .any ops (M2 Q) S fuel (listed.setIfInBounds i true) a' w)(hs:Ds ops=true:=by kernel_rfl)(hf:Du .any ops listed i=true:=by kernel_rfl)
  (hr:(Bx .any ops listed).contains i=true:=by kernel_rfl) (hd:A3P n o=some d:=by rfl):wpAnyH P .any ops (M2 Q) S (fuel+1) listed a w:=by
 obtain⟨h1,h2,h3⟩:=A99 hd;exact C8O tm hi hs hf hr h1 h2 h3 hS ag hk
theorem Lt{ops:Array Oper}{L:Nat}{S:World→Prop}{listed:Array Bool}{fuel d:Nat}{v:Value}(tm:Tm a n fr)(i:Nat)(hi:ops[i]?=some o)(hS:S w)(ag:∀ w,S w→(Co a.eval o).run P w=.ok (.value v) w)
  (hk:∀ a',Tm a' n ((d,v)::fr)→A0q P ops (M2 Q) S L fuel (listed.setIfInBounds i true) a' w)(hs:Ds ops=true:=by kernel_rfl)(hf:Du .any ops listed i=true:=by kernel_rfl)
  (hr:(Bx .any ops listed).contains i=true:=by kernel_rfl) (hL:A7c ops L i=true:=by kernel_rfl) (oc:Be i L=false:=by kernel_rfl) (hd:A3P n o=some d:=by rfl):A0q P ops (M2 Q) S L (fuel+1) listed a w:=by
 obtain⟨h1,h2,h3⟩:=A99 hd;exact C2P tm hi hs hf hr hL oc h1 h2 h3 hS ag hk
inductive Pk (fr:List (Nat×Value)):List Nat→List (Nat×Value)→Prop where
 |nil:Pk fr [] []
 |cons {i:Nat} {v:Value} {is:List Nat} {r:List (Nat×Value)} (h:N9 fr i=some v) (t:Pk fr is r):Pk fr (i::is) ((i,v)::r)
theorem Pk.all{is:List Nat}{r:List (Nat×Value)}(h:Pk fr is r):A97 fr r:=by
 induction h with
 |nil=>trivial
 |cons h _ ih=>exact⟨h,ih⟩
theorem Tm.keep(tm:Tm a n fr)(is:List Nat){r:List (Nat×Value)}(h:Pk fr is r:=by repeat' constructor):Tm a n r:=tm.sub h.all
end
end Go.Aev
namespace Go.Aev
open Go.Proofs
theorem A0e:O6 Ai 102 0=some (0,0+1):=by kernel_rfl
theorem A6w:O6 Ai 102 1=some (1,1+1):=by kernel_rfl
theorem A2e:O6 Ai 102 4=some (5,0+1):=by kernel_rfl
theorem B59:O6 Ai 102 5=some (6,0+1):=by kernel_rfl
theorem C1k:O6 Ai 142 1=some (1,6+1):=by kernel_rfl
theorem C4e:O6 Ai 153 0=some (0,0+1):=by kernel_rfl
theorem B4S:O6 Ai 153 1=some (1,0+1):=by kernel_rfl
theorem C5K:O6 Ai 153 2=some (2,0+1):=by kernel_rfl
theorem C0B:O6 Ai 196 0=some (0,0+1):=by kernel_rfl
theorem A6A:O6 Ai 196 1=some (1,0+1):=by kernel_rfl
theorem B33:O6 Ai 196 4=some (4,0+1):=by kernel_rfl
theorem A7j:O6 Ai 31 0=some (0,0+1):=by kernel_rfl
theorem V1:O6 Ai 46 0=some (0,0+1):=by kernel_rfl
theorem A9E:O6 Ai 46 1=some (1,0+1):=by kernel_rfl
theorem B7x:O6 Ai 46 2=some (2,0+1):=by kernel_rfl
theorem B5X:O6 Ai 46 3=some (3,0+1):=by kernel_rfl
theorem A9z:O6 Ai 46 4=some (4,0+1):=by kernel_rfl
theorem B8W:O6 Ai 83 0=some (0,0+1):=by kernel_rfl
theorem C6T:O6 Ai 83 1=some (1,1+1):=by kernel_rfl
theorem A3V:O6 Ai 97 0=some (0,0+1):=by kernel_rfl
theorem A0f:Z9 Ai 100=true:=by kernel_rfl
theorem C0y:Z9 Ai 151=true:=by kernel_rfl
theorem A84:Z9 Ai 27=true:=by kernel_rfl
theorem pl3:Z9 Ai 3=true:=by kernel_rfl
theorem A4o:Z9 Ai 40=true:=by kernel_rfl
theorem D0A:Z9 Ai 41=true:=by kernel_rfl
theorem B19:Z9 Ai 42=true:=by kernel_rfl
theorem pl9:Z9 Ai 9=true:=by kernel_rfl
theorem C54:Z9 Ai 93=true:=by kernel_rfl
theorem A5r:Z9 Ai 95=true:=by kernel_rfl
theorem A3r:A0B Ai 102=true:=by kernel_rfl
theorem C2t:A0B Ai 26=true:=by kernel_rfl
theorem A70:A0B Ai 31=true:=by kernel_rfl
theorem A3s:A0B Ai 44=true:=by kernel_rfl
theorem T4:A0B Ai 46=true:=by kernel_rfl
theorem B0o:A0B Ai 51=true:=by kernel_rfl
theorem B9k:A0B Ai 97=true:=by kernel_rfl
theorem V6:J8 Ai 102=some (7,72,some [.int .i64 0,.int .i64 0,.int .i64 0,.int .i64 0,.int .i64 0,.string ⟨[].toArray⟩,.string ⟨[].toArray⟩]):=by kernel_rfl
theorem B3U:J8 Ai 142=some (10,128,some [.string ⟨[].toArray⟩,.int .i64 0,.string ⟨[].toArray⟩,.bool false,.slice none 0 0,.slice none 0 0,.int .i64 0,.int .i64 0,.int .i64 0,.int .i64 0]):=by kernel_rfl
theorem C3c:J8 Ai 151=some (1,24,some [.slice none 0 0]):=by kernel_rfl
theorem A3y:J8 Ai 153=some (3,48,some [.string ⟨[].toArray⟩,.slice none 0 0,.int .i64 0]):=by kernel_rfl
theorem B30:J8 Ai 26=some (1,24,some [.slice none 0 0]):=by kernel_rfl
theorem tz3:J8 Ai 3=some (1,8,some [.int .i64 0]):=by kernel_rfl
theorem O8:J8 Ai 31=some (3,56,some [.int .i64 0,.slice none 0 0,.slice none 0 0]):=by kernel_rfl
theorem tz4:J8 Ai 4=some (1,1,some [.bool false]):=by kernel_rfl
theorem A1p:J8 Ai 40=some (1,8,some [.int .i64 0]):=by kernel_rfl
theorem C7Z:J8 Ai 41=some (1,24,some [.slice none 0 0]):=by kernel_rfl
theorem C93:J8 Ai 42=some (1,24,some [.slice none 0 0]):=by kernel_rfl
theorem A0k:J8 Ai 44=some (2,16,some [.int .i64 0,.int .i64 0]):=by kernel_rfl
theorem D8:J8 Ai 46=some (7,96,some [.int .i64 0,.string ⟨[].toArray⟩,.bool false,.slice none 0 0,.slice none 0 0,.int .i64 0,.int .i64 0]):=by kernel_rfl
theorem tz5:J8 Ai 5=some (1,1,some [.int .u8 0]):=by kernel_rfl
theorem A1b:J8 Ai 51=some (2,32,some [.string ⟨[].toArray⟩,.string ⟨[].toArray⟩]):=by kernel_rfl
theorem A9U:J8 Ai 83=some (3,32,some [.string ⟨[].toArray⟩,.int .i64 0,.int .i64 0]):=by kernel_rfl
theorem tz9:J8 Ai 9=some (1,16,some [.string ⟨[].toArray⟩]):=by kernel_rfl
theorem C65:J8 Ai 95=some (1,24,some [.slice none 0 0]):=by kernel_rfl
theorem A2A:J8 Ai 97=some (2,48,some [.slice none 0 0,.slice none 0 0]):=by kernel_rfl
theorem Y4:Cc Ai 122=some (.slice 9):=by kernel_rfl
theorem A0o:Cc Ai 151=some (.slice 3):=by kernel_rfl
theorem A2i:Cc Ai 22=some (.slice 5):=by kernel_rfl
theorem M6:Cc Ai 41=some (.slice 46):=by kernel_rfl
theorem A5F:Cc Ai 42=some (.slice 142):=by kernel_rfl
theorem A9V:Cc Ai 93=some (.slice 102):=by kernel_rfl
theorem A1V:Cc Ai 95=some (.slice 153):=by kernel_rfl
theorem A79:Cc Ai 5=some (.int .u8):=by kernel_rfl
theorem B5V{w:World}{m:Nat→Nat}{t:Ty6}{l:List (A4 t)}{o:Option Nat}{v:Value}(h:CRep U6 w m (.sl t l o) v){i:Nat}{x:A4 t}(hi:l[i]?=some x):
  ∃(b off cap:Nat)(us:List Value),v=.slice (some ⟨b,off,none⟩) l.length cap∧l.length≤cap∧us.length=U6.size t∧(∀(j:Nat)(u:Value),us[j]?=some u→w.cell? ⟨b,off+i*U6.size t+j,none⟩=some u)∧CRep U6 w m (.agg t x) (.agg us.toArray):=by
 have jK:=J7 hi;rcases h.sl_cells u6_ok with⟨rfl,_⟩|⟨b,off,cap,cs,hv,bc,aS,hc,fq⟩
 ·simp at jK
 have aI:∀(j:Nat) lf,(U6.cells t x)[j]?=some lf→(flat U6 t l)[i*U6.size t+j]?=some lf:=fun j lf hj=>by
  have bQ:=J7 hj;rw[u6_ok.len]at bQ;rw[flat_get u6_ok t l i x j hi bQ];exact hj
 have cm:=u6_ok.len t x;refine⟨b,off,cap,(Bo (U6.size t)).map fun j=>cs (i*U6.size t+j),hv,bc,by simp,fun j u hj=>?_,?_⟩
 ·have bQ:j<U6.size t:=by have:=J7 hj;simpa using this
  rw[Dg,Df bQ]at hj;cases hj;have:=hc (i*U6.size t+j) _ (aI j _ (Cm (by omega)));rw[En];exact this
 ·refine .agg t x _ (by simp) (fun j=>cs (i*U6.size t+j)) (fun j lf hj=>?_) (fun j lf hj=>fq _ lf (aI j lf hj));have bQ:=J7 hj;rw[cm]at bQ;rw[Dg,Df bQ];rfl
theorem B9e{w:World}{m:Nat→Nat}:∀(ls:List L6)(vs:List Value),ls.length=vs.length→(∀(j:Nat) lf,ls[j]?=some lf→∃ u,vs[j]?=some u∧CRep U6 w m lf u)→LsC U6 w m ls vs
 |[],[],_,_=>trivial
 |l::ls,v::vs,hl,h=>by
  refine⟨?_,B9e ls vs (by simpa using hl) fun j lf hj=>?_⟩
  ·obtain⟨u,h1,h2⟩:=h 0 l rfl;cases h1;exact h2
  ·obtain⟨u,h1,h2⟩:=h (j+1) lf (by simpa using hj);exact⟨u,by simpa using h1,h2⟩
 |[],_::_,hl,_=>by cases hl
 |_::_,[],hl,_=>by cases hl
theorem A4h{w:World}{m:Nat→Nat}{t:Ty6}{x:A4 t}{v:Value}(h:CRep U6 w m (.agg t x) v):∃ vs:List Value,v=.agg vs.toArray∧LsC U6 w m (U6.cells t x) vs:=by
 obtain⟨vs,hv,hl,cs,h1,h2⟩:=A55 h;exact⟨vs,hv,B9e _ _ (by rw[u6_ok.len,hl]) fun j lf hj=>⟨_,h1 j lf hj,h2 j lf hj⟩⟩
theorem U5{w:World}{m:Nat→Nat}{t:Ty6}{x:A4 t}{vs:List Value}(h:LsC U6 w m (U6.cells t x) vs):CRep U6 w m (.agg t x) (.agg vs.toArray):=by
 have hl:=h.len;rw[u6_ok.len]at hl;refine .agg t x vs hl.symm (fun j=>vs.getD j undef) (fun j lf hj=>?_) fun j lf hj=>?_
 ·obtain⟨u,h1,h2⟩:=h.get j lf hj;rw[Fa,h1];rfl
 ·obtain⟨u,h1,h2⟩:=h.get j lf hj;rw[Fa,h1];exact h2
def D5(s:List UInt8):Value:=.string ⟨s.toArray⟩
def J5(p:C2):List Value:=[.int .i64 p.line,.int .i64 p.col]
def L1(t:A1):List Value:=[.int .i64 t.kind,.int .i64 t.pos.line,.int .i64 t.pos.col,.int .i64 t.from_,.int .i64 t.to_,D5 t.text,D5 t.value]
def exV:L6→Option Value
 | .int k n=>some (.int k n)
 | .bool b=>some (.bool b)
 | .str s=>some (D5 s)
 |_=>none
def A7y:List L6→Option (List Value)
 |[]=>some []
 |l::ls=>match exV l,A7y ls with
  |some v,some vs=>some (v::vs)
  |_,_=>none
theorem C9W{w:World}{m:Nat→Nat}{l:L6}{v u:Value}(h:CRep U6 w m l v)(he:exV l=some u):v=u:=by
 cases l<;>simp only[exV,Bw]at he<;>first
  |(cases he;done)
  |(subst he;exact CRep.int_inv h)
  |(subst he;exact CRep.bool_inv h)
  |(subst he;exact CRep.str_inv h)
theorem A8f{w:World}{m:Nat→Nat}:∀{ls:List L6}{vs us:List Value},LsC U6 w m ls vs→A7y ls=some us→vs=us
 |[],[],us,_,he=>by simp only[A7y,Bw]at he;exact he
 |l::ls,v::vs,us,h,he=>by
  simp only[A7y]at he;split at he
  ·rename_i v' o6 h1 h2;cases he;rw[C9W h.1 h1,A8f h.2 h2]
  ·cases he
 |[],_::_,_,h,_=>h.elim
 |_::_,[],_,h,_=>h.elim
theorem C7K{w:World}{m:Nat→Nat}{t:A1}{v:Value}(h:CRep U6 w m (.agg .tok t) v):v=.agg (L1 t).toArray:=by
 obtain⟨vs,hv,hs⟩:=A4h h;rw[hv,A8f hs (us:=L1 t) rfl]
theorem A9G{w:World}{m:Nat→Nat}(t:A1):CRep U6 w m (.agg .tok t) (.agg (L1 t).toArray):=U5 ⟨.int _ _,.int _ _,.int _ _,.int _ _,.int _ _,.str _,.str _,trivial⟩
theorem C46{w:World}{m:Nat→Nat}(t:C2):CRep U6 w m (.agg .pos t) (.agg (J5 t).toArray):=U5 ⟨.int _ _,.int _ _,trivial⟩
theorem A7E{w:World}{m:Nat→Nat}{l:List A1}{v:Value}(h:CRep U6 w m (.sl .tok l none) v){i:Nat}{t:A1}(hi:l[i]?=some t):
  ∃ b off cap,v=.slice (some ⟨b,off,none⟩) l.length cap∧∀(j:Nat) u,(L1 t)[j]?=some u→w.cell? ⟨b,off+i*7+j,none⟩=some u:=by
 obtain⟨b,off,cap,us,hv,_,hl,hc,hr⟩:=B5V h hi;have h1:=C7K hr;have:us=L1 t:=by
  simp only[Ec]at h1;have:=congrArg Fg h1;simpa using this
 subst this;exact⟨b,off,cap,hv,hc⟩
theorem B66{w:World}{m:Nat→Nat}{l:List (List UInt8)}{v:Value}(h:CRep U6 w m (.sl .str l none) v){i:Nat}{t:List UInt8}(hi:l[i]?=some t):
  ∃ b off cap,v=.slice (some ⟨b,off,none⟩) l.length cap∧w.cell? ⟨b,off+i*1,none⟩=some (D5 t):=by
 obtain⟨b,off,cap,us,hv,_,hl,hc,hr⟩:=B5V (t:=.str) h hi;obtain⟨vs,h1,h2⟩:=A4h hr;have:us=vs:=by
  simp only[Ec]at h1;have:=congrArg Fg h1;simpa using this
 subst this
 match us,h2 with
 |[u],⟨h3,_⟩=>
  have:=CRep.str_inv h3;subst this;exact⟨b,off,cap,hv,hc 0 _ rfl⟩
theorem C4a{w:World}{m:Nat→Nat}{l:List (List UInt8)}{v:Value}(h:CRep U6 w m (.sl .str l none) v){i:Nat}{t:List UInt8}(hi:l[i]?=some t):
  ∃ b off cap,v=.slice (some ⟨b,off,none⟩) l.length cap∧w.cell? ⟨b,off+i*1,none⟩=some (D5 t)∧off+i*1<m b:=by
 have jK:=J7 hi;obtain⟨b,off,cap,hv,hc⟩:=B66 h hi;refine⟨b,off,cap,hv,hc,?_⟩;rcases h.sl_cells u6_ok with⟨rfl,_⟩|⟨b',sQ,fo,cs,dj,bc,aS,_⟩
 ·simp at jK
 ·rw[hv]at dj;cases dj;have:off+l.length*1≤m b:=aS;omega
theorem A0D{S:List L6→Option (Bool×E6)}{ls:List L6}{b:Bool}{r:E6}(h:S ls=some (b,r))(hb:b=true):sG S ls=some r:=by
 subst hb;unfold sG;rw[h];rfl
theorem C3K{S:List L6→List (List L6)→Option (Bool×List L6×List (List L6))}{ls:List L6}{cs:List (List L6)}{b:Bool}{r:List L6×List (List L6)}(h:S ls cs=some (b,r))(hb:b=true):sGB S ls cs=some r:=by
 subst hb;unfold sGB;rw[h];rfl
theorem N3{n:Int}(h1: -9223372036854775808≤n)(h2:n<9223372036854775808):Ba .i64 n=n:=by
 exact Go.IntWalk.i64_in n ⟨h1,by omega⟩
theorem A8g{n:Nat}(h:n<4611686018427387904):Ba .i64 ((n:Int)+1)=((n+1:Nat):Int):=by
 have h1:=N3 (n:=(n:Int)+1) (by omega) (by omega);rw[h1];omega
theorem A8c{w0 w':World}{m0 m':Nat→Nat}{M BM:Nat→Prop}{np:Nat}{pv:Nat→Value}(k:KM w0 m0 w' m' M)(hM:∀ b,M b→BM b){ls:List L6}{vs:List Value}(h:LsC U6 w' m' ls vs)(hc:ls.all clL=true)(g:Gh)(hg:g.wm=m'):
  Post U6 ⟨w0,m0,BM,np,pv⟩ g (.tup ls) (.tuple vs.toArray) w':=by
 have cP:∀ d,(Ent.tup ls:E6).has d=true→False:=fun d hd=>by
  simp only[Ent.has,List.any_eq_true]at hd;obtain⟨lf,h1,h2⟩:=hd;rw[A46 ((List.all_eq_true.1 hc) lf h1)]at h2;cases h2
 exact{os:=k.os,tape:=k.tape,output:=k.output,size:=k.size,frame:=fun b hb hn=>by rw[hg];exact k.heap b hb fun e=>hn (hM b e),ext:=by rw[hg];exact k.ext,zero:=by rw[hg];exact k.zero,rep:=⟨vs,rfl,h.rep hg hc⟩,nit:=rfl,tip:=fun d hd=>(cP d hd).elim,disj:=fun d _ _ hd=>(cP d hd).elim,mine:=fun d _ hd=>(cP d hd).elim}
def C8(n:Nat):Value:=.int .i64 (n:Int)
def O1(s:List UInt8):List Value:=[D5 s,.slice none 0 0,.int .i64 0]
structure NodR(w:World)(m:Nat→Nat)(xs:List Value)(N:List G3)(ex:Option Nat):Prop where
 len:xs.length=N.length*3
 sym:∀(i:Nat) nd,N[i]?=some nd→xs[i*3]?=some (D5 nd.sym)
 tok:∀(i:Nat) nd,N[i]?=some nd→xs[i*3+2]?=some (.int .i64 nd.tok)
 kid:∀(i:Nat) nd,N[i]?=some nd→ex≠some i→∃ kv,xs[i*3+1]?=some kv∧CRep U6 w m (.sl .i64 nd.kids none) kv∧(nd.kids=[]→kv=.slice none 0 0)
section
variable {w w':World}{m m':Nat→Nat}{xs:List Value}{N:List G3}{ex:Option Nat}{S:Nat→Prop}
theorem NodR.keep(h:NodR w m xs N ex)(k:KM w m w' m' S):NodR w' m' xs N ex:=
 ⟨h.len,h.sym,h.tok,fun i nd hi he=>by obtain⟨kv,h1,h2,h3⟩:=h.kid i nd hi he;exact⟨kv,h1,h2.mono u6_ok k.ext,h3⟩⟩
theorem A0U{α:Type}{l:List α}{i:Nat}{x:α}(h:l[i]?=some x):i<l.length:=(Dh.1 h).1
theorem NodR.setTok(h:NodR w m xs N ex){n:Nat}{nd:G3}(hn:N[n]?=some nd)(at_:Nat):NodR w m (xs.set (n*3+2) (C8 at_)) (setTok N n nd at_) ex:=by
 have jE:=A0U hn;have rM:n*3+2<xs.length:=by rw[h.len];omega
 have cS:∀(i:Nat) x,(Aev.setTok N n nd at_)[i]?=some x→(i=n∧x={nd with tok:=(at_:Int)})∨(i≠n∧N[i]?=some x):=fun i x hx=>by
  unfold Aev.setTok at hx;rw[Ey]at hx;by_cases hi:n=i
  ·rw[if_pos hi,if_pos jE]at hx;cases hx;exact .inl ⟨hi.symm,rfl⟩
  ·rw[if_neg hi]at hx;exact .inr ⟨Dw hi,hx⟩
 refine⟨by rw[Ck,h.len];unfold Aev.setTok;rw[Ck],fun i x hx=>?_,fun i x hx=>?_,fun i x hx he=>?_⟩
 ·rw[Cl (by omega)];rcases cS i x hx with⟨rfl,rfl⟩|⟨_,h1⟩
  ·exact h.sym _ nd hn
  ·exact h.sym i x h1
 ·rcases cS i x hx with⟨rfl,rfl⟩|⟨h0,h1⟩
  ·rw[Ew rM];rfl
  ·rw[Cl (by omega)];exact h.tok i x h1
 ·rw[Cl (by omega)];rcases cS i x hx with⟨rfl,rfl⟩|⟨h0,h1⟩
  ·exact h.kid _ nd hn he
  ·exact h.kid i x h1 he
theorem NodR.push(h:NodR w m xs N ex)(s:List UInt8)(fY:∀ i,ex=some i→i<N.length):NodR w m (xs++O1 s) (N++[⟨s,[],0⟩]) ex:=by
 have hl:=h.len;have cS:∀(i:Nat) x,(N++[(⟨s,[],0⟩:G3)])[i]?=some x→(i=N.length∧x=⟨s,[],0⟩)∨(i<N.length∧N[i]?=some x):=fun i x hx=>by
  by_cases hi:i<N.length
  ·rw[Do hi]at hx;exact .inr ⟨hi,hx⟩
  ·have h2:=A0U hx;rw[By,Eu]at h2;have h3:i=N.length:=by omega
   subst h3;rw[Ez (Bh _),Nat.sub_self]at hx;cases hx;exact .inl ⟨rfl,rfl⟩
 have ph:∀ j,j<N.length*3→(xs++O1 s)[j]?=xs[j]? :=fun j hj=>Do (by omega);have new:∀ j,(xs++O1 s)[N.length*3+j]?=(O1 s)[j]? :=fun j=>by rw[Ez (by omega),hl];congr 1;omega
 refine⟨by rw[By,By,hl,Eu,Nat.add_mul];rfl,fun i x hx=>?_,fun i x hx=>?_,fun i x hx he=>?_⟩
 ·rcases cS i x hx with⟨rfl,rfl⟩|⟨h0,h1⟩
  ·exact new 0
  ·rw[ph _ (by omega)];exact h.sym i x h1
 ·rcases cS i x hx with⟨rfl,rfl⟩|⟨h0,h1⟩
  ·exact new 2
  ·rw[ph _ (by omega)];exact h.tok i x h1
 ·rcases cS i x hx with⟨rfl,rfl⟩|⟨h0,h1⟩
  ·exact⟨_,new 1,.nil _ _ _ _,fun _=>rfl⟩
  ·rw[ph _ (by omega)];exact h.kid i x h1 he
theorem NodR.setKid{n:Nat}(h:NodR w m xs N (some n))(kv:Value):NodR w m (xs.set (n*3+1) kv) N (some n):=by
 refine⟨by rw[Ck];exact h.len,fun i x hx=>?_,fun i x hx=>?_,fun i x hx he=>?_⟩
 ·rw[Cl (by omega)];exact h.sym i x hx
 ·rw[Cl (by omega)];exact h.tok i x hx
 ·have:n≠i:=fun e=>he (by rw[e]);rw[Cl (by omega)];exact h.kid i x hx he
theorem NodR.open(h:NodR w m xs N none)(n:Nat):NodR w m xs N (some n):=⟨h.len,h.sym,h.tok,fun i nd hi _=>h.kid i nd hi (fun e=>by cases e)⟩
theorem NodR.shut{n:Nat}{nd:G3}{K:List Int}(h:NodR w m xs N (some n))(hn:N[n]?=some nd){kv:Value}(hx:xs[n*3+1]?=some kv)(hk:CRep U6 w m (.sl .i64 K none) kv)(b8:K=[]→kv=.slice none 0 0):NodR w m xs (N.set n {nd with kids:=K}) none:=by
 have jE:=A0U hn;have cS:∀(i:Nat) x,(N.set n {nd with kids:=K})[i]?=some x→(i=n∧x={nd with kids:=K})∨(i≠n∧N[i]?=some x):=fun i x hx=>by
  rw[Ey]at hx;by_cases hi:n=i
  ·rw[if_pos hi,if_pos jE]at hx;cases hx;exact .inl ⟨hi.symm,rfl⟩
  ·rw[if_neg hi]at hx;exact .inr ⟨Dw hi,hx⟩
 refine⟨by rw[Ck];exact h.len,fun i x hx=>?_,fun i x hx=>?_,fun i x fu he=>?_⟩
 ·rcases cS i x hx with⟨rfl,rfl⟩|⟨h0,h1⟩
  ·exact h.sym _ nd hn
  ·exact h.sym i x h1
 ·rcases cS i x hx with⟨rfl,rfl⟩|⟨h0,h1⟩
  ·exact h.tok _ nd hn
  ·exact h.tok i x h1
 ·rcases cS i x fu with⟨rfl,rfl⟩|⟨h0,h1⟩
  ·exact⟨kv,hx,hk,b8⟩
  ·exact h.kid i x h1 (fun e=>h0 (by cases e;rfl))
theorem B2j{t:Ty6}{l:List (A4 t)}{j:Nat}{lf:L6}(h:(flat U6 t l)[j]?=some lf):∃ x,l[j / U6.size t]?=some x∧(U6.cells t x)[j % U6.size t]?=some lf:=by
 have ck:=u6_ok.pos t;have bQ:=A0U h;rw[A2d u6_ok]at bQ;have jM:j / U6.size t<l.length:=(Nat.div_lt_iff_lt_mul ck).2 bQ;refine⟨_,Cm jM,?_⟩;rw[←flat_get u6_ok t l (j / U6.size t) _ (j % U6.size t) (Cm jM) (Nat.mod_lt j ck),Em j (U6.size t)];exact h
theorem NodR.flat(h:NodR w m xs N none):∀(j:Nat)(lf:L6),(Aev.flat U6 .node N)[j]?=some lf→∃ u:Value,xs[j]?=some u∧CRep U6 w m lf u:=fun j lf hj=>by
 obtain⟨x,h1,h2⟩:=B2j (t:=.node) hj;have hs:U6.size .node=3:=rfl;rw[hs]at h1 h2;have hd:=Em j 3;have hm:=Nat.mod_lt j (show 3>0 by decide);generalize j % 3=r at h2 hd hm
 match r,h2,hm with
 |0,h2,_=>cases h2;rw[←hd];exact⟨_,h.sym _ _ h1,.str _⟩
 |1,h2,_=>
  cases h2;rw[←hd];obtain⟨kv,q1,q2,_⟩:=h.kid _ _ h1 (fun e=>by cases e);exact⟨kv,q1,q2⟩
 |2,h2,_=>cases h2;rw[←hd];exact⟨_,h.tok _ _ h1,.int _ _⟩
end
structure DerI(w0:World)(m0:Nat→Nat)(w:World)(m:Nat→Nat)(ρ:Nat→Nat)(N:List G3)(ex:Option Nat)(stk:List Nat)(nv sv vt:Value)(xs:List Value)(bd bz:Nat):Prop where
 sys:Sys w0 m0 (fun _=>False) w m ρ
 arr:ArrN w 3 nv N.length xs
 ar:∀ b,D6 nv=some b→ρ b=4
 rep:NodR w m xs N ex
 stk:ArrN w 1 sv stk.length (stk.reverse.map C8)
 sr:∀ b,D6 sv=some b→ρ b=3
 d:Bk w bd [nv,vt]
 dr:ρ bd=2
 z:Bk w bz [.slice none 0 0,.slice none 0 0]
 zr:ρ bz=1
section
variable {w0 w w':World}{m0 m m' ρ:Nat→Nat}{N:List G3}{ex:Option Nat}{stk:List Nat}{nv sv vt:Value}{xs:List Value}{bd bz:Nat}{S:Nat→Prop}
theorem DerI.z0(h:DerI w0 m0 w m ρ N ex stk nv sv vt xs bd bz):∀ b,w.heap.size≤b→m b=0:=h.sys.z
theorem DerI.step(h:DerI w0 m0 w m ρ N ex stk nv sv vt xs bd bz)(k:KM w m w' m' S)(hS:∀ b,b<w.heap.size→S b→5≤ρ b)(hm:(∀ b, ¬S b)∨m'=m)(r:Nat)(hr:r≠0→m'=m):DerI w0 m0 w' m' (A7 ρ w.heap.size r) N ex stk nv sv vt xs bd bz:=by
 have no:∀ b,b<w.heap.size→ρ b<5→¬S b:=fun b hb aB hs=>by have:=hS b hb hs;omega
 have dg:∀ b,D6 nv=some b→¬S b:=fun b hb=>no b (h.arr.lt hb) (by rw[h.ar b hb];decide);have jN:∀ b,D6 sv=some b→¬S b:=fun b hb=>no b (h.stk.lt hb) (by rw[h.sr b hb];decide);refine⟨h.sys.step k (fun b hb hs=>by have:=hS b hb hs;omega) (fun b hb hs=>?_) r (fun h0 b hb=>by rw[hr h0];exact h.z0 b hb),k.arr h.arr dg,fun b hb=>?_,h.rep.keep k,k.arr h.stk jN,fun b hb=>?_,k.bk h.d (no _ h.d.lt (by rw[h.dr];decide)),?_,k.bk h.z (no _ h.z.lt (by rw[h.zr];decide)),?_⟩
 ·rcases hm with h1|h1
  ·exact absurd hs (h1 b)
  ·rw[h1];exact h.sys.zr b (by have:=hS b hb hs;omega)
 ·rw[A5 (h.arr.lt hb)];exact h.ar b hb
 ·rw[A5 (h.stk.lt hb)];exact h.sr b hb
 ·rw[A5 h.d.lt];exact h.dr
 ·rw[A5 h.z.lt];exact h.zr
theorem DerI.shut(h:DerI w0 m0 w m ρ N ex stk nv sv vt xs bd bz)(k:KM w m w m' S)(hS:∀ b,b<w.heap.size→S b→5≤ρ b):∃ ρ':Nat→Nat,DerI w0 m0 w m' ρ' N ex stk nv sv vt xs bd bz:=by
 classical
 have no:∀ b,b<w.heap.size→ρ b<5→¬S b:=fun b hb aB hs=>by have:=hS b hb hs;omega
 have cS:∀ b,b<w.heap.size→ρ b<5→(if S b then 0 else ρ b)=ρ b:=fun b hb aB=>if_neg (no b hb aB);refine⟨fun b=>if S b then 0 else ρ b,h.sys.close k (fun b hb hs=>by have:=hS b hb hs;omega) (fun b hb=>?_),h.arr,fun b hb=>?_,h.rep.keep k,h.stk,fun b hb=>?_,h.d,?_,h.z,?_⟩
 ·by_cases hs:S b
  ·rw[if_pos hs]at hb;exact absurd rfl hb
  ·rw[if_neg hs]at hb;exact⟨hb,hs⟩
 ·rw[cS b (h.arr.lt hb) (by rw[h.ar b hb];decide)];exact h.ar b hb
 ·rw[cS b (h.stk.lt hb) (by rw[h.sr b hb];decide)];exact h.sr b hb
 ·rw[cS bd h.d.lt (by rw[h.dr];decide)];exact h.dr
 ·rw[cS bz h.z.lt (by rw[h.zr];decide)];exact h.zr
theorem DerI.newStk(h:DerI w0 m0 w m ρ N ex stk nv sv vt xs bd bz){mV:Value}{stk':List Nat}(k:KM w m w' m S)(hS:∀ b,b<w.heap.size→S b→ρ b=3)(cd:ArrN w' 1 mV stk'.length (stk'.reverse.map C8))(hb:∀ b,D6 mV=some b→D6 sv=some b∨w.heap.size≤b):
  DerI w0 m0 w' m (A7 ρ w.heap.size 3) N ex stk' nv mV vt xs bd bz:=by
 have no:∀ b,b<w.heap.size→ρ b≠3→¬S b:=fun b hb az hs=>az (hS b hb hs);refine⟨h.sys.stepM k (fun b hb hs=>by rw[hS b hb hs];decide) 3,k.arr h.arr fun b hb=>no b (h.arr.lt hb) (by rw[h.ar b hb];decide),fun b hb=>?_,h.rep.keep k,cd,fun b h1=>?_,k.bk h.d (no _ h.d.lt (by rw[h.dr];decide)),?_,k.bk h.z (no _ h.z.lt (by rw[h.zr];decide)),?_⟩
 ·rw[A5 (h.arr.lt hb)];exact h.ar b hb
 ·rcases hb b h1 with h2|h2
  ·rw[A5 (h.stk.lt h2)];exact h.sr b h2
  ·exact H1 h2
 ·rw[A5 h.d.lt];exact h.dr
 ·rw[A5 h.z.lt];exact h.zr
theorem DerI.newArr(h:DerI w0 m0 w m ρ N ex stk nv sv vt xs bd bz){gY:Value}{N':List G3}{lE:List Value}{qV:Option Nat}{w1:World}(k:KM w m w1 m S)(hS:∀ b,b<w.heap.size→S b→ρ b=4)(hb:∀ b,D6 gY=some b→D6 nv=some b∨w.heap.size≤b)
  (cd:ArrN w1 3 gY N'.length lE)(aq:NodR w1 m lE N' qV)(k2:KM w1 m w' m (fun b=>b=bd))(hd:Bk w' bd [gY,vt]):
  DerI w0 m0 w' m (A7 ρ w.heap.size 4) N' qV stk gY sv vt lE bd bz:=by
 have no:∀ b,b<w.heap.size→ρ b≠4→¬S b:=fun b hb az hs=>az (hS b hb hs);have dR:=h.sys.stepM k (fun b hb hs=>by rw[hS b hb hs];decide) 4;have iQ:A7 ρ w.heap.size 4 bd=2:=by rw[A5 h.d.lt];exact h.dr
 have wI:∀ b,D6 gY=some b→A7 ρ w.heap.size 4 b=4:=fun b h1=>by
  rcases hb b h1 with h2|h2
  ·rw[A5 (h.arr.lt h2)];exact h.ar b h2
  ·exact H1 h2
 have bL:=k.arr h.stk fun b hb=>no b (h.stk.lt hb) (by rw[h.sr b hb];decide);have wJ:∀ b,D6 sv=some b→A7 ρ w.heap.size 4 b=3:=fun b hb=>by rw[A5 (h.stk.lt hb)];exact h.sr b hb
 have hz:=k.bk h.z (no _ h.z.lt (by rw[h.zr];decide));have ui:A7 ρ w.heap.size 4 bz=1:=by rw[A5 h.z.lt];exact h.zr
 refine⟨dR.stay k2 (fun b _ hs=>by rw[hs,iQ];decide),k2.arr cd fun b hb hs=>?_,wI,aq.keep k2,k2.arr bL fun b hb hs=>?_,wJ,hd,iQ,k2.bk hz fun hs=>?_,ui⟩
 ·have:=wI b hb;rw[hs,iQ]at this;cases this
 ·have:=wJ b hb;rw[hs,iQ]at this;cases this
 ·rw[hs,iQ]at ui;cases ui
theorem DerI.setArr(h:DerI w0 m0 w m ρ N ex stk nv sv vt xs bd bz){N':List G3}{lE:List Value}{qV:Option Nat}{b0:Nat}(mO:D6 nv=some b0)(k:KM w m w' m (fun b=>b=b0))(hl:N'.length=N.length)(cd:ArrN w' 3 nv N.length lE)(aq:NodR w m lE N' qV):
  DerI w0 m0 w' m ρ N' qV stk nv sv vt lE bd bz:=by
 have h4:=h.ar b0 mO;refine⟨h.sys.stay k (fun b _ hs=>by rw[hs,h4];decide),by rw[hl];exact cd,h.ar,aq.keep k,k.arr h.stk fun b hb hs=>?_,h.sr,k.bk h.d fun hs=>?_,h.dr,k.bk h.z fun hs=>?_,h.zr⟩
 ·have:=h.sr b hb;rw[hs,h4]at this;cases this
 ·have:=h.dr;rw[hs,h4]at this;cases this
 ·have:=h.zr;rw[hs,h4]at this;cases this
end
end Go.Aev
namespace Go.Aev
open Go.Proofs
variable {I:Inv}
theorem A6R(hb:HB I):Sound Ai U6 I 174 (sG A28):=F8 A3t hb rfl trivial trivial Tryz.func174 rfl Tryz.call174 (fun ls r h=>by
 unfold sG A28 at h;split at h
 ·exact E2 (C7g NN) rfl h
 ·cases h)
theorem B7d(hb:HB I):Sound Ai U6 I 175 (sG A7w):=F8 B6V hb rfl trivial trivial Tryz.func175 rfl Tryz.call175 (fun ls r h=>by
 unfold sG A7w at h;split at h
 ·exact E2 C9K rfl h
 ·cases h)
theorem C34(hb:HB I):Sound Ai U6 I 121 (sG B1T):=F8 B7l hb rfl ⟨(A6R hb),(B7d hb),trivial⟩ trivial Tryz.func121 rfl Tryz.call121 (fun ls r h=>by
 unfold sG B1T at h;split at h
 ·exact E2 D0m rfl h
 ·cases h)
theorem A6o(hb:HB I):Sound Ai U6 I 53 (sG S53):=F8 E53 hb rfl ⟨(C34 hb),trivial⟩ trivial Tryz.func53 rfl Tryz.call53 (fun ls r h=>by
 unfold sG S53 at h;split at h
 ·exact E2 (B0V NN) rfl h
 ·cases h)
theorem C1j(hb:HB I):Sound Ai U6 I 122 (sG B3Y):=F8 A3M hb rfl trivial trivial Tryz.func122 rfl Tryz.call122 (fun ls r h=>by
 unfold sG B3Y at h;split at h
 ·exact E2 (C1x NN) rfl h
 ·cases h)
end Go.Aev
namespace Go.Aev
open Go.Proofs
variable {I:Inv}
theorem A87(hb:HB I):Sound Ai U6 I 54 (sG S54):=F8 E54 hb rfl ⟨(C1j hb),trivial⟩ trivial Tryz.func54 rfl Tryz.call54 (fun ls r h=>by
 unfold sG S54 at h;split at h
 ·exact E2 (B3w NN) rfl h
 ·cases h)
theorem C67(hb:HB I):Sound Ai U6 I 176 (sG B14):=F8 B7e hb rfl ⟨(A6R hb),trivial⟩ trivial Tryz.func176 rfl Tryz.call176 (fun ls r h=>by
 unfold sG B14 at h;split at h
 ·exact E2 C0H rfl h
 ·cases h)
theorem C8H(hb:HB I):Sound Ai U6 I 123 (sG B1K):=F8 E123 hb rfl ⟨(C67 hb),trivial⟩ trivial Tryz.func123 rfl Tryz.call123 (fun ls r h=>by
 unfold sG B1K at h;split at h
 ·exact E2 (C6h NN) rfl h
 ·cases h)
theorem C5B(hb:HB I):Sound Ai U6 I 177 (sG B2h):=F8 B7j hb rfl ⟨(A6R hb),trivial⟩ trivial Tryz.func177 rfl Tryz.call177 (fun ls r h=>by
 unfold sG B2h at h;split at h
 ·exact E2 C1U rfl h
 ·cases h)
theorem snd208(hb:HB I):Sound Ai U6 I 208 (sG S208):=F8 A0w hb rfl ⟨(A6R hb),trivial⟩ trivial Tryz.func208 rfl Tryz.call208 (fun ls r h=>by
 unfold sG S208 at h;split at h
 ·exact E2 B2f rfl h
 ·cases h)
theorem C5O(hb:HB I):Sound Ai U6 I 178 (sG B2G):=F8 A3A hb rfl ⟨(snd208 hb),trivial⟩ trivial Tryz.func178 rfl Tryz.call178 (fun ls r h=>by
 unfold sG B2G at h;split at h
 ·exact E2 (C78 NN) rfl h
 ·cases h)
theorem D0W(hb:HB I):Sound Ai U6 I 179 (sG B20):=F8 B5a hb rfl ⟨(A6R hb),trivial⟩ trivial Tryz.func179 rfl Tryz.call179 (fun ls r h=>by
 unfold sG B20 at h;split at h
 ·exact E2 C6D rfl h
 ·cases h)
end Go.Aev
namespace Go.Aev
open Go.Proofs
variable {I:Inv}
theorem C9Z(hb:HB I):Sound Ai U6 I 230 (sG B0C):=F8 B4Y hb rfl trivial trivial Tryz.func230 rfl Tryz.call230 (fun ls r h=>by
 unfold sG B0C at h;split at h
 ·exact E2 C3M rfl h
 ·cases h)
theorem C50(hb:HB I):Sound Ai U6 I 231 (sG B3F):=F8 B8v hb rfl trivial trivial Tryz.func231 rfl Tryz.call231 (fun ls r h=>by
 unfold sG B3F at h;split at h
 ·exact E2 D0J rfl h
 ·cases h)
theorem snd209(hb:HB I):Sound Ai U6 I 209 (sG S209):=F8 J3 hb rfl ⟨(C9Z hb),(C50 hb),trivial⟩ trivial Tryz.func209 rfl Tryz.call209 (fun ls r h=>by
 unfold sG S209 at h;split at h
 ·exact E2 (B21 NN) rfl h
 ·cases h)
theorem C9Y(hb:HB I):Sound Ai U6 I 180 (sG B1S):=F8 B5l hb rfl ⟨(snd208 hb),(snd209 hb),trivial⟩ trivial Tryz.func180 rfl Tryz.call180 (fun ls r h=>by
 unfold sG B1S at h;split at h
 ·exact E2 C1n rfl h
 ·cases h)
theorem snd210(hb:HB I):Sound Ai U6 I 210 (sG S210):=F8 M0 hb rfl trivial trivial Tryz.func210 rfl Tryz.call210 (fun ls r h=>by
 unfold sG S210 at h;split at h
 ·exact E2 B3g rfl h
 ·cases h)
theorem C1a(hb:HB I):Sound Ai U6 I 211 (sG B1O):=F8 A3C hb rfl ⟨(snd210 hb),trivial⟩ trivial Tryz.func211 rfl Tryz.call211 (fun ls r h=>by
 unfold sG B1O at h;split at h
 ·exact E2 (C3v NN) rfl h
 ·cases h)
end Go.Aev
namespace Go.Aev
open Go.Proofs
variable {I:Inv}
theorem C9R(hb:HB I):Sound Ai U6 I 213 (sG B0R):=F8 A4e hb rfl trivial trivial Tryz.func213 rfl Tryz.call213 (fun ls r h=>by
 unfold sG B0R at h;split at h
 ·exact E2 (C39 NN) rfl h
 ·cases h)
theorem C63(hb:HB I):Sound Ai U6 I 181 (sG B1A):=F8 B9G hb rfl ⟨(snd210 hb),(C1a hb),hb.s212,(C9R hb),hb.s214,trivial⟩ trivial Tryz.func181 rfl Tryz.call181 (fun ls r h=>by
 unfold sG B1A at h;split at h
 ·exact E2 D0X rfl h
 ·cases h)
theorem C4V(hb:HB I):Sound Ai U6 I 182 (sG B10):=F8 A4b hb rfl ⟨(snd210 hb),trivial⟩ trivial Tryz.func182 rfl Tryz.call182 (fun ls r h=>by
 unfold sG B10 at h;split at h
 ·exact E2 (C2a NN) rfl h
 ·cases h)
theorem C03(hb:HB I):Sound Ai U6 I 124 (sG B0i):=F8 B84 hb rfl ⟨(C5B hb),(C5O hb),(D0W hb),(C9Y hb),(C63 hb),(C4V hb),trivial⟩ trivial Tryz.func124 rfl Tryz.call124 (fun ls r h=>by
 unfold sG B0i at h;split at h
 ·exact E2 C19 rfl h
 ·cases h)
theorem C53(hb:HB I):Sound Ai U6 I 172 (sG B3M):=F8 B5C hb rfl ⟨(B7d hb),trivial⟩ trivial Tryz.func172 rfl Tryz.call172 (fun ls r h=>by
 unfold sG B3M at h;split at h
 ·exact E2 C2K rfl h
 ·cases h)
theorem C9v(hb:HB I):Sound Ai U6 I 125 (sG B3E):=F8 A3R hb rfl ⟨(C53 hb),trivial⟩ trivial Tryz.func125 rfl Tryz.call125 (fun ls r h=>by
 unfold sG B3E at h;split at h
 ·exact E2 (C7s NN) rfl h
 ·cases h)
theorem B2I(hb:HB I):Sound Ai U6 I 55 (sG S55):=F8 E55 hb rfl ⟨(C8H hb),(C03 hb),(C9v hb),trivial⟩ trivial Tryz.func55 rfl Tryz.call55 (fun ls r h=>by
 unfold sG S55 at h;split at h
 ·exact E2 B3V rfl h
 ·cases h)
end Go.Aev
namespace Go.Aev
open Go.Proofs
variable {I:Inv}
theorem B0T(hb:HB I):Sound Ai U6 I 24 (sG S24):=F8 E24 hb rfl ⟨hb.s52,(A6o hb),(A87 hb),(B2I hb),trivial⟩ trivial Tryz.func24 rfl Tryz.call24 (fun ls r h=>by
 unfold sG S24 at h;split at h
 ·exact E2 (C5E NN) rfl h
 ·cases h)
theorem B7X(hb:HB I):H9 Ai U6 I 160 (sGB A9K):=P1 B9y hb rfl trivial trivial Tryz.func160 rfl Tryz.call160 (fun ls cs r h=>by
 unfold sGB A9K at h;split at h
 ·obtain⟨hc,h⟩:=L8 h;simp only[Bd,L5]at hc;obtain⟨rfl,rfl⟩:=hc;exact P0 C8w rfl rfl h
 ·cases h)
theorem A6g(hb:HB I):H9 Ai U6 I 94 (sGB S94):=P1 E94 hb rfl trivial ⟨(B7X hb),trivial⟩ Tryz.func94 rfl Tryz.call94 (fun ls cs r h=>by
 unfold sGB S94 at h;split at h
 ·obtain⟨hc,h⟩:=L8 h;simp only[Bd,L5]at hc;obtain⟨rfl,rfl⟩:=hc;exact P0 C6y rfl rfl h
 ·cases h)
theorem A7J(hb:HB I):Sound Ai U6 I 95 (sG S95):=F8 E95 hb rfl trivial trivial Tryz.func95 rfl Tryz.call95 (fun ls r h=>by
 unfold sG S95 at h;split at h
 ·exact E2 C35 rfl h
 ·cases h)
theorem A2k(hb:HB I):H9 Ai U6 I 100 (sGB A4M):=P1 B6x hb rfl trivial trivial Tryz.func100 rfl Tryz.call100 (fun ls cs r h=>by
 unfold sGB A4M at h;split at h
 ·obtain⟨hc,h⟩:=L8 h;simp only[Bd,L5]at hc;obtain⟨rfl,rfl⟩:=hc;exact P0 C3R rfl rfl h
 ·cases h)
theorem B7L(hb:HB I):H9 Ai U6 I 104 (sGB A8A):=P1 B4i hb rfl trivial ⟨(A6g hb),trivial⟩ Tryz.func104 rfl Tryz.call104 (fun ls cs r h=>by
 unfold sGB A8A at h;split at h
 ·obtain⟨hc,h⟩:=L8 h;simp only[Bd,L5]at hc;obtain⟨rfl,rfl⟩:=hc;exact P0 C8j rfl rfl h
 ·cases h)
theorem B0r(hb:HB I):H9 Ai U6 I 98 (sGB S98):=P1 E98 hb rfl trivial ⟨(A2k hb),(B7L hb),trivial⟩ Tryz.func98 rfl Tryz.call98 (fun ls cs r h=>by
 unfold sGB S98 at h;split at h
 ·obtain⟨hc,h⟩:=L8 h;simp only[Bd,L5]at hc;obtain⟨rfl,rfl⟩:=hc;exact P0 C49 rfl rfl h
 ·cases h)
theorem B2J(hb:HB I):H9 Ai U6 I 96 (sGB S96):=P1 E96 hb rfl trivial ⟨(B0r hb),trivial⟩ Tryz.func96 rfl Tryz.call96 (fun ls cs r h=>by
 unfold sGB S96 at h;split at h
 ·obtain⟨hc,h⟩:=L8 h;simp only[Bd,L5]at hc;obtain⟨rfl,rfl⟩:=hc;exact P0 C4N rfl rfl h
 ·cases h)
end Go.Aev
namespace Go.Aev
open Go.Proofs
variable {I:Inv}
theorem C4S(hb:HB I):H9 Ai U6 I 161 (sGB B1g):=P1 A3o hb rfl trivial ⟨(B7X hb),trivial⟩ Tryz.func161 rfl Tryz.call161 (fun ls cs r h=>by
 unfold sGB B1g at h;split at h
 ·obtain⟨hc,h⟩:=L8 h;simp only[Bd,L5]at hc;obtain⟨rfl,rfl⟩:=hc;exact P0 (C2n NN) rfl rfl h
 ·cases h)
theorem C9S(hb:HB I):H9 Ai U6 I 162 (sGB B1v):=P1 B88 hb rfl trivial ⟨(A2k hb),trivial⟩ Tryz.func162 rfl Tryz.call162 (fun ls cs r h=>by
 unfold sGB B1v at h;split at h
 ·obtain⟨hc,h⟩:=L8 h;simp only[Bd,L5]at hc;obtain⟨rfl,rfl⟩:=hc;exact P0 C28 rfl rfl h
 ·cases h)
theorem A6h(hb:HB I):H9 Ai U6 I 97 (sGB S97):=P1 E97 hb rfl trivial ⟨(C4S hb),(C9S hb),trivial⟩ Tryz.func97 rfl Tryz.call97 (fun ls cs r h=>by
 unfold sGB S97 at h;split at h
 ·obtain⟨hc,h⟩:=L8 h;simp only[Bd,L5]at hc;obtain⟨rfl,rfl⟩:=hc;exact P0 C2E rfl rfl h
 ·cases h)
theorem B3f(hb:HB I):H9 Ai U6 I 103 (sGB B2F):=P1 B5u hb rfl trivial ⟨(A6g hb),(A2k hb),trivial⟩ Tryz.func103 rfl Tryz.call103 (fun ls cs r h=>by
 unfold sGB B2F at h;split at h
 ·obtain⟨hc,h⟩:=L8 h;simp only[Bd,L5]at hc;obtain⟨rfl,rfl⟩:=hc;exact P0 C77 rfl rfl h
 ·cases h)
theorem A2N(hb:HB I):H9 Ai U6 I 42 (sGB S42):=P1 E42 hb rfl trivial ⟨(A2k hb),trivial⟩ Tryz.func42 rfl Tryz.call42 (fun ls cs r h=>by
 unfold sGB S42 at h;split at h
 ·obtain⟨hc,h⟩:=L8 h;simp only[Bd,L5]at hc;obtain⟨rfl,rfl⟩:=hc;exact P0 B0F rfl rfl h
 ·cases h)
theorem A9H(hb:HB I):H9 Ai U6 I 43 (sGB S43):=P1 E43 hb rfl trivial trivial Tryz.func43 rfl Tryz.call43 (fun ls cs r h=>by
 unfold sGB S43 at h;split at h
 ·obtain⟨hc,h⟩:=L8 h;simp only[Bd,L5]at hc;obtain⟨rfl,rfl⟩:=hc;exact P0 C5H rfl rfl h
 ·cases h)
theorem B2H(hb:HB I):H9 Ai U6 I 62 (sGB S62):=P1 E62 hb rfl trivial ⟨hb.s138,trivial⟩ Tryz.func62 rfl Tryz.call62 (fun ls cs r h=>by
 unfold sGB S62 at h;split at h
 ·obtain⟨hc,h⟩:=L8 h;simp only[Bd,L5]at hc;obtain⟨⟨⟨rfl,rfl⟩,⟨rfl,rfl⟩⟩,rfl⟩:=hc;exact P0 B3R rfl rfl h
 ·cases h)
end Go.Aev
namespace Go.Aev
open Go.Proofs
variable {I:Inv}
theorem A5G(hb:HB I):H9 Ai U6 I 27 (sGB S27):=P1 E27 hb rfl trivial ⟨(B2H hb),trivial⟩ Tryz.func27 rfl Tryz.call27 (fun ls cs r h=>by
 unfold sGB S27 at h;split at h
 ·obtain⟨hc,h⟩:=L8 h;simp only[Bd,L5]at hc;obtain⟨⟨⟨rfl,rfl⟩,⟨rfl,rfl⟩⟩,rfl⟩:=hc;exact P0 (B03 NN) rfl rfl h
 ·cases h)
theorem B7F(hb:HB I):Sound Ai U6 I 86 (sG S86):=F8 E86 hb rfl ⟨hb.s155,hb.s156,trivial⟩ trivial Tryz.func86 rfl Tryz.call86 (fun ls r h=>by
 unfold sG S86 at h;split at h
 ·exact E2 C0E rfl h
 ·cases h)
theorem B5H(hb:HB I):H9 Ai U6 I 101 (sGB A7T):=P1 B69 hb rfl trivial ⟨(A5G hb),trivial⟩ Tryz.func101 rfl Tryz.call101 (fun ls cs r h=>by
 unfold sGB A7T at h;split at h
 ·obtain⟨hc,h⟩:=L8 h;simp only[Bd,L5]at hc;obtain⟨⟨⟨rfl,rfl⟩,⟨rfl,rfl⟩⟩,rfl⟩:=hc;exact P0 D0H rfl rfl h
 ·cases h)
end Go.Aev
namespace Go.Aev
open Go.Proofs
variable {I:Inv}
theorem B9z(hb:HB I):∀ d,H9 Ai U6 I 44 (sGB (A8j ((R44 d))))
 |0=>by
  exact⟨Ed,fun ls cs rs av h=>by
   unfold sGB A8j at h;split at h
   ·obtain⟨_,h⟩:=L8 h;cases h
   ·cases h⟩
 |d+1=>by
  have uj:=B9z hb d;exact P1 (E44 ((R44 d))) hb rfl ⟨(B7F hb),trivial⟩ ⟨(A5G hb),uj,(B5H hb),trivial⟩ Tryz.func44 rfl Ed (fun ls cs r h=>by
   unfold sGB A8j at h;split at h
   ·obtain⟨hc,h⟩:=L8 h;simp only[Bd,L5]at hc;obtain⟨⟨⟨rfl,rfl⟩,⟨rfl,rfl⟩⟩,rfl⟩:=hc;exact P0 (B1i NN ((R44 d))) rfl rfl h
   ·cases h)
theorem A7F(hb:HB I):H9 Ai U6 I 44 (sGB S44):=(B9z hb DD)
theorem B1H(hb:HB I):Sound Ai U6 I 15 (sG S15):=F8 E15 hb rfl trivial ⟨hb.s29,(A7F hb),trivial⟩ Tryz.func15 rfl Tryz.call15 (fun ls r h=>by
 unfold sG S15 at h;split at h
 ·exact E2 C6I rfl h
 ·cases h)
theorem A40(hb:HB I):H9 Ai U6 I 32 (sGB S32):=P1 E32 hb rfl trivial trivial Tryz.func32 rfl Tryz.call32 (fun ls cs r h=>by
 unfold sGB S32 at h;split at h
 ·obtain⟨hc,h⟩:=L8 h;simp only[Bd,L5]at hc;obtain⟨⟨rfl,rfl⟩,rfl⟩:=hc;exact P0 A93 rfl rfl h
 ·cases h)
theorem A80(hb:HB I):H9 Ai U6 I 30 (sGB S30):=P1 E30 hb rfl trivial ⟨(A40 hb),trivial⟩ Tryz.func30 rfl Tryz.call30 (fun ls cs r h=>by
 unfold sGB S30 at h;split at h
 ·obtain⟨hc,h⟩:=L8 h;simp only[Bd,L5]at hc;obtain⟨⟨rfl,rfl⟩,rfl⟩:=hc;exact P0 B24 rfl rfl h
 ·cases h)
theorem C7N(hb:HB I):H9 Ai U6 I 102 (sGB B2l):=P1 B9L hb rfl ⟨hb.s163,hb.s164,trivial⟩ ⟨(A40 hb),trivial⟩ Tryz.func102 rfl Tryz.call102 (fun ls cs r h=>by
 unfold sGB B2l at h;split at h
 ·obtain⟨hc,h⟩:=L8 h;simp only[Bd,L5]at hc;obtain⟨⟨rfl,rfl⟩,rfl⟩:=hc;exact P0 C6k rfl rfl h
 ·cases h)
end Go.Aev
namespace Go.Aev
open Go.Proofs
variable {I:Inv}
theorem B2V(hb:HB I):H9 Ai U6 I 49 (sGB S49):=P1 E49 hb rfl trivial ⟨(A40 hb),trivial⟩ Tryz.func49 rfl Tryz.call49 (fun ls cs r h=>by
 unfold sGB S49 at h;split at h
 ·obtain⟨hc,h⟩:=L8 h;simp only[Bd,L5]at hc;obtain⟨⟨rfl,rfl⟩,rfl⟩:=hc;exact P0 (B1P NN) rfl rfl h
 ·cases h)
theorem C2R(hb:HB I):Sound Ai U6 I 19 (sG S19):=F8 E19 hb rfl trivial ⟨(B2V hb),trivial⟩ Tryz.func19 rfl Tryz.call19 (fun ls r h=>by
 unfold sG S19 at h;split at h
 ·exact E2 C6c rfl h
 ·cases h)
theorem A4K(hb:HB I):Sound Ai U6 I 56 (sG S56):=F8 E56 hb rfl trivial trivial Tryz.func56 rfl Tryz.call56 (fun ls r h=>by
 unfold sG S56 at h;split at h
 ·exact E2 B1N rfl h
 ·cases h)
theorem B0N(hb:HB I):Sound Ai U6 I 129 (sG A62):=F8 B6Q hb rfl trivial trivial Tryz.func129 rfl Tryz.call129 (fun ls r h=>by
 unfold sG A62 at h;split at h
 ·exact E2 C40 rfl h
 ·cases h)
theorem A7A(hb:HB I):Sound Ai U6 I 131 (sG A4p):=F8 B5G hb rfl trivial trivial Tryz.func131 rfl Tryz.call131 (fun ls r h=>by
 unfold sG A4p at h;split at h
 ·exact E2 C7y rfl h
 ·cases h)
theorem B1L(hb:HB I):Sound Ai U6 I 183 (sG A6Q):=F8 B8c hb rfl ⟨(A7A hb),trivial⟩ trivial Tryz.func183 rfl Tryz.call183 (fun ls r h=>by
 unfold sG A6Q at h;split at h
 ·exact E2 C4H rfl h
 ·cases h)
theorem C07(hb:HB I):Sound Ai U6 I 126 (sG B2t):=A6p B7t hb rfl ⟨(B0N hb),(A7A hb),(B1L hb),trivial⟩ trivial Tryz.func126 rfl Tryz.call126 (fun ls r h=>by
 unfold sG B2t at h;split at h
 ·exact A6n C9m rfl h
 ·cases h)
theorem C9t(hb:HB I):Sound Ai U6 I 127 (sG B1I):=A6p B7J hb rfl ⟨(B0N hb),(B1L hb),trivial⟩ trivial Tryz.func127 rfl Tryz.call127 (fun ls r h=>by
 unfold sG B1I at h;split at h
 ·exact A6n C4n rfl h
 ·cases h)
end Go.Aev
namespace Go.Aev
open Go.Proofs
variable {I:Inv}
theorem C5F(hb:HB I):Sound Ai U6 I 128 (sG A95):=A6p B6F hb rfl ⟨(A7A hb),(B1L hb),trivial⟩ trivial Tryz.func128 rfl Tryz.call128 (fun ls r h=>by
 unfold sG A95 at h;split at h
 ·exact A6n C4p rfl h
 ·cases h)
theorem B7A(hb:HB I):Sound Ai U6 I 57 (sG S57):=F8 E57 hb rfl ⟨(C07 hb),(C9t hb),(C5F hb),trivial⟩ trivial Tryz.func57 rfl Tryz.call57 (fun ls r h=>by
 unfold sG S57 at h;split at h
 ·exact E2 C4m rfl h
 ·cases h)
theorem C0Z(hb:HB I):Sound Ai U6 I 130 (sG B4a):=F8 B4w hb rfl trivial trivial Tryz.func130 rfl Tryz.call130 (fun ls r h=>by
 unfold sG B4a at h;split at h
 ·exact E2 C3m rfl h
 ·cases h)
theorem B53(hb:HB I):Sound Ai U6 I 58 (sG S58):=F8 E58 hb rfl ⟨(B0N hb),(C0Z hb),(A7A hb),trivial⟩ trivial Tryz.func58 rfl Tryz.call58 (fun ls r h=>by
 unfold sG S58 at h;split at h
 ·exact E2 C1t rfl h
 ·cases h)
theorem A9L(hb:HB I):Sound Ai U6 I 73 (sG S73):=F8 E73 hb rfl trivial trivial Tryz.func73 rfl Tryz.call73 (fun ls r h=>by
 unfold sG S73 at h;split at h
 ·exact E2 C8q rfl h
 ·cases h)
theorem B0Q(hb:HB I):Sound Ai U6 I 146 (sG A6m):=A6p A3N hb rfl trivial trivial Tryz.func146 rfl Tryz.call146 (fun ls r h=>by
 unfold sG A6m at h;split at h
 ·exact A6n (C8u NN) rfl h
 ·cases h)
theorem B1c(hb:HB I):Sound Ai U6 I 77 (sG S77):=F8 E77 hb rfl trivial trivial Tryz.func77 rfl Tryz.call77 (fun ls r h=>by
 unfold sG S77 at h;split at h
 ·exact E2 (C8M NN) rfl h
 ·cases h)
end Go.Aev
namespace Go.Aev
open Go.Proofs
theorem C3i{w0:World}{m0:Nat→Nat}{Q:Exit→Act→World→Prop}{vt sv nv:Value}{depth op:Int}{at_ bz bd:Nat}{a:Act}{w:World}{m ρ:Nat→Nat}{N:List G3}{xs:List Value}{N0 len:Nat}{am:List Nat}(au:N0+(len+am.length)≤1099511627776)(hi:DerI w0 m0 w m ρ N none am nv sv vt xs bd bz)(tm:Tm a 136 [(0,vt),(1,.int .i64 depth),(4,.pointer (some ⟨bz,0,none⟩)),(7,.pointer (some ⟨bd,0,none⟩)),(8,sv),(9,C8 at_),(10,.int .i64 op),(15,C8 N0),(17,.int .i64 ((len:Int) - 1))])
  (hk:∀ a w m ρ sv,Tm a 136 [(0,vt),(1,.int .i64 depth),(4,.pointer (some ⟨bz,0,none⟩)),(7,.pointer (some ⟨bd,0,none⟩)),(8,sv),(9,C8 at_),(10,.int .i64 op)]→DerI w0 m0 w m ρ N none ((Bo len).map (fun i=>N0+i)++am) nv sv vt xs bd bz→Q .normal a w):(A0 Bu [1,1,1,1,1,0,0,0,1,0,1,1,1,1,0,1,0,1,1,1,0,1]).wp Ai Q a w:=by
 generalize hc:(Bo len).map (fun i=>N0+i)=c at hk;have cm:c.length=len:=by rw[←hc,De,Dz]
 have yL:∀ n,n<len→c[n]?=some (N0+n):=fun n hn=>by rw[←hc,Dg,Df hn];rfl
 refine wbl 4 rfl ?_;refine wlp rfl (fun n a w=>∃ m ρ sv,n≤len∧Tm a 136 [(0,vt),(1,.int .i64 depth),(4,.pointer (some ⟨bz,0,none⟩)),(7,.pointer (some ⟨bd,0,none⟩)),(8,sv),(9,C8 at_),(10,.int .i64 op),(15,C8 N0),(17,.int .i64 ((n:Int) - 1))]∧DerI w0 m0 w m ρ N none (c.drop n++am) nv sv vt xs bd bz) len ⟨m,ρ,sv,Bh _,tm,by rw[←cm,Fb,Er];exact hi⟩ ?_;clear tm hi m ρ sv a w;rintro n a w ⟨m,ρ,sv,hn,tm,hi⟩;refine wsq rfl ?_;refine wsq rfl ?_;refine A6 19 2 rfl rfl ?_;refine Pm tm fun a tm=>?_;refine Pv tm (B27 tm) fun a tm=>?_;refine Wn ?_;refine wcn tm rfl _ rfl ?_;cases n with
 |zero=>
  rw[if_neg (by simp)];refine A1f 4 rfl ?_;simp only[Exit.then,Cn,if_true];have tm:=tm.keep [0,1,4,7,8,9,10];exact hk a w m ρ sv tm hi
 |succ n=>
  rw[if_pos (by simp)];refine K4 rfl ?_;show(A0 _ _).wp _ _ _ _;have tm:=tm.keep [0,1,4,7,8,9,10,15,17];have uk:(((n+1:Nat):Int) - 1)=(n:Int):=by omega
  rw[uk]at tm;refine wsq rfl ?_;refine wbl 5 rfl ?_;have cR:Ba .i64 ((N0:Int)+(n:Int))=((N0+n:Nat):Int):=by rw[N3 (by omega) (by omega)];omega
  refine A6 21 7 rfl rfl ?_;refine Pm tm fun a tm=>?_;refine Pm tm fun a tm=>?_;refine Pm tm fun a tm=>?_;refine Pv tm (A1e tm) fun a tm=>?_;rw[cR]at tm;refine Bf rfl fun K hK=>A04 tm A0o tz3 rfl rfl rfl rfl rfl (us:=[C8 (N0+n)]) rfl rfl rfl (by decide) (by decide) fun a tm=>hK _ _ ?_;have dU:=G7 w m (.cells [C8 (N0+n)].toArray 3) hi.z0;have bP:=hi.step dU (fun b _ h=>h.elim) (.inl fun _ h=>h) 0 (fun h=>absurd rfl h);have dg:ArrN (w.alloc (.cells [C8 (N0+n)].toArray 3)) 1 (.slice (some ⟨w.heap.size,0,none⟩) 1 1) 1 [C8 (N0+n)]:=A0Y (w:=w) rfl rfl (Bh _) (by simp) (fun j x hj=>by simpa using hj);obtain⟨ie,z,e1,e2,e3,e4,e5⟩:=V9 tz3;have dm:(c.drop (n+1)++am).length≤1099511627776:=by rw[By,Ev];omega
  obtain⟨mV,w2,ag,aP,cI,cj⟩:=A3g (P:=Ai) (t:=151) (u:=151) (ty:=151) (e:=3) (y:=.slice (some ⟨w.heap.size,0,none⟩) 1 1) (k:=1) (ys:=[C8 (N0+n)]) (m:=m) A0o (.inl ⟨3,A0o⟩) e1 e2 e4 (by rw[e5];rfl) bP.stk (by simp[Dp]) (dg.first _) rfl (fun x hx=>by rcases Dc.1 hx with rfl;rfl) (fun b hb=>bP.sys.zr b (by rw[bP.sr b hb];decide)) bP.z0 (by rw[e3];omega) (by rw[e3];decide);refine Bf rfl fun K hK=>A25 tm rfl rfl rfl rfl rfl rfl rfl rfl ag fun a tm=>hK _ _ ?_;refine Pa tm fun a tm=>?_;refine Bg ?_;show(A0 _ _).wp _ _ _ _;refine A6 20 3 rfl rfl ?_;refine Pm tm fun a tm=>?_;refine Pv tm (S2 tm) fun a tm=>?_;refine Pa tm fun a tm=>?_;refine Bg ?_;have iQ:c.drop n=(N0+n)::c.drop (n+1):=by
   have h1:=yL n (by omega);have h2:=(Dh.1 h1);rw[Fc h2.1,h2.2]
  have aT:=bP.newStk (stk':=c.drop n++am) cI (fun b _ hs=>bP.sr b hs) (by rw[iQ,Fe,Dn,Dm,Cj];exact aP) cj;have hw:Ba .i64 ((n:Int) - 1)=(n:Int) - 1:=N3 (by omega) (by omega);rw[hw]at tm;exact⟨n,Cf n,m,_,mV,by omega,tm.sub ⟨rfl,rfl,rfl,rfl,rfl,rfl,rfl,rfl,rfl,trivial⟩,aT⟩
theorem KI(l:Nat)(i:Nat):(Bo (i+1)).map (fun j=>C8 (l+j))=(Bo i).map (fun j=>C8 (l+j))++[C8 (l+i)]:=by
 rw[List.range_succ,Cj];rfl
theorem C0l{w0:World}{m0:Nat→Nat}{Q:Exit→Act→World→Prop}{vt vr sv nv:Value}{depth op:Int}{at_ bz bd:Nat}{a:Act}{w:World}{m ρ:Nat→Nat}{N:List G3}{xs:List Value}{n:Nat}{nd:G3}{r:List (List UInt8)}{stk:List Nat}(hN:N[n]?=some nd)(eB:nd.kids=[])(au:N.length+r.length≤1099511627776)(hi:DerI w0 m0 w m ρ N none stk nv sv vt xs bd bz)(co:CRep U6 w m (.sl .str r none) vr)
  (tm:Tm a 136 [(0,vt),(1,.int .i64 depth),(4,.pointer (some ⟨bz,0,none⟩)),(7,.pointer (some ⟨bd,0,none⟩)),(8,sv),(9,C8 at_),(10,.int .i64 op),(11,C8 n),(14,vr),(15,C8 N.length),(16,C8 0)])
  (hk:∀ a w m ρ nv xs,Tm a 136 [(0,vt),(1,.int .i64 depth),(4,.pointer (some ⟨bz,0,none⟩)),(7,.pointer (some ⟨bd,0,none⟩)),(8,sv),(9,C8 at_),(10,.int .i64 op),(14,vr),(15,C8 N.length)]→DerI w0 m0 w m ρ (A6q N n nd r) none stk nv sv vt xs bd bz→CRep U6 w m (.sl .str r none) vr→Q .normal a w):(A0 Bu [1,1,1,1,1,0,0,0,1,0,1,1,1,1,0,1,0,1,1,0,1]).wp Ai Q a w:=by
 have jE:=A0U hN;obtain⟨Ax,sM,ul,od⟩:=hi.rep.kid n nd hN (fun e=>by cases e);have od:=od eB;subst od;refine wbl 2 rfl ?_;refine wlp rfl (fun q a w=>∃ i m ρ nv xs kv,q=r.length - i∧i≤r.length∧Tm a 136 [(0,vt),(1,.int .i64 depth),(4,.pointer (some ⟨bz,0,none⟩)),(7,.pointer (some ⟨bd,0,none⟩)),(8,sv),(9,C8 at_),(10,.int .i64 op),(11,C8 n),(14,vr),(15,C8 N.length),(16,C8 i)]∧DerI w0 m0 w m ρ (N++(r.take i).map (fun s=>(⟨s,[],0⟩:G3))) (some n) stk nv sv vt xs bd bz∧xs[n*3+1]?=some kv∧ArrN w 1 kv i ((Bo i).map fun j=>C8 (N.length+j))∧(∀ b,D6 kv=some b→ρ b=5)∧CRep U6 w m (.sl .str r none) vr∧(i=0→kv=.slice none 0 0)) r.length ⟨0,m,ρ,nv,xs,.slice none 0 0,rfl,Nat.zero_le _,tm,?_,sM,ArrN.nil,fun b hb=>by simp[D6]at hb,co,fun _=>rfl⟩ ?_
 ·rw[List.take_zero,List.map_nil,List.append_nil];exact{hi with rep:=hi.rep.open n}
 clear tm hi co sM ul m ρ nv xs a w;rintro q a w ⟨i,m,ρ,nv,xs,kv,rfl,Ay,tm,hi,hx,jF,bA,co,b8⟩;obtain⟨ra,um,oe⟩:=co.sl_inv;have un:(N++(r.take i).map (fun s=>(⟨s,[],0⟩:G3))).length=N.length+i:=by rw[By,De,Et];omega
 refine wsq rfl ?_;refine wsq rfl ?_;refine A6 14 4 rfl rfl ?_;refine Pm tm fun a tm=>?_;refine Pm tm fun a tm=>?_;refine Pv tm (O4 tm Y4 rfl rfl rfl rfl rfl oe) fun a tm=>?_;refine Pv tm (B60 tm) fun a tm=>?_;refine Wn ?_;refine wcn tm rfl _ rfl ?_;have tm:=tm.keep [0,1,4,7,8,9,10,11,14,15,16];by_cases aB:i<r.length
 ·rw[if_pos (by simpa using aB)];refine K4 rfl ?_;show(A0 _ _).wp _ _ _ _;refine wsq rfl ?_;refine wbl 3 rfl ?_;refine wsq rfl ?_;have uo:r[i]?=some r[i]:=Cm aB;generalize r[i]=s at uo;obtain⟨rb,mc,wK,og,pi,jB⟩:=C4a co uo;refine B2O (S:=fun w'=>w'.cell? ⟨bd,0+0,none⟩=some nv∧w'.cell? ⟨rb,mc+i*1,none⟩=some (D5 s)) 10 rfl 16 11 rfl rfl ?_;have kd:=A2j hi.z0;have hi:=hi.step kd (fun b _ h=>h.elim) (.inl fun _ h=>h) 0 (fun h=>absurd rfl h);have bA:∀ b,D6 kv=some b→A7 ρ w.heap.size 0 b=5:=fun b hb=>by rw[A5 (jF.lt hb)];exact bA b hb
  have jF:=kd.arr jF (fun b _ h=>h);have co:=co.mono u6_ok kd.ext;have pi:=(kd.ext.cell _ _ jB).trans pi
  skip
  generalize A7 ρ w.heap.size 0=ρ at hi bA;generalize ({w with drawn:=w.drawn+1}:World)=w at hi jF co pi ⊢;clear kd;have HS:w.cell? ⟨bd,0+0,none⟩=some nv∧w.cell? ⟨rb,mc+i*1,none⟩=some (D5 s):=⟨hi.d.cell rfl,pi⟩;obtain⟨ie,z,e1,e2,e3,e4,e5⟩:=V9 A3y;refine Lt tm 0 rfl (by exact HS) (fun w hS=>C1 tm A3V) fun a tm=>?_;refine Lt tm 1 rfl (by exact HS) (fun w hS=>D9 tm A5r rfl rfl (hS.1)) fun a tm=>?_;refine Lt tm 2 rfl (by exact HS) (fun w hS=>Q9 tm) fun a tm=>?_;refine Lt tm 3 rfl (by exact HS) (fun w hS=>Q9 tm) fun a tm=>?_;refine Lt tm 4 rfl (by exact HS) (fun w hS=>R6 tm Y4 tz9 rfl rfl og rfl rfl aB) fun a tm=>?_;refine Lt tm 5 rfl (by exact HS) (fun w hS=>D9 tm pl9 rfl rfl (hS.2)) fun a tm=>?_;refine Lt tm 6 rfl (by exact HS) (fun w hS=>B4m tm rfl rfl rfl (cs:=(O1 s).toArray) (by kernel_rfl)) fun a tm=>?_;refine A1m (i:=7) (by kernel_rfl) rfl rfl fun K hK=>?_;have dU:=G7 w m (.cells (O1 s).toArray 153) hi.z0;have bP:=hi.step dU (fun b _ h=>h.elim) (.inl fun _ h=>h) 0 (fun h=>absurd rfl h);have fR:∀ b,D6 kv=some b→A7 ρ w.heap.size 0 b=5:=fun b hb=>by rw[A5 (jF.lt hb)];exact bA b hb
  have gN:=dU.arr jF (fun b _ h=>h);have jm:=co.mono u6_ok dU.ext;have kF:=(dU.ext.cell _ _ jB).trans pi;have dg:ArrN (w.alloc (.cells (O1 s).toArray 153)) 3 (.slice (some ⟨w.heap.size,0,none⟩) 1 1) 1 (O1 s):=A0Y (w:=w) rfl rfl (Bh _) (by simp[O1]) (fun j x hj=>by simpa using hj);generalize sf:w.heap.size=wn at*;refine A04 tm A1V A3y rfl rfl rfl rfl rfl (us:=O1 s) rfl rfl rfl (by decide) (by decide) fun a tm=>hK _ _ (fun _=>⟨bP.d.cell rfl,kF⟩) ?_;rw[sf]at tm;generalize (w.alloc (.cells (O1 s).toArray 153))=w at bP gN jm kF dg dU ⊢;have HS:w.cell? ⟨bd,0+0,none⟩=some nv∧w.cell? ⟨rb,mc+i*1,none⟩=some (D5 s):=⟨bP.d.cell rfl,kF⟩;refine A1m (i:=8) (by kernel_rfl) rfl rfl fun K hK=>?_;obtain⟨gY,w2,ag,aP,cI,cj⟩:=A3g (P:=Ai) (t:=95) (u:=95) (ty:=95) (e:=153) (y:=.slice (some ⟨wn,0,none⟩) 1 1) (k:=1) (ys:=O1 s) (m:=m) A1V (.inl ⟨153,A1V⟩) e1 e2 e4 (by rw[e5];rfl) bP.arr (by simp[Dp]) (dg.first _) rfl (fun x hx=>by simp only[O1,Bi,Bm,or_false]at hx;rcases hx with rfl|rfl|rfl<;>rfl) (fun b hb=>bP.sys.zr b (by rw[bP.ar b hb];decide)) bP.z0 (by rw[e3,un];omega) (by rw[e3];decide);have jf:=cI.bk bP.d (fun hs=>by have:=bP.ar bd hs;rw[bP.dr]at this;cases this);have oh:=(cI.ext.cell _ _ jB).trans kF;refine A25 tm rfl rfl rfl rfl rfl rfl rfl rfl ag fun a tm=>hK _ _ (fun _=>⟨jf.cell rfl,oh⟩) ?_;have HS:w2.cell? ⟨bd,0+0,none⟩=some nv∧w2.cell? ⟨rb,mc+i*1,none⟩=some (D5 s):=⟨jf.cell rfl,oh⟩;refine Lt tm 9 rfl (by exact HS) (fun w hS=>C1 tm A3V) fun a tm=>?_;refine A1m (i:=10) (by kernel_rfl) rfl rfl fun K hK=>?_;obtain⟨q1,q2,q3⟩:=jf.store (m:=m) Ai (off:=0) (vs:=[gY]) (by simp) (fun v hv=>by rcases Dc.1 hv with rfl;obtain⟨pa,iB,rfl⟩:=aP.len;rfl) (bP.sys.zr bd (by rw[bP.dr];decide)) cI.zero;have uq:gY.cells=[gY].toArray:=by obtain⟨pa,iB,rfl⟩:=aP.len;rfl
  refine G9 tm C65 rfl rfl rfl rfl (us:=[gY]) uq rfl q1 (hK _ _ (fun h=>absurd rfl h) ?_);refine B2r (by kernel_rfl) ?_ _;have fY:∀ j,some n=some j→j<(N++(r.take i).map (fun s=>(⟨s,[],0⟩:G3))).length:=fun j e=>by cases e;rw[un];omega
  have dp:=(bP.rep.keep cI).push s fY;have o7:N++(r.take i).map (fun s=>(⟨s,[],0⟩:G3))++[(⟨s,[],0⟩:G3)]=N++(r.take (i+1)).map (fun s=>(⟨s,[],0⟩:G3)):=by
   rw[List.take_add_one,uo,Cj,List.append_assoc];rfl
  rw[o7]at dp;have ol:(N++(r.take (i+1)).map (fun s=>(⟨s,[],0⟩:G3))).length=N.length+(i+1):=by rw[By,De,Et];omega
  have kG:ArrN w2 3 gY (N++(r.take (i+1)).map (fun s=>(⟨s,[],0⟩:G3))).length (xs++O1 s):=by rw[ol, ←En, ←un];exact aP
  have aT:=bP.newArr cI (fun b _ hs=>bP.ar b hs) cj kG dp q3 q2;have iC:∀ b,D6 kv=some b→A7 (A7 ρ wn 0) w.heap.size 4 b=5:=fun b hb=>by rw[A5 (gN.lt hb)];exact fR b hb
  have mg:=q3.arr (cI.arr gN (fun b hb hs=>by have h1:=fR b hb;rw[bP.ar b hs]at h1;cases h1)) (fun b hb hs=>by have h1:=fR b hb;rw[hs,bP.dr]at h1;cases h1);have kH:=(jm.mono u6_ok cI.ext).mono u6_ok q3.ext;have fu:(xs++O1 s)[n*3+1]?=some kv:=by rw[Do (A0U hx)];exact hx
  generalize A7 (A7 ρ wn 0) w.heap.size 4=ρ at aT iC;generalize (C3 w2 bd 0 [gY])=w at aT mg kH ⊢;clear bP fR gN jm kF dg dU hi bA jF co pi HS ag aP cI cj jf oh q1 q2 q3 dp kG hx;have tm:=tm.keep [0,1,4,7,8,9,10,11,14,15,16];show(A0 _ _).wp _ _ _ _;obtain⟨nb,om,lx,qW,dZ,eh,kI⟩:=aT.arr.at fu;have wL:n<(N++(r.take (i+1)).map (fun s=>(⟨s,[],0⟩:G3))).length:=by rw[ol];omega
  refine B2O (S:=fun w'=>w'.cell? ⟨bd,0+0,none⟩=some gY∧w'.cell? ⟨nb,0+n*3+1,none⟩=some kv) 16 rfl 17 17 rfl rfl ?_;have kd:=A2j aT.z0;have hi:=aT.step kd (fun b _ h=>h.elim) (.inl fun _ h=>h) 0 (fun h=>absurd rfl h);have bA:∀ b,D6 kv=some b→A7 ρ w.heap.size 0 b=5:=fun b hb=>by rw[A5 (mg.lt hb)];exact iC b hb
  have jF:=kd.arr mg (fun b _ h=>h);have co:=kH.mono u6_ok kd.ext;generalize A7 ρ w.heap.size 0=ρ at hi bA;generalize ({w with drawn:=w.drawn+1}:World)=w at hi jF co ⊢;clear kd aT iC mg kH eh kI;have fc:∀{w:World}{ρ:Nat→Nat}{x:Value}{xs:List Value}{M:List G3}{e:Option Nat},DerI w0 m0 w m ρ M e stk gY sv vt xs bd bz→xs[n*3+1]?=some x→w.cell? ⟨nb,0+n*3+1,none⟩=some x∧w.frozen? ⟨nb,0+n*3+1,none⟩=false:=fun{w}{ρ}{x}{xs}{M}{e} hi hx=>by
   obtain⟨Az,wM,oo,_,_,h4,h5⟩:=hi.arr.at hx;rw[lx]at oo;simp only[Fj,Bw,Addr.mk.injEq]at oo;obtain⟨⟨rfl,_⟩,_⟩:=oo;rw[Bl];exact⟨h4,h5⟩
  have HS:w.cell? ⟨bd,0+0,none⟩=some gY∧w.cell? ⟨nb,0+n*3+1,none⟩=some kv:=⟨hi.d.cell rfl,(fc hi fu).1⟩;obtain⟨AA,z2,d1,d2,d3,d4,d5⟩:=V9 tz3;have cR:Ba .i64 ((N.length:Int)+(i:Int))=((N.length+i:Nat):Int):=by rw[N3 (by omega) (by omega)];omega
  refine Lt tm 0 rfl (by exact HS) (fun w hS=>C1 tm A3V) fun a tm=>?_;refine Lt tm 1 rfl (by exact HS) (fun w hS=>D9 tm A5r rfl rfl (hS.1)) fun a tm=>?_;refine Lt tm 2 rfl (by exact HS) (fun w hS=>Q9 tm) fun a tm=>?_;refine Lt tm 3 rfl (by exact HS) (fun w hS=>C1 tm A3V) fun a tm=>?_;refine Lt tm 4 rfl (by exact HS) (fun w hS=>D9 tm A5r rfl rfl (hS.1)) fun a tm=>?_;refine Lt tm 5 rfl (by exact HS) (fun w hS=>Q9 tm) fun a tm=>?_;refine Lt tm 6 rfl (by exact HS) (fun w hS=>R6 tm A1V A3y rfl rfl lx rfl rfl wL) fun a tm=>?_;refine Lt tm 7 rfl (by exact HS) (fun w hS=>C1 tm B4S) fun a tm=>?_;refine Lt tm 8 rfl (by exact HS) (fun w hS=>D9 tm C0y rfl rfl (hS.2)) fun a tm=>?_;refine Lt tm 9 rfl (by exact HS) (fun w hS=>Q9 tm) fun a tm=>?_;refine Lt tm 10 rfl (by exact HS) (fun w hS=>Q9 tm) fun a tm=>?_;refine Lt tm 11 rfl (by exact HS) (fun w hS=>A1e tm) fun a tm=>?_;refine A1m (i:=12) (by kernel_rfl) rfl rfl fun K hK=>?_;rw[cR]at tm;have dU:=G7 w m (.cells [C8 (N.length+i)].toArray 3) hi.z0;have bP:=hi.step dU (fun b _ h=>h.elim) (.inl fun _ h=>h) 0 (fun h=>absurd rfl h);have fR:∀ b,D6 kv=some b→A7 ρ w.heap.size 0 b=5:=fun b hb=>by rw[A5 (jF.lt hb)];exact bA b hb
  have gN:=dU.arr jF (fun b _ h=>h);have jm:=co.mono u6_ok dU.ext;have dg:ArrN (w.alloc (.cells [C8 (N.length+i)].toArray 3)) 1 (.slice (some ⟨w.heap.size,0,none⟩) 1 1) 1 [C8 (N.length+i)]:=A0Y (w:=w) rfl rfl (Bh _) (by simp) (fun j x hj=>by simpa using hj);generalize sf:w.heap.size=ur at bP fR dg;refine A04 tm A0o tz3 rfl rfl rfl rfl rfl (us:=[C8 (N.length+i)]) rfl rfl rfl (by decide) (by decide) fun a tm=>hK _ _ (fun _=>⟨bP.d.cell rfl,(fc bP fu).1⟩) ?_;rw[sf]at tm;generalize (w.alloc (.cells [C8 (N.length+i)].toArray 3))=w at bP gN jm dg dU ⊢;refine A1m (i:=13) (by kernel_rfl) rfl rfl fun K hK=>?_;obtain⟨mW,w2,ag,aP,cI,cj⟩:=A3g (P:=Ai) (t:=151) (u:=151) (ty:=151) (e:=3) (y:=.slice (some ⟨ur,0,none⟩) 1 1) (k:=1) (ys:=[C8 (N.length+i)]) (m:=m) A0o (.inl ⟨3,A0o⟩) d1 d2 d4 (by rw[d5];rfl) gN (by simp[Dp]) (dg.first _) rfl (fun x hx=>by rcases Dc.1 hx with rfl;rfl) (fun b hb=>bP.sys.zr b (by rw[fR b hb];decide)) bP.z0 (by rw[d3];omega) (by rw[d3];decide);have aT:=bP.step cI (fun b _ hs=>by rw[fR b hs];decide) (.inr rfl) 5 (fun _=>rfl);have og:=jm.mono u6_ok cI.ext;have iC:∀ b,D6 mW=some b→A7 (A7 ρ ur 0) w.heap.size 5 b=5:=fun b hb=>by
   rcases cj b hb with h|h
   ·rw[A5 (gN.lt h)];exact fR b h
   ·exact H1 h
  refine A25 tm rfl rfl rfl rfl rfl rfl rfl rfl ag fun a tm=>hK _ _ (fun _=>⟨aT.d.cell rfl,(fc aT fu).1⟩) ?_;generalize A7 (A7 ρ ur 0) w.heap.size 5=ρ at aT iC;refine A1m (i:=14) (by kernel_rfl) rfl rfl fun K hK=>?_;refine A1s tm rfl rfl (R6 tm A1V A3y rfl rfl lx rfl rfl wL) fun a tm=>hK _ _ (fun _=>⟨aT.d.cell rfl,(fc aT fu).1⟩) ?_;refine A1m (i:=15) (by kernel_rfl) rfl rfl fun K hK=>?_;refine A1s tm rfl rfl (C1 tm B4S rfl rfl) fun a tm=>hK _ _ (fun _=>⟨aT.d.cell rfl,(fc aT fu).1⟩) ?_;refine A1m (i:=16) (by kernel_rfl) rfl rfl fun K hK=>?_;have ut:mW.cells= #[mW]:=by obtain⟨pa,iB,rfl⟩:=aP.len;rfl
  have uw:mW.oneCell'=true:=by obtain⟨pa,iB,rfl⟩:=aP.len;rfl
  refine B8Y (sz:=1) tm C3c rfl rfl rfl rfl ut uw (fc aT fu).1 (fc aT fu).2 (hK _ _ (fun h=>absurd rfl h) ?_);refine B2r (by kernel_rfl) ?_ _;have kJ:(⟨nb,0+n*3+1,none⟩:Addr)=⟨nb,n*3+1,none⟩:=by rw[Bl]
  rw[kJ];have kK:=aT.arr.set (j:=n*3+1) (by rw[ol];omega) lx mW;have qX:=B4z w2 m (b:=nb) (off:=n*3+1) mW (aT.sys.zr nb (by rw[aT.ar nb dZ];decide)) aT.z0;have du:=aT.setArr dZ qX rfl kK (aT.rep.setKid mW);have qY:=qX.arr aP (fun b hb hs=>by have h1:=iC b hb;rw[hs,aT.ar nb dZ]at h1;cases h1);rw[←KI]at qY;have ux:=og.mono u6_ok qX.ext;show(A0 _ _).wp _ _ _ _;have tm:=tm.keep [0,1,4,7,8,9,10,11,14,15,16];refine A6 15 3 rfl rfl ?_;refine Pm tm fun a tm=>?_;refine Pv tm (A1e tm) fun a tm=>?_;refine Pa tm fun a tm=>?_;refine Bg ?_;have qZ:Ba .i64 ((i:Int)+1)=((i+1:Nat):Int):=A8g (by omega);rw[qZ]at tm;exact⟨r.length - (i+1),by omega,i+1,m,ρ,gY,_,mW,rfl,by omega,tm.sub ⟨rfl,rfl,rfl,rfl,rfl,rfl,rfl,rfl,rfl,rfl,rfl,trivial⟩,du,Ew (A0U fu),qY,iC,ux,fun h=>by omega⟩
 ·rw[if_neg (by simpa using aB)];refine A1f 2 rfl ?_;simp only[Exit.then,Cn,if_true];have bR:i=r.length:=by omega
  subst bR;rw[List.take_length]at hi;have iL:∀(j:Nat)(lf:L6),(flat U6 .i64 ((Bo r.length).map fun i=>((N.length+i:Nat):Int)))[j]?=some lf→∃ u:Value,((Bo r.length).map fun j=>C8 (N.length+j))[j]?=some u∧CRep U6 w m lf u:=fun j lf hj=>by
   obtain⟨x,h1,h2⟩:=B2j (t:=.i64) hj;have hs:U6.size .i64=1:=rfl;rw[hs,Nat.div_one]at h1;rw[hs,Nat.mod_one]at h2;have h3:=A0U h1;rw[De,Dz]at h3;rw[Dg,Df h3]at h1;cases h1;cases h2;exact⟨_,by rw[Dg,Df h3];rfl,.int _ _⟩
  obtain⟨m',cm,ly⟩:=A5P (U:=U6) u6_ok (t:=.i64) (l:=(Bo r.length).map fun i=>((N.length+i:Nat):Int)) jF (by simp) iL (fun b hb=>hi.sys.zr b (by rw[bA b hb];decide)) hi.z0;obtain⟨ρ',aT⟩:=hi.shut ly (fun b _ hs=>by rw[bA b hs];decide);have o7:(N++r.map (fun s=>(⟨s,[],0⟩:G3)))[n]?=some nd:=by rw[Do jE];exact hN
  have mX:=aT.rep.shut o7 hx cm (fun h0=>b8 (by simpa using h0));have hg:(N++r.map (fun s=>(⟨s,[],0⟩:G3))).set n {nd with kids:=(Bo r.length).map fun i=>((N.length+i:Nat):Int)}=A6q N n nd r:=by
   unfold A6q;rw[List.set_append_left _ _ jE]
  rw[hg]at mX;have yM:(A6q N n nd r).length=(N++r.map (fun s=>(⟨s,[],0⟩:G3))).length:=by rw[←hg,Ck]
  exact hk a w m' ρ' nv xs (tm.sub ⟨rfl,rfl,rfl,rfl,rfl,rfl,rfl,rfl,rfl,trivial⟩) {aT with arr:=by(rw[yM];exact aT.arr),rep:=mX} (co.mono u6_ok ly.ext)
theorem C5j{Q:Exit→Act→World→Prop}{vt sv:Value}{depth op:Int}{at_ bz bd n:Nat}{sym:List UInt8}{a:Act}{w:World}(tm:Tm a 136 [(0,vt),(1,.int .i64 depth),(4,.pointer (some ⟨bz,0,none⟩)),(7,.pointer (some ⟨bd,0,none⟩)),(8,sv),(9,C8 at_),(10,.int .i64 op),(11,C8 n),(12,D5 sym),(107,D5 sym)])(hk:∀ a,Tm a 136 [(0,vt),(1,.int .i64 depth),(4,.pointer (some ⟨bz,0,none⟩)),(7,.pointer (some ⟨bd,0,none⟩)),(8,sv),(9,C8 at_),(10,.int .i64 op),(11,C8 n),(12,D5 sym),(107,D5 sym),(108,.bool (A0d sym))]→Q .normal a w):(A0 Bu [1,1,1,1,1,0,0,0,1,0,1,1,1,1,1,1,0,1,0,0]).wp Ai Q a w:=by
 refine wsq rfl ?_;refine A6 25 2 rfl rfl ?_;refine Pv tm (T7 tm rfl (i:=sym) (j:=[40]) rfl rfl) fun a tm=>?_;refine Pa tm fun a tm=>?_;refine Wn ?_;refine wcn tm rfl _ rfl ?_;have tm:=tm.keep [0,1,4,7,8,9,10,11,12,107,108];cases h1:(sym==[40])with
 |true=>
  rw[if_pos rfl];rw[h1]at tm;refine K4 rfl (hk a ?_);rw[show A0d sym=true by unfold A0d;rw[h1];rfl];exact tm
 |false=>
  rw[if_neg (by simp)];refine wsq rfl ?_;refine A6 26 2 rfl rfl ?_;refine Pv tm (T7 tm rfl (i:=sym) (j:=[91]) rfl rfl) fun a tm=>?_;refine Pa tm fun a tm=>?_;refine Wn ?_;refine wcn tm rfl _ rfl ?_;have tm:=tm.keep [0,1,4,7,8,9,10,11,12,107,108];cases h2:(sym==[91])with
  |true=>
   rw[if_pos rfl];rw[h2]at tm;refine K4 rfl (hk a ?_);rw[show A0d sym=true by unfold A0d;rw[h1,h2];rfl];exact tm
  |false=>
   rw[if_neg (by simp)];refine A6 27 2 rfl rfl ?_;refine Pv tm (T7 tm rfl (i:=sym) (j:=[123]) rfl rfl) fun a tm=>?_;refine Pa tm fun a tm=>?_;refine Bg ?_;refine hk _ ?_;rw[show A0d sym=(sym==[123])by unfold A0d;rw[h1,h2];rfl];exact tm.sub (by repeat' constructor)
theorem C6L{Q:Exit→Act→World→Prop}{vt sv:Value}{depth op:Int}{at_ bz bd n:Nat}{sym:List UInt8}{a:Act}{w:World}(tm:Tm a 136 [(0,vt),(1,.int .i64 depth),(4,.pointer (some ⟨bz,0,none⟩)),(7,.pointer (some ⟨bd,0,none⟩)),(8,sv),(9,C8 at_),(10,.int .i64 op),(11,C8 n),(12,D5 sym),(107,D5 sym)])(hk:∀ a,Tm a 136 [(0,vt),(1,.int .i64 depth),(4,.pointer (some ⟨bz,0,none⟩)),(7,.pointer (some ⟨bd,0,none⟩)),(8,sv),(9,C8 at_),(10,.int .i64 op),(11,C8 n),(12,D5 sym),(107,D5 sym),(119,.bool (A1o sym))]→Q .normal a w):(A0 Bu [1,1,1,1,1,0,0,0,1,0,1,1,1,1,1,1,0,1,0,1,1,0]).wp Ai Q a w:=by
 refine wsq rfl ?_;refine A6 31 2 rfl rfl ?_;refine Pv tm (T7 tm rfl (i:=sym) (j:=[41]) rfl rfl) fun a tm=>?_;refine Pa tm fun a tm=>?_;refine Wn ?_;refine wcn tm rfl _ rfl ?_;have tm:=tm.keep [0,1,4,7,8,9,10,11,12,107,119];cases h1:(sym==[41])with
 |true=>
  rw[if_pos rfl];rw[h1]at tm;refine K4 rfl (hk a ?_);rw[show A1o sym=true by unfold A1o;rw[h1];rfl];exact tm
 |false=>
  rw[if_neg (by simp)];refine wsq rfl ?_;refine A6 32 2 rfl rfl ?_;refine Pv tm (T7 tm rfl (i:=sym) (j:=[93]) rfl rfl) fun a tm=>?_;refine Pa tm fun a tm=>?_;refine Wn ?_;refine wcn tm rfl _ rfl ?_;have tm:=tm.keep [0,1,4,7,8,9,10,11,12,107,119];cases h2:(sym==[93])with
  |true=>
   rw[if_pos rfl];rw[h2]at tm;refine K4 rfl (hk a ?_);rw[show A1o sym=true by unfold A1o;rw[h1,h2];rfl];exact tm
  |false=>
   rw[if_neg (by simp)];refine A6 33 2 rfl rfl ?_;refine Pv tm (T7 tm rfl (i:=sym) (j:=[125]) rfl rfl) fun a tm=>?_;refine Pa tm fun a tm=>?_;refine Bg ?_;refine hk _ ?_;rw[show A1o sym=(sym==[125])by unfold A1o;rw[h1,h2];rfl];exact tm.sub (by repeat' constructor)
theorem C21{Q:Exit→Act→World→Prop}{vt sv:Value}{depth op:Int}{at_ bz bd n:Nat}{sym:List UInt8}{a:Act}{w:World}{w0:World}{m0 m ρ:Nat→Nat}{N:List G3}{ex:Option Nat}{stk:List Nat}{nv:Value}{xs:List Value}(hi:DerI w0 m0 w m ρ N ex stk nv sv vt xs bd bz)(tm:Tm a 136 [(0,vt),(1,.int .i64 depth),(4,.pointer (some ⟨bz,0,none⟩)),(7,.pointer (some ⟨bd,0,none⟩)),(8,sv),(9,C8 at_),(10,.int .i64 op),(11,C8 n),(12,D5 sym)])
  (uy:A0d sym=true→depth<Ba .i64 (op+1)→∀ a w m,Tm a 136 [(4,.pointer (some ⟨bz,0,none⟩)),(5,C8 at_),(6,.int .i64 71)]→Bk w bz [.slice none 0 0,.slice none 0 0]→KM w0 m0 w m (fun _=>False)→Q .ret a w)
  (hk:∀ a eF,(A0d sym=true→¬depth<Ba .i64 (op+1)∧eF=Ba .i64 (op+1))→(A0d sym=false→eF=(bif A1o sym then Ba .i64 (op - 1)else op))→Tm a 136 [(0,vt),(1,.int .i64 depth),(4,.pointer (some ⟨bz,0,none⟩)),(7,.pointer (some ⟨bd,0,none⟩)),(8,sv),(9,C8 at_),(10,.int .i64 eF),(11,C8 n),(12,D5 sym)]→Q .normal a w):(A0 Bu [1,1,1,1,1,0,0,0,1,0,1,1,1,1,1,1,0]).wp Ai Q a w:=by
 refine wsq rfl ?_;refine A6 24 1 rfl rfl ?_;refine Pm tm fun a tm=>?_;refine Wn ?_;refine wbl 6 rfl ?_;refine wsq rfl ?_;refine C5j (tm.sub ⟨rfl,rfl,rfl,rfl,rfl,rfl,rfl,rfl,rfl,rfl,trivial⟩) fun a tm=>?_;show(A0 _ _).wp _ _ _ _;refine wcn tm rfl _ rfl ?_;cases ho:A0d sym with
 |true=>
  rw[if_pos rfl];refine wsq rfl ?_;refine A6 28 3 rfl rfl ?_;refine Pm tm fun a tm=>?_;refine Pv tm (A1e tm) fun a tm=>?_;refine Pa tm fun a tm=>?_;refine Wn ?_;refine wsq rfl ?_;refine A6 29 3 rfl rfl ?_;refine Pm tm fun a tm=>?_;refine Pm tm fun a tm=>?_;refine Pv tm (A6O tm) fun a tm=>?_;refine Wn ?_;refine wcn tm rfl _ rfl ?_;have tm:=tm.keep [0,1,4,7,8,9,10,11,12];by_cases hd:depth<Ba .i64 (op+1)
  ·rw[if_pos (by simpa using hd)];refine wsq rfl ?_;obtain⟨q1,q2,q3⟩:=hi.z.store (m:=m) Ai (off:=0) (vs:=[.slice none 0 0,.slice none 0 0]) (by simp) (fun v hv=>by simp only[Bi,Bm,or_false]at hv;rcases hv with rfl|rfl<;>rfl) (hi.sys.zr bz (by rw[hi.zr];decide)) hi.z0;refine A6 30 5 rfl rfl ?_;refine Pv tm (X8 tm rfl rfl (cs:= #[.slice none 0 0,.slice none 0 0]) (by kernel_rfl)) fun a tm=>?_;refine Pm tm fun a tm=>?_;refine Ps tm A2A q1 ?_;refine Pa tm fun a tm=>?_;refine Pa tm fun a tm=>?_;refine Wn ?_;refine P5 rfl ?_;exact uy ho hd _ _ m (tm.sub ⟨rfl,rfl,rfl,trivial⟩) q2 (hi.sys.stay q3 (fun b _ hs=>by rw[hs,hi.zr];decide)).km
  ·rw[if_neg (by simpa using hd)];refine K4 rfl ?_;exact hk a _ (fun _=>⟨hd,rfl⟩) (fun h=>by rw[ho]at h;cases h) tm
 |false=>
  rw[if_neg (by simp)];refine wsq rfl ?_;refine C6L (tm.sub ⟨rfl,rfl,rfl,rfl,rfl,rfl,rfl,rfl,rfl,rfl,trivial⟩) fun a tm=>?_;show(A0 _ _).wp _ _ _ _;refine wcn tm rfl _ rfl ?_;cases hc:A1o sym with
  |true=>
   rw[if_pos rfl];refine A6 34 3 rfl rfl ?_;refine Pm tm fun a tm=>?_;refine Pv tm (S2 tm) fun a tm=>?_;refine Pa tm fun a tm=>?_;refine Bg ?_;exact hk _ _ (fun h=>by rw[ho]at h;cases h) (fun _=>by rw[hc];rfl) (tm.sub ⟨rfl,rfl,rfl,rfl,rfl,rfl,rfl,rfl,rfl,trivial⟩)
  |false=>
   rw[if_neg (by simp)];refine K4 rfl ?_;exact hk _ _ (fun h=>by rw[ho]at h;cases h) (fun _=>by rw[hc];rfl) (tm.sub ⟨rfl,rfl,rfl,rfl,rfl,rfl,rfl,rfl,rfl,trivial⟩)
theorem C7c{Q:Exit→Act→World→Prop}{vt sv:Value}{depth op:Int}{at_ bz bd n:Nat}{sym:List UInt8}{a:Act}{w:World}{w0:World}{m0 m ρ:Nat→Nat}{N:List G3}{stk:List Nat}{nv:Value}{xs:List Value}{nd:G3}(hi:DerI w0 m0 w m ρ N none stk nv sv vt xs bd bz)(hN:N[n]?=some nd)(wN:nd.sym=sym)(uz:at_≤1099511627776)(tm:Tm a 136 [(0,vt),(1,.int .i64 depth),(4,.pointer (some ⟨bz,0,none⟩)),(7,.pointer (some ⟨bd,0,none⟩)),(8,sv),(9,C8 at_),(10,.int .i64 op),(11,C8 n),(12,D5 sym)])
  (hk:∀ a w xs,Tm a 136 [(0,vt),(1,.int .i64 depth),(4,.pointer (some ⟨bz,0,none⟩)),(7,.pointer (some ⟨bd,0,none⟩)),(8,sv),(9,C8 (bif A8P sym then at_ else at_+1)),(10,.int .i64 op)]→DerI w0 m0 w m ρ (setTok N n nd at_) none stk nv sv vt xs bd bz→Q .normal a w):(A0 Bu [1,1,1,1,1,0,0,0,1,0,1,1,1,1,1,1,1]).wp Ai Q a w:=by
 have jE:=A0U hN;have hx:=hi.rep.tok n nd hN;obtain⟨nb,om,lx,qW,dZ,eh,kI⟩:=hi.arr.at hx;have kJ:(⟨nb,0+n*3+2,none⟩:Addr)=⟨nb,n*3+2,none⟩:=by rw[Bl]
 refine wsq rfl ?_;refine A6 35 7 rfl rfl ?_;refine Pv tm (C1 tm A3V) fun a tm=>?_;refine Pv tm (D9 tm A5r rfl rfl (hi.d.cell rfl)) fun a tm=>?_;refine Pm tm fun a tm=>?_;refine Pm tm fun a tm=>?_;refine Pv tm (R6 tm A1V A3y rfl rfl lx rfl rfl jE) fun a tm=>?_;refine Pv tm (C1 tm C5K) fun a tm=>?_;refine Bf rfl fun K hK=>B8Y (sz:=1) tm tz3 rfl rfl rfl rfl rfl rfl (by rw[kJ];exact eh) (by rw[kJ];exact kI) (hK _ _ ?_);refine Bg ?_;rw[kJ];have kK:=hi.arr.set (j:=n*3+2) (by omega) lx (C8 at_);have qX:=B4z w m (b:=nb) (off:=n*3+2) (C8 at_) (hi.sys.zr nb (by rw[hi.ar nb dZ];decide)) hi.z0;have du:=hi.setArr dZ qX (by unfold setTok;rw[Ck]) kK (hi.rep.setTok hN at_);generalize (w.setCell ⟨nb,n*3+2,none⟩ (C8 at_))=w at du ⊢;show(A0 _ _).wp _ _ _ _;refine wsq rfl ?_;have tm:=tm.keep [0,1,4,7,8,9,10,11,12];refine A6 36 2 rfl rfl ?_;refine Pm tm fun a tm=>?_;refine Pv tm (C8Y tm rfl (i:=sym) (j:=[101,110,100]) rfl rfl) fun a tm=>?_;refine Wn ?_;refine wcn tm rfl _ rfl ?_;have tm:=tm.keep [0,1,4,7,8,9,10,11,12];cases he:A8P sym with
 |true=>
  rw[if_neg (by rw[show(sym==[101,110,100])=true from he];simp)];refine K4 rfl ?_;refine hk _ _ _ ?_ du;rw[he];exact tm.sub (by repeat' constructor)
 |false=>
  rw[if_pos (by rw[show(sym==[101,110,100])=false from he];rfl)];refine A6 37 3 rfl rfl ?_;refine Pm tm fun a tm=>?_;refine Pv tm (A1e tm) fun a tm=>?_;refine Pa tm fun a tm=>?_;refine Bg ?_;have hw:Ba .i64 ((at_:Int)+1)=((at_+1:Nat):Int):=A8g (by omega);rw[hw]at tm;refine hk _ _ _ ?_ du;rw[he];exact tm.sub (by repeat' constructor)
def B7z(w0:World)(m0:Nat→Nat)(d:A1t)(at_:Nat)(k:Int)(Q:Exit→Act→World→Prop):Prop:=
 ∀ e a w m (us:List Value),(e=.normal∨e=.ret)→a.defers=[]→(results Bu a.tmps).run Ai w=.ok (.tuple #[.agg us.toArray,C8 at_,.int .i64 k]) w→CRep U6 w m (.agg .tree d) (.agg us.toArray)→KM w0 m0 w m (fun _=>False)→Q e a w
theorem B0w{w0 w:World}{m0 m:Nat→Nat}{d:A1t}{at_:Nat}{k:Int}{Q:Exit→Act→World→Prop}(hQ:B7z w0 m0 d at_ k Q){e:Exit}{a:Act}{bz:Nat}{us:List Value}(he:e=.normal∨e=.ret)(tm:Tm a 136 [(4,.pointer (some ⟨bz,0,none⟩)),(5,C8 at_),(6,.int .i64 k)])(hb:Bk w bz us)(hl:us.length=2)(hr:CRep U6 w m (.agg .tree d) (.agg us.toArray))(hk:KM w0 m0 w m (fun _=>False)):Q e a w:=by
 refine hQ e a w m us he tm.dfr ?_ hr hk;have h4:=tm.get 4 _ rfl;have h5:=tm.get 5 _ rfl;have h6:=tm.get 6 _ rfl;have hl:(loadVar 97 ⟨bz,0,none⟩).run Ai w=.ok (.agg us.toArray) w:=A1S B9k A2A hl (fun j u hj=>by rw[Bl];exact hb.cell hj);exact A1q Ai Bu a w [.cell 4 97,.tmp 5,.tmp 6] (by kernel_rfl) (vs:=[.agg us.toArray,C8 at_,.int .i64 k]) (fun f hf=>by
  simp[hf.tmp,hf.cell,h4,h5,h6,asAddr,hl])
theorem B9u{w:World}{m:Nat→Nat}:CRep U6 w m (.agg .tree ⟨[],[]⟩) (.agg [.slice none 0 0,.slice none 0 0].toArray):=U5 ⟨.nil _ _ _ _,.nil _ _ _ _,trivial⟩
theorem C4I{w:World}{sv:Value}{n:Nat}{am:List Nat}(h:ArrN w 1 sv (n::am).length ((n::am).reverse.map C8)):
  ∃ b cap,sv=.slice (some ⟨b,0,none⟩) (am.length+1) cap∧am.length+1≤cap∧w.cell? ⟨b,0+am.length*1,none⟩=some (C8 n):=by
 obtain⟨b,cap,hv,_,_,aQ,hc⟩:=h.blk (by simp);refine⟨b,cap,hv,aQ,?_⟩;rw[Bl,Dl];exact(hc am.length _ (by simp)).1
theorem C3I{I:Inv}(hb:HB I){w0:World}{m0:Nat→Nat}(hI:I w0 m0)(hz:∀ b,w0.heap.size≤b→m0 b=0){toks:List A1}{depth:Int}{d:A1t}{at0:Nat}{k:Int}{Q:Exit→Act→World→Prop}{vt:Value}{F:Nat}
  (ag:A2B toks depth F [⟨A0P,[],0⟩] [0] 0 0=some (d,at0,k))(cq:toks.length≤1099511627776)(kL:CRep U6 w0 m0 (.sl .tok toks none) vt)(hQ:B7z w0 m0 d at0 k Q){a:Act}(tm:Tm a 136 [(0,vt),(1,.int .i64 depth)]):
  (A0 Bu []).wp Ai Q a w0:=by
 obtain⟨pv,iB,oq⟩:=kL.sl_inv;refine wsq rfl ?_;refine A6 0 3 rfl rfl ?_;refine Bf rfl fun K hK=>K8 tm A2A rfl rfl rfl fun a tm=>hK _ _ ?_;refine Pa tm fun a tm=>?_;refine Pa tm fun a tm=>?_;refine Wn ?_;refine wsq rfl ?_;have k1:=G7 w0 m0 (.cells [.slice none 0 0,.slice none 0 0].toArray 97) hz;have s0:Sys w0 m0 (fun _=>False) w0 m0 (fun _=>0):=⟨KM.refl _ _ _ hz,fun b h=>absurd rfl h,fun b _ h=>absurd rfl h⟩;have s1:=s0.stepM k1 (fun _ _ h=>h.elim) 1;have b1:Bk (w0.alloc (.cells [.slice none 0 0,.slice none 0 0].toArray 97)) w0.heap.size [.slice none 0 0,.slice none 0 0]:=K1;have cJ:A7 (fun _=>0) w0.heap.size 1 w0.heap.size=1:=H1 (Bh _);generalize w0.heap.size=bz at tm s1 b1 cJ;generalize A7 (fun _=>0) bz 1=ρ1 at s1 cJ;generalize (w0.alloc (.cells [.slice none 0 0,.slice none 0 0].toArray 97))=w1 at k1 s1 b1 tm ⊢;refine A6 1 6 rfl rfl ?_;refine Pm tm fun a tm=>?_;refine Pv tm (B4m tm rfl rfl rfl (v:=D5 A0P) (cs:=(O1 A0P).toArray) (by kernel_rfl)) fun a tm=>?_;refine Bf rfl fun K hK=>A04 tm A1V A3y rfl rfl rfl rfl rfl (us:=O1 A0P) rfl rfl rfl (by decide) (by decide) fun a tm=>hK _ _ ?_;have k2:=G7 w1 m0 (.cells (O1 A0P).toArray 153) s1.z;have s2:=s1.stepM k2 (fun _ _ h=>h.elim) 4;have a2:ArrN (w1.alloc (.cells (O1 A0P).toArray 153)) 3 (.slice (some ⟨w1.heap.size,0,none⟩) 1 1) 1 (O1 A0P):=A0Y (w:=w1) rfl rfl (Bh _) (by simp[O1]) (fun j x hj=>by simpa using hj);have cO:A7 ρ1 w1.heap.size 4 w1.heap.size=4:=H1 (Bh _);have cJ:=(A5 (r:=4) b1.lt).trans cJ;have b1:=k2.bk b1 (fun h=>h);generalize w1.heap.size=bn at tm s2 a2 cJ cO;generalize A7 ρ1 bn 4=ρ2 at s2 cJ cO;generalize (w1.alloc (.cells (O1 A0P).toArray 153))=w2 at k2 s2 b1 a2 ⊢;refine Pv tm (A71 tm rfl rfl rfl rfl (cs:= #[.slice (some ⟨bn,0,none⟩) 1 1,vt]) (by rw[oq];kernel_rfl)) fun a tm=>?_;refine Bf rfl fun K hK=>K8 tm A2A rfl rfl rfl fun a tm=>hK _ _ ?_;have k3:=G7 w2 m0 (.cells [.slice none 0 0,.slice none 0 0].toArray 97) s2.z;have s3:=s2.stepM k3 (fun _ _ h=>h.elim) 2;have b3:Bk (w2.alloc (.cells [.slice none 0 0,.slice none 0 0].toArray 97)) w2.heap.size [.slice none 0 0,.slice none 0 0]:=K1;have eU:A7 ρ2 w2.heap.size 2 w2.heap.size=2:=H1 (Bh _);have cJ:=(A5 (r:=2) b1.lt).trans cJ;have cO:=(A5 (r:=2) (a2.lt (X4 (by decide)))).trans cO;have b1:=k3.bk b1 (fun h=>h);have a2:=k3.arr a2 (fun _ _ h=>h);generalize w2.heap.size=bd at tm s3 b3 cJ cO eU;generalize A7 ρ2 bd 2=ρ3 at s3 cJ cO eU;generalize (w2.alloc (.cells [.slice none 0 0,.slice none 0 0].toArray 97))=w3 at k3 s3 b1 a2 b3 ⊢;obtain⟨q1,q2,q3⟩:=b3.store (m:=m0) Ai (off:=0) (vs:=[.slice (some ⟨bn,0,none⟩) 1 1,vt]) (by simp) (fun v hv=>by simp only[Bi,Bm,or_false]at hv;rcases hv with rfl|rfl;rfl;rw[oq];rfl) (s3.zr bd (by rw[eU];decide)) s3.z;refine Ps tm A2A q1 ?_;have s4:=s3.stay q3 (fun b _ hs=>by rw[hs,eU];decide);have b1:=q3.bk b1 (fun hs=>by rw[hs,eU]at cJ;cases cJ);have a2:=q3.arr a2 (fun b hb hs=>by rw[X4 (by decide)]at hb;cases hb;rw[hs,eU]at cO;cases cO);have b3:Bk _ bd [.slice (some ⟨bn,0,none⟩) 1 1,vt]:=q2;generalize (C3 w3 bd 0 [.slice (some ⟨bn,0,none⟩) 1 1,vt])=w4 at s4 b1 a2 b3 ⊢;refine Wn ?_;refine wsq rfl ?_;refine A6 2 2 rfl rfl ?_;refine Bf rfl fun K hK=>A04 tm A0o tz3 rfl rfl rfl rfl rfl (us:=[C8 0]) rfl rfl rfl (by decide) (by decide) fun a tm=>hK _ _ ?_;refine Pa tm fun a tm=>?_;refine Bg ?_;have k5:=G7 w4 m0 (.cells [C8 0].toArray 3) s4.z;have s5:=s4.stepM k5 (fun _ _ h=>h.elim) 3;have a5:ArrN (w4.alloc (.cells [C8 0].toArray 3)) 1 (.slice (some ⟨w4.heap.size,0,none⟩) 1 1) 1 [C8 0]:=A0Y (w:=w4) rfl rfl (Bh _) (by simp) (fun j x hj=>by simpa using hj);have hi:∃ ρ sv,sv=Cp (some ⟨w4.heap.size,0,none⟩) 1 1∧DerI w0 m0 (w4.alloc (.cells [C8 0].toArray 3)) m0 ρ [⟨A0P,[],0⟩] none [0] (.slice (some ⟨bn,0,none⟩) 1 1) sv vt (O1 A0P) bd bz:=by
  refine⟨_,_,rfl,s5,k5.arr a2 (fun _ _ h=>h),fun b hb=>?_,⟨rfl,fun i nd hi=>?_,fun i nd hi=>?_,fun i nd hi _=>?_⟩,a5,fun b hb=>?_,k5.bk b3 (fun h=>h),?_,k5.bk b1 (fun h=>h),?_⟩
  ·have h1:=hb;rw[X4 (by decide)]at hb;cases hb;rw[A5 (a2.lt h1)];exact cO
  ·match i,hi with
   |0,hi=>cases hi;rfl
   |i+1,hi=>simp at hi
  ·match i,hi with
   |0,hi=>cases hi;rfl
   |i+1,hi=>simp at hi
  ·match i,hi with
   |0,hi=>cases hi;exact⟨_,rfl,.nil _ _ _ _,fun _=>rfl⟩
   |i+1,hi=>simp at hi
  ·rw[X4 (by decide)]at hb;cases hb;exact H1 (Bh _)
  ·rw[A5 b3.lt];exact eU
  ·rw[A5 b1.lt];exact cJ
 obtain⟨ρ,sv,kM,hi⟩:=hi;rw[←kM]at tm;generalize (w4.alloc (.cells [C8 0].toArray 3))=w at hi ⊢;generalize (Cp (some ⟨bn,0,none⟩) 1 1)=nv at hi;clear kM k1 s1 k2 s2 k3 s3 q1 q2 q3 s4 b1 a2 b3 k5 s5 a5 cJ cO eU;show(A0 _ _).wp _ _ _ _;refine wsq rfl ?_;refine A6 3 1 rfl rfl ?_;refine Pa tm fun a tm=>?_;refine Wn ?_;refine wsq rfl ?_;refine A6 4 1 rfl rfl ?_;refine Pa tm fun a tm=>?_;refine Wn ?_;refine wsq rfl ?_;refine wbl 0 rfl ?_;refine wlp rfl (fun q a w=>∃ N stk at_ op m ρ nv sv xs,A2B toks depth q N stk at_ op=some (d,at0,k)∧Tm a 136 [(0,vt),(1,.int .i64 depth),(4,.pointer (some ⟨bz,0,none⟩)),(7,.pointer (some ⟨bd,0,none⟩)),(8,sv),(9,C8 at_),(10,.int .i64 op)]∧DerI w0 m0 w m ρ N none stk nv sv vt xs bd bz∧stk.length≤1099511627776) F ⟨_,[0],0,0,m0,ρ,nv,sv,_,ag,tm.sub ⟨rfl,rfl,rfl,rfl,rfl,rfl,rfl,trivial⟩,hi,by simp⟩ ?_;clear tm hi ag s0;rintro q a w ⟨N,stk,at_,op,m,ρ,nv,sv,xs,ag,tm,hi,e8⟩;cases q with
 |zero=>cases ag
 |succ q=>
 obtain⟨pa,cap,kM⟩:=hi.stk.len;refine wsq rfl ?_;refine wsq rfl ?_;refine A6 5 3 rfl rfl ?_;refine Pm tm fun a tm=>?_;refine Pv tm (O4 tm A0o rfl rfl rfl rfl rfl kM) fun a tm=>?_;refine Pv tm (A6O tm) fun a tm=>?_;refine Wn ?_;refine wcn tm rfl _ rfl ?_;cases stk with
 |nil=>
  simp only[A2B,Bw,Ce]at ag;obtain⟨rfl,rfl,rfl⟩:=ag;rw[if_neg (by simp)];refine A1f 0 rfl ?_;simp only[Exit.then,Cn,if_true];show(A0 _ _).wp _ _ _ _;refine wsq rfl ?_;obtain⟨m',cm,ly⟩:=A5P (U:=U6) u6_ok (t:=.node) hi.arr rfl hi.rep.flat (fun b hb=>hi.sys.zr b (by rw[hi.ar b hb];decide)) hi.z0;obtain⟨na,om,ot⟩:=hi.arr.len;obtain⟨q1,q2,q3⟩:=hi.z.store (m:=m) Ai (off:=0) (vs:=[nv,vt]) (by simp) (fun v hv=>by simp only[Bi,Bm,or_false]at hv;rcases hv with rfl|rfl;rw[ot];rfl;rw[oq];rfl) (hi.sys.zr bz (by rw[hi.zr];decide)) hi.z0;refine A6 38 4 rfl rfl ?_;refine Pv tm (I9 tm B9k A2A rfl rfl (us:=[nv,vt]) rfl (fun j u hj=>by rw[Bl];exact hi.d.cell hj)) fun a tm=>?_;refine Ps tm A2A q1 ?_;refine Pa tm fun a tm=>?_;refine Pa tm fun a tm=>?_;refine Wn ?_;refine P5 rfl ?_;have s1:=hi.sys.stay q3 (fun b _ hs=>by rw[hs,hi.zr];decide);have dp:=hi.rep.keep q3;have aP:=q3.arr hi.arr (fun b hb hs=>by have h1:=hi.ar b hb;rw[hs,hi.zr]at h1;cases h1);obtain⟨m',cm,ly⟩:=A5P (U:=U6) u6_ok (t:=.node) aP rfl dp.flat (fun b hb=>s1.zr b (by rw[hi.ar b hb];decide)) s1.z;have s2:=s1.close ly (fun b _ hs=>by rw[hi.ar b hs];decide) (ρ':=fun _=>0) (fun b h=>absurd rfl h);exact B0w hQ (.inr rfl) (tm.sub ⟨rfl,rfl,rfl,trivial⟩) q2 rfl (U5 ⟨cm,kL.mono u6_ok s2.km.ext,trivial⟩) s2.km
 |cons n am=>
  rw[if_pos (by simp)];refine K4 rfl ?_;show(A0 _ _).wp _ _ _ _;refine wbl 1 rfl ?_;simp only[A2B]at ag;split at ag
  ·cases ag
  rename_i nd hN;split at ag
  ·cases ag
  rename_i t gO;obtain⟨sb,kN,iD,kQ,fS⟩:=C4I hi.stk;rw[iD]at kM tm;rw[Dn]at e8;have bU:Ba .i64 (((am.length+1:Nat):Int) - 1)=(am.length:Int):=by rw[N3 (by omega) (by omega)];omega
  have tm:=tm.keep [0,1,4,7,8,9,10];refine wsq rfl ?_;refine A6 6 7 rfl rfl ?_;refine Pm tm fun a tm=>?_;refine Pm tm fun a tm=>?_;refine Pv tm (O4 tm A0o) fun a tm=>?_;refine Pv tm (S2 tm) fun a tm=>?_;refine Pv tm (R6 tm A0o tz3 rfl rfl rfl rfl bU (by omega)) fun a tm=>?_;refine Pv tm (D9 tm pl3 rfl rfl (fS)) fun a tm=>?_;refine Pa tm fun a tm=>?_;refine Wn ?_;refine wsq rfl ?_;refine A6 7 6 rfl rfl ?_;refine Pm tm fun a tm=>?_;refine Pm tm fun a tm=>?_;refine Pv tm (O4 tm A0o) fun a tm=>?_;refine Pv tm (S2 tm) fun a tm=>?_;refine Pv tm (B2i tm A0o tz3 rfl rfl rfl rfl bU (by omega) kQ) fun a tm=>?_;refine Pa tm fun a tm=>?_;refine Bg ?_;have cd:=hi.stk;rw[iD]at cd;have aP:=cd.cut (k:=am.length) (by simp);have gE:((n::am).reverse.map C8).take (am.length*1)=am.reverse.map C8:=by
   rw[Dl,Dm,Cj,Ep (by simp)];exact Eo (by simp)
  rw[gE]at aP;have hi:DerI w0 m0 w m ρ N none am nv (.slice (some ⟨sb,0,none⟩) am.length kN) vt xs bd bz:={hi with stk:=aP,sr:=fun b hb=>hi.sr b (by rw[iD];exact(A75 (m:=am.length)).trans hb)};generalize uA:(Cp (some ⟨sb,0,none⟩) am.length kN)=sv at hi tm;obtain⟨tb,gP,ou,mY,pj⟩:=A7E (kL.mono u6_ok hi.sys.km.ext) gO;have fT:=A0U gO;have jE:=A0U hN;obtain⟨nb,om,lx,qW,dZ,eh,kI⟩:=hi.arr.at (hi.rep.sym n nd hN);have iV:w.cell? ⟨nb,0+n*3+0,none⟩=some (D5 nd.sym):=by rw[Bl,Nat.add_zero];exact eh
  have tm:=tm.keep [0,1,4,7,8,9,10,11];show(A0 _ _).wp _ _ _ _;refine wsq rfl ?_;refine A6 8 7 rfl rfl ?_;refine Pv tm (C1 tm A3V) fun a tm=>?_;refine Pv tm (D9 tm A5r rfl rfl (hi.d.cell rfl)) fun a tm=>?_;refine Pm tm fun a tm=>?_;refine Pv tm (R6 tm A1V A3y rfl rfl lx rfl rfl jE) fun a tm=>?_;refine Pv tm (C1 tm C4e) fun a tm=>?_;refine Pv tm (D9 tm pl9 rfl rfl (iV)) fun a tm=>?_;refine Pa tm fun a tm=>?_;refine Wn ?_;refine wsq rfl ?_;refine A6 9 6 rfl rfl ?_;refine Pm tm fun a tm=>?_;refine Pm tm fun a tm=>?_;refine Pv tm (R6 tm A9V V6 rfl rfl mY rfl rfl fT) fun a tm=>?_;refine Pv tm (I9 tm A3r V6 rfl rfl rfl pj) fun a tm=>?_;refine Bf rfl fun K hK=>K8 tm V6 rfl rfl rfl fun a tm=>hK _ _ ?_;have dU:=G7 w m (.cells [.int .i64 0,.int .i64 0,.int .i64 0,.int .i64 0,.int .i64 0,.string ⟨[].toArray⟩,.string ⟨[].toArray⟩].toArray 102) hi.z0;have hi:=hi.step dU (fun b _ h=>h.elim) (.inl fun _ h=>h) 6 (fun _=>rfl);have cg:Bk (w.alloc (.cells [.int .i64 0,.int .i64 0,.int .i64 0,.int .i64 0,.int .i64 0,.string ⟨[].toArray⟩,.string ⟨[].toArray⟩].toArray 102)) w.heap.size _:=K1;have eM:A7 ρ w.heap.size 6 w.heap.size=6:=H1 (Bh _);generalize uB:w.heap.size=bt at hi cg eM tm;obtain⟨q1,q2,q3⟩:=cg.store (m:=m) Ai (off:=0) (vs:=L1 t) (by simp[L1]) (fun v hv=>by simp only[L1,Bi,Bm,or_false]at hv;rcases hv with rfl|rfl|rfl|rfl|rfl|rfl|rfl<;>rfl) (hi.sys.zr bt (by rw[eM];decide)) hi.z0;refine Ps tm V6 q1 ?_;refine Bg ?_;have hi:=hi.step q3 (fun b _ hs=>by rw[hs,eM];decide) (.inr rfl) 0 (fun h=>absurd rfl h);have cg:Bk _ bt (L1 t):=q2;generalize A7 (A7 ρ bt 6) _ 0=ρ at hi;generalize (C3 _ bt 0 (L1 t))=w at hi cg ⊢;clear lx eh kI iV mY pj fS;have tm:=tm.keep [0,1,4,7,8,9,10,11,12,13];cases h1:okR [.bool] (F56 nd.sym)with
  |false=>rw[h1]at ag;cases ag
  |true=>
  rw[h1]at ag;simp only[cond_true]at ag;show(A0 _ _).wp _ _ _ _;refine wsq rfl ?_;refine wsq rfl ?_;refine A6 10 3 rfl rfl ?_;refine Pm tm fun a tm=>?_;refine Bf rfl fun K hK=>H6 tm rfl rfl rfl (A4K hb).enter rfl (V7 tm rfl rfl) (R5 (A4K hb) (ls:=[.str nd.sym]) (A0D (r:=.one (.bool (lB (gL (F56 nd.sym) 0)))) rfl h1) (hb.mono _ _ _ _ hI hi.sys.km.ext) hi.z0 ⟨.str _,trivial⟩ rfl) ?_;rintro e w1 ⟨v1,m1,rfl,k1,e1⟩;have cg:=k1.bk cg (fun h=>h);have hi:=hi.step k1 (fun b _ h=>h.elim) (.inl fun _ h=>h) 0 (fun h=>absurd rfl h);obtain rfl:=CRep.bool_inv e1;refine⟨_,rfl,fun a tm=>hK _ _ ?_⟩;refine Pv tm (A5M tm) fun a tm=>?_;refine Wn ?_;refine wcn tm rfl _ rfl ?_;have tm:=tm.keep [0,1,4,7,8,9,10,11,12,13];cases h2:lB (gL (F56 nd.sym) 0)with
  |false=>
   rw[h2]at ag;simp only[cond_false]at ag;rw[if_pos (show(!false)=true from rfl)];split at ag
   ·rename_i eB;cases h3:okR [.sl .str none] (F57 nd.sym t)with
    |false=>rw[h3]at ag;cases ag
    |true=>
    rw[h3]at ag;simp only[cond_true]at ag;generalize yN:K5 (gL (F57 nd.sym t) 0)=r at ag;cases h4:A49 (N.length+(am.length+r.length))with
    |false=>rw[h4]at ag;cases ag
    |true=>
    rw[h4]at ag;simp only[cond_true]at ag;have au:N.length+(am.length+r.length)≤1099511627776:=by simpa [A49]using h4
    refine wsq rfl ?_;refine A6 11 4 rfl rfl ?_;refine Pm tm fun a tm=>?_;refine Pv tm (I9 tm A3r V6 rfl rfl rfl (fun j u hj=>by rw[Bl];exact cg.cell hj)) fun a tm=>?_;refine Bf rfl fun K hK=>H6 tm rfl rfl rfl (B7A hb).enter rfl (S4 tm rfl rfl rfl) (R5 (B7A hb) (ls:=[.str nd.sym,.agg .tok t]) (A0D (r:=.one (.sl .str (lL .str (gL (F57 nd.sym t) 0)) none)) rfl h3) (hb.mono _ _ _ _ hI hi.sys.km.ext) hi.z0 ⟨.str _,A9G t,trivial⟩ rfl) ?_;rintro e w1 ⟨v1,m1,rfl,k1,e1⟩;have cg:=k1.bk cg (fun h=>h);have hi:=hi.step k1 (fun b _ h=>h.elim) (.inl fun _ h=>h) 0 (fun h=>absurd rfl h);have co:CRep U6 w1 m1 (.sl .str r none) v1:=by rw[←yN];exact e1
    refine⟨_,rfl,fun a tm=>hK _ _ ?_⟩;refine Pa tm fun a tm=>?_;refine Wn ?_;refine wsq rfl ?_;obtain⟨na,wO,ot⟩:=hi.arr.len;refine A6 12 4 rfl rfl ?_;refine Pv tm (C1 tm A3V) fun a tm=>?_;refine Pv tm (D9 tm A5r rfl rfl (hi.d.cell rfl)) fun a tm=>?_;refine Pv tm (O4 tm A1V rfl rfl rfl rfl rfl ot) fun a tm=>?_;refine Pa tm fun a tm=>?_;refine Wn ?_;refine wsq rfl ?_;refine wsq rfl ?_;refine A6 13 1 rfl rfl ?_;refine Pa tm fun a tm=>?_;refine Wn ?_;refine C0l hN eB (by omega) hi co (tm.sub ⟨rfl,rfl,rfl,rfl,rfl,rfl,rfl,rfl,rfl,rfl,rfl,trivial⟩) fun a w m ρ nv xs tm hi co=>?_;show(A0 _ _).wp _ _ _ _;refine wsq rfl ?_;refine wsq rfl ?_;obtain⟨ra,um,oe⟩:=co.sl_inv;refine A6 18 4 rfl rfl ?_;refine Pm tm fun a tm=>?_;refine Pv tm (O4 tm Y4 rfl rfl rfl rfl rfl oe) fun a tm=>?_;refine Pv tm (S2 tm) fun a tm=>?_;refine Pa tm fun a tm=>?_;refine Bg ?_;have uC:Ba .i64 ((r.length:Int) - 1)=(r.length:Int) - 1:=N3 (by omega) (by omega);rw[uC]at tm;show(A0 _ _).wp _ _ _ _;refine C3i (len:=r.length) (N0:=N.length) (by omega) hi (tm.sub ⟨rfl,rfl,rfl,rfl,rfl,rfl,rfl,rfl,rfl,trivial⟩) fun a w m ρ sv tm hi=>?_;show(A0 _ _).wp _ _ _ _;refine A1f 1 rfl ?_;exact⟨q,Cf q,_,_,at_,op,m,ρ,nv,sv,xs,ag,tm,hi,by rw[By,De,Dz];omega⟩
   ·cases ag
  |true=>
   rw[h2]at ag;simp only[cond_true]at ag;rw[if_neg (by simp)];refine K4 rfl ?_;cases h3:okR [.bool] (F58 nd.sym t)with
   |false=>rw[h3]at ag;cases ag
   |true=>
   rw[h3]at ag;simp only[cond_true]at ag;show(A0 _ _).wp _ _ _ _;refine wsq rfl ?_;refine wsq rfl ?_;refine A6 22 4 rfl rfl ?_;refine Pm tm fun a tm=>?_;refine Pv tm (I9 tm A3r V6 rfl rfl rfl (fun j u hj=>by rw[Bl];exact cg.cell hj)) fun a tm=>?_;refine Bf rfl fun K hK=>H6 tm rfl rfl rfl (B53 hb).enter rfl (S4 tm rfl rfl rfl) (R5 (B53 hb) (ls:=[.str nd.sym,.agg .tok t]) (A0D (r:=.one (.bool (lB (gL (F58 nd.sym t) 0)))) rfl h3) (hb.mono _ _ _ _ hI hi.sys.km.ext) hi.z0 ⟨.str _,A9G t,trivial⟩ rfl) ?_;rintro e w1 ⟨v1,m1,rfl,k1,e1⟩;have cg:=k1.bk cg (fun h=>h);have hi:=hi.step k1 (fun b _ h=>h.elim) (.inl fun _ h=>h) 0 (fun h=>absurd rfl h);obtain rfl:=CRep.bool_inv e1;refine⟨_,rfl,fun a tm=>hK _ _ ?_⟩;refine Pv tm (A5M tm) fun a tm=>?_;refine Wn ?_;refine wcn tm rfl _ rfl ?_;have tm:=tm.keep [0,1,4,7,8,9,10,11,12,13];cases h4:lB (gL (F58 nd.sym t) 0)with
   |false=>
    rw[h4]at ag;simp only[cond_false,Bw,Ce]at ag;obtain⟨rfl,rfl,rfl⟩:=ag;rw[if_pos (show(!false)=true from rfl)];refine wsq rfl ?_;obtain⟨q1,q2,q3⟩:=hi.z.store (m:=_) Ai (off:=0) (vs:=[.slice none 0 0,.slice none 0 0]) (by simp) (fun v hv=>by simp only[Bi,Bm,or_false]at hv;rcases hv with rfl|rfl<;>rfl) (hi.sys.zr bz (by rw[hi.zr];decide)) hi.z0;refine A6 23 5 rfl rfl ?_;refine Pv tm (X8 tm rfl rfl (cs:= #[.slice none 0 0,.slice none 0 0]) (by kernel_rfl)) fun a tm=>?_;refine Pm tm fun a tm=>?_;refine Ps tm A2A q1 ?_;refine Pa tm fun a tm=>?_;refine Pa tm fun a tm=>?_;refine Wn ?_;refine P5 rfl ?_;exact B0w hQ (.inr rfl) (tm.sub ⟨rfl,rfl,rfl,trivial⟩) q2 rfl B9u (hi.sys.stay q3 (fun b _ hs=>by rw[hs,hi.zr];decide)).km
   |true=>
    rw[h4]at ag;simp only[cond_true]at ag;rw[if_neg (by simp)];refine K4 rfl ?_;show(A0 _ _).wp _ _ _ _;refine wsq rfl ?_;generalize wN:nd.sym=sym at ag tm;refine C21 hi (tm.sub ⟨rfl,rfl,rfl,rfl,rfl,rfl,rfl,rfl,rfl,trivial⟩) (fun ho hd a w m tm q7 ly=>?_) (fun a eF ak uD tm=>?_)
    ·rw[ho]at ag;simp only[cond_true,decide_eq_true hd,Bw,Ce]at ag;obtain⟨rfl,rfl,rfl⟩:=ag;exact B0w hQ (.inr rfl) tm q7 rfl B9u ly
    ·show(A0 _ _).wp _ _ _ _;refine C7c hi hN wN (by omega) tm fun a w xs tm hi=>?_;refine⟨q,Cf q,_,am,_,eF,_,_,nv,sv,xs,?_,tm,hi,by omega⟩;cases ho:A0d sym with
     |true=>
      rw[ho]at ag;obtain⟨h8,h9⟩:=ak ho;simp only[cond_true,decide_eq_false h8,cond_false]at ag;rw[h9];exact ag
     |false=>
      rw[ho]at ag;simp only[cond_false]at ag;rw[uD ho];exact ag
theorem C5u{n:Nat}{vs:List Value}(hn:vs.length≤n){fr:List (Nat×Value)}(h:∀ i v,N9 fr i=some v→vs[i]?=some v):Tm {tmps:=vs.toArray++Eb (n - vs.toArray.size) undef,defers:=[]} n fr:=by
 refine⟨by simp;omega,rfl,fun i v hv=>?_⟩;have h1:=h i v hv;have h2:=(Dh.1 h1).1;rw[Fi,Fh (by simpa using h2)];simp[h1]
theorem C3B{I:Inv}(hb:HB I):Sound Ai U6 I 25 (sG S25):=by
 refine⟨Tryz.call25,fun ls r hr=>?_⟩;unfold sG at hr;unfold S25 at hr;split at hr
 ·rename_i toks depth;obtain⟨h1,h2⟩:=A0A hr;unfold F25 at h1 h2;cases cq:A49 toks.length with
  |false=>rw[cq]at h1;cases h1
  |true=>
  rw[cq]at h1 h2;simp only[cond_true]at h1 h2;split at h2
  ·rename_i d at_ k ag;intro w0 g vs hI hz aq _ _
   match vs,aq with
   |[vt,vd],⟨e1,e2,_⟩=>
    obtain rfl:=CRep.int_inv e2.1;refine calls_of_wp Tryz.func25 (show Tryz.f25.body=some (A0 Bu [])by kernel_rfl) ?_;refine C3I hb hI hz ag (by simpa [A49]using cq) e1.1 (fun e a w m us he hd hv hr hk=>?_) (C5u (show 2≤136 by decide) fun i v h=>?_)
    ·have cv:∃ v g',Ff (.tuple #[.agg us.toArray,C8 at_,.int .i64 k])=.returned v∧Post U6 ⟨w0,g.wm,fun b=>R9 [.sl .tok toks none,(.int .i64 depth:L6)]=true∧spare (g.G 0)=some b,0,fun _=>undef⟩ g' r v w:=by
      refine⟨_,{g with wm:=m},rfl,?_⟩;rw[←h2];exact A8c (ls:=[.agg .tree d,.int .i64 (at_:Int),.int .i64 k]) (vs:=[.agg us.toArray,C8 at_,.int .i64 k]) hk (fun _ h=>h.elim) ⟨hr,.int _ _,.int _ _,trivial⟩ rfl _ rfl
     rcases he with rfl|rfl<;>exact⟨hd,_,hv,cv⟩
    ·unfold N9 at h
     match i,h with
     |0,h=>cases h;rfl
     |1,h=>cases h;rfl
  ·rename_i hn;rw[hn]at h1;cases h1
 ·cases hr
end Go.Aev
namespace Go.Aev
open Go.Proofs
variable {I:Inv}
theorem C6q(hb:HB I):Sound Ai U6 I 149 (sG B0J):=F8 A3z hb rfl ⟨(B1c hb),trivial⟩ trivial Tryz.func149 rfl Tryz.call149 (fun ls r h=>by
 unfold sG B0J at h;split at h
 ·exact E2 (C1q NN) rfl h
 ·cases h)
theorem B2o(hb:HB I):Sound Ai U6 I 75 (sG S75):=F8 E75 hb rfl ⟨(C6q hb),trivial⟩ trivial Tryz.func75 rfl Tryz.call75 (fun ls r h=>by
 unfold sG S75 at h;split at h
 ·exact E2 C8g rfl h
 ·cases h)
theorem B7c(hb:HB I):∀ d,Sound Ai U6 I 148 (sG (A8W ((A6e d))))
 |0=>by
  exact⟨Ej,fun ls r h=>by
   unfold sG A8W at h;split at h<;>cases h⟩
 |d+1=>by
  have q8:=B7c hb d;exact F8 (X7 ((A6e d))) hb rfl ⟨(A9L hb),(B0Q hb),q8,trivial⟩ trivial Tryz.func148 rfl Ej (fun ls r h=>by
   unfold sG A8W at h;split at h
   ·exact E2 (C0n NN ((A6e d))) rfl h
   ·cases h)
theorem B89(hb:HB I):Sound Ai U6 I 148 (sG B3j):=(B7c hb DD)
end Go.Aev
namespace Go.Aev
open Go.Proofs
variable {I:Inv}
theorem B77(hb:HB I):∀ d,Sound Ai U6 I 147 (sG (A8B ((A5J d))))
 |0=>by
  exact⟨Ek,fun ls r h=>by
   unfold sG A8B at h;split at h<;>cases h⟩
 |d+1=>by
  have q9:=B77 hb d;exact F8 (Y3 ((A5J d))) hb rfl ⟨(A9L hb),(B2o hb),(B0Q hb),q9,(B89 hb),trivial⟩ trivial Tryz.func147 rfl Ek (fun ls r h=>by
   unfold sG A8B at h;split at h
   ·exact E2 (C2T NN ((A5J d))) rfl h
   ·cases h)
theorem C2X(hb:HB I):Sound Ai U6 I 147 (sG B5o):=(B77 hb DD)
theorem B45(hb:HB I):Sound Ai U6 I 74 (sG S74):=A6p E74 hb rfl ⟨(B0Q hb),(C2X hb),(B89 hb),trivial⟩ trivial Tryz.func74 rfl Tryz.call74 (fun ls r h=>by
 unfold sG S74 at h;split at h
 ·exact A6n (C0G NN) rfl h
 ·cases h)
theorem A9C(hb:HB I):Sound Ai U6 I 76 (sG S76):=F8 E76 hb rfl trivial trivial Tryz.func76 rfl Tryz.call76 (fun ls r h=>by
 unfold sG S76 at h;split at h
 ·exact E2 C7T rfl h
 ·cases h)
end Go.Aev
namespace Go.Aev
open Go.Proofs
theorem C1y{w:World}{sv:Value}{top:List UInt8}{am:List (List UInt8)}(h:ArrN w 1 sv (top::am).length ((top::am).reverse.map D5)):
  ∃ b cap,sv=.slice (some ⟨b,0,none⟩) (am.length+1) cap∧am.length+1≤cap∧w.cell? ⟨b,0+am.length*1,none⟩=some (D5 top):=by
 obtain⟨b,cap,hv,_,_,aQ,hc⟩:=h.blk (by simp);refine⟨b,cap,hv,aQ,?_⟩;rw[Bl,Dl];exact(hc am.length _ (by simp)).1
structure RunI(w0:World)(m0:Nat→Nat)(w:World)(m:Nat→Nat)(ρ:Nat→Nat)(sv:Value)(st:List (List UInt8))(bz:Nat):Prop where
 sys:Sys w0 m0 (fun _=>False) w m ρ
 arr:ArrN w 1 sv st.length (st.reverse.map D5)
 role:∀ b,D6 sv=some b→ρ b=3
 z:Bk w bz [.int .i64 0,.int .i64 0]
 zr:ρ bz=1
theorem RunI.z0{w0 w:World}{m0 m ρ:Nat→Nat}{sv:Value}{st:List (List UInt8)}{bz:Nat}(h:RunI w0 m0 w m ρ sv st bz):∀ b,w.heap.size≤b→m b=0:=h.sys.z
theorem RunI.step{w0 w w':World}{m0 m m' ρ:Nat→Nat}{sv:Value}{st:List (List UInt8)}{bz:Nat}{S:Nat→Prop}(h:RunI w0 m0 w m ρ sv st bz)(k:KM w m w' m' S)(hS:∀ b, ¬S b)(r:Nat)(hr:r≠0→m'=m):RunI w0 m0 w' m' (A7 ρ w.heap.size r) sv st bz:=by
 refine⟨h.sys.step k (fun b _ hs=>(hS b hs).elim) (fun b _ hs=>(hS b hs).elim) r (fun h0 b hb=>by rw[hr h0];exact h.z0 b hb),k.arr h.arr fun b _=>hS b,fun b hb=>?_,k.bk h.z (hS bz),?_⟩
 ·rw[A5 (h.arr.lt hb)];exact h.role b hb
 ·rw[A5 h.z.lt];exact h.zr
theorem RunI.tok{w0 w w':World}{m0 m ρ:Nat→Nat}{sv:Value}{st:List (List UInt8)}{bz bt:Nat}(h:RunI w0 m0 w m ρ sv st bz)(k:KM w m w' m (fun b=>b=bt))(ht:ρ bt=2):RunI w0 m0 w' m ρ sv st bz:=by
 refine⟨h.sys.stay k (fun b _ hs=>by rw[hs,ht];decide),k.arr h.arr fun b hb hs=>?_,h.role,k.bk h.z fun hs=>?_,h.zr⟩
 ·have:=h.role b hb;rw[hs,ht]at this;cases this
 ·have:=h.zr;rw[hs,ht]at this;cases this
def B67(w0:World)(m0:Nat→Nat)(k:Int)(p:C2)(Q:Exit→Act→World→Prop):Prop:=
 ∀ e a w m,(e=.normal∨e=.ret)→a.defers=[]→(results Ch a.tmps).run Ai w=.ok (.tuple #[.int .i64 k,.agg (J5 p).toArray]) w→KM w0 m0 w m (fun _=>False)→Q e a w
theorem A7l{w0 w:World}{m0 m:Nat→Nat}{k:Int}{p:C2}{Q:Exit→Act→World→Prop}(hQ:B67 w0 m0 k p Q){e:Exit}{a:Act}{bz:Nat}(he:e=.normal∨e=.ret)(tm:Tm a 93 [(8,.int .i64 k),(9,.pointer (some ⟨bz,0,none⟩))])(hb:Bk w bz (J5 p))(hk:KM w0 m0 w m (fun _=>False)):Q e a w:=by
 refine hQ e a w m he tm.dfr ?_ hk;have h8:=tm.get 8 _ rfl;have h9:=tm.get 9 _ rfl;have:=A1q Ai Ch a w [.tmp 8,.cell 9 44] (by kernel_rfl) (vs:=[.int .i64 k,.agg (J5 p).toArray]) (fun f hf=>by
  have hl:(loadVar 44 ⟨bz,0,none⟩).run Ai w=.ok (.agg (J5 p).toArray) w:=A1S A3s A0k rfl (fun j u hj=>by rw[Bl];exact hb.cell hj);simp[hf.tmp,hf.cell,h8,h9,asAddr,hl])
 exact this
theorem D0v{w0:World}{m0:Nat→Nat}{Q:Exit→Act→World→Prop}{vr vt vc:Value}{depth op:Int}{at_ bz:Nat}{c am:List (List UInt8)}{a:Act}{w:World}{m ρ:Nat→Nat}{sv:Value}
  (au:c.length+am.length≤1099511627776)(hi:RunI w0 m0 w m ρ sv am bz)(jW:CRep U6 w m (.sl .str c none) vc)(tm:Tm a 93 [(0,vr),(2,vt),(3,.int .i64 depth),(9,.pointer (some ⟨bz,0,none⟩)),(10,sv),(11,.int .i64 op),(12,.int .i64 (at_:Int)),(15,vc),(17,.int .i64 ((c.length:Int) - 1))])
  (hk:∀ a w m ρ sv,Tm a 93 [(0,vr),(2,vt),(3,.int .i64 depth),(9,.pointer (some ⟨bz,0,none⟩)),(10,sv),(11,.int .i64 op),(12,.int .i64 (at_:Int))]→RunI w0 m0 w m ρ sv (c++am) bz→Ext w0 m0 w m→Q .normal a w):
  (A0 Ch [1,1,1,1,0,0,0,1,0,1,1,1,0,1,0,1,1,0,1]).wp Ai Q a w:=by
 refine wbl 2 rfl ?_;refine wlp rfl (fun n a w=>∃ m ρ sv,n≤c.length∧Tm a 93 [(0,vr),(2,vt),(3,.int .i64 depth),(9,.pointer (some ⟨bz,0,none⟩)),(10,sv),(11,.int .i64 op),(12,.int .i64 (at_:Int)),(15,vc),(17,.int .i64 ((n:Int) - 1))]∧RunI w0 m0 w m ρ sv (c.drop n++am) bz∧CRep U6 w m (.sl .str c none) vc) c.length ⟨m,ρ,sv,Bh _,tm,by rw[Fb,Er];exact hi,jW⟩ ?_;clear tm hi jW m ρ sv a w;rintro n a w ⟨m,ρ,sv,hn,tm,hi,jW⟩;refine wsq rfl ?_;refine wsq rfl ?_;refine A6 13 2 rfl rfl ?_;refine Pm tm fun a tm=>?_;refine Pv tm (B27 tm) fun a tm=>?_;refine Wn ?_;refine wcn tm rfl _ rfl ?_;cases n with
 |zero=>
  rw[if_neg (by simp)];refine A1f 2 rfl ?_;simp only[Exit.then,Cn,if_true];have tm:=tm.keep [0,2,3,9,10,11,12];exact hk a w m ρ sv tm hi hi.sys.km.ext
 |succ n=>
  rw[if_pos (by simp)];refine K4 rfl ?_;show(A0 _ _).wp _ _ _ _;have tm:=tm.keep [0,2,3,9,10,11,12,15,17];have uk:(((n+1:Nat):Int) - 1)=(n:Int):=by omega
  rw[uk]at tm;have iY:c[n]?=some c[n]:=Cm (by omega);obtain⟨b,off,cap,hv,aw⟩:=B66 jW iY;refine wsq rfl ?_;refine wbl 3 rfl ?_;refine A6 15 8 rfl rfl ?_;refine Pm tm fun a tm=>?_;refine Pm tm fun a tm=>?_;refine Pm tm fun a tm=>?_;refine Pv tm (R6 tm Y4 tz9 rfl rfl hv rfl rfl (by omega)) fun a tm=>?_;refine Pv tm (D9 tm pl9 rfl rfl (aw)) fun a tm=>?_;refine Bf rfl fun K hK=>A04 tm Y4 tz9 rfl rfl rfl rfl rfl (us:=[D5 c[n]]) rfl rfl rfl (by decide) (by decide) fun a tm=>hK _ _ ?_;have hz:=hi.z0;have dU:=G7 w m (.cells [D5 c[n]].toArray 9) hz;have bP:=hi.step dU (fun _ h=>h) 0 (fun h=>absurd rfl h);have p8:Bk (w.alloc (.cells [D5 c[n]].toArray 9)) w.heap.size [D5 c[n]]:=K1;have dg:ArrN (w.alloc (.cells [D5 c[n]].toArray 9)) 1 (.slice (some ⟨w.heap.size,0,none⟩) 1 1) 1 [D5 c[n]]:=A0Y (w:=w) rfl rfl (Bh _) (by simp) (fun j x hj=>by simpa using hj);obtain⟨ie,z,e1,e2,e3,e4,e5⟩:=V9 tz9;have dm:(c.drop (n+1)++am).length≤1099511627776:=by rw[By,Ev];omega
  obtain⟨mV,w2,ag,aP,cI,cj⟩:=A3g (P:=Ai) (t:=122) (u:=122) (ty:=122) (e:=9) (y:=.slice (some ⟨w.heap.size,0,none⟩) 1 1) (k:=1) (ys:=[D5 c[n]]) (m:=m) Y4 (.inl ⟨9,Y4⟩) e1 e2 e4 (by rw[e5];rfl) bP.arr (by simp[Dp]) (dg.first _) rfl (fun x hx=>by rcases Dc.1 hx with rfl;rfl) (fun b hb=>bP.sys.zr b (by rw[bP.role b hb];decide)) bP.z0 (by rw[e3];omega) (by rw[e3];decide);refine Bf rfl fun K hK=>A25 tm rfl rfl rfl rfl rfl rfl rfl rfl ag fun a tm=>hK _ _ ?_;refine Pa tm fun a tm=>?_;refine Bg ?_;show(A0 _ _).wp _ _ _ _;refine A6 14 3 rfl rfl ?_;refine Pm tm fun a tm=>?_;refine Pv tm (S2 tm) fun a tm=>?_;refine Pa tm fun a tm=>?_;refine Bg ?_;have aT:RunI w0 m0 w2 m (A7 (A7 ρ w.heap.size 0) (w.alloc (.cells [D5 c[n]].toArray 9)).heap.size 3) mV (c.drop n++am) bz:=by
   have iQ:c.drop n=c[n]::c.drop (n+1):=(Fc (by omega));refine⟨bP.sys.stepM cI (fun b _ hs=>by rw[bP.role b hs];decide) 3,?_,fun b hb=>?_,cI.bk bP.z fun hs=>?_,?_⟩
   ·rw[iQ,Fe,Dn,Dm,Cj];exact aP
   ·rcases cj b hb with h|h
    ·rw[A5 (bP.arr.lt h)];exact bP.role b h
    ·rw[H1 h]
   ·have:=bP.role bz hs;rw[bP.zr]at this;cases this
   ·rw[A5 bP.z.lt];exact bP.zr
  have hw:Ba .i64 ((n:Int) - 1)=(n:Int) - 1:=N3 (by omega) (by omega);rw[hw]at tm;refine⟨n,Cf n,m,_,mV,by omega,?_,aT,(jW.mono u6_ok dU.ext).mono u6_ok cI.ext⟩;exact tm.sub (by repeat' constructor)
theorem B7O{I:Inv}(hb:HB I){w0:World}{m0:Nat→Nat}(hI:I w0 m0)(hz:∀ b,w0.heap.size≤b→m0 b=0){bg:List B7}{toks:List A1}{depth op br:Int}{k:Int}{p:C2}{Q:Exit→Act→World→Prop}{vr vt rc:Value}{n at_ bz bt:Nat}{top:List UInt8}{am:List (List UInt8)}{t:A1}{m ρ:Nat→Nat}
  (cq:toks.length≤1099511627776)(co:CRep U6 w0 m0 (.sl .rule bg none) vr)(kL:CRep U6 w0 m0 (.sl .tok toks none) vt)
  (ag:A15 bg toks depth n am (bif Bn (at_+1) toks.length then at_+1 else at_) (Ba .i64 (op+br))=some (k,p))(h5:okR [.int .i64] (F76 top)=true)(re:lI (gL (F76 top) 0)=br)(e8:am.length≤1099511627776)(fT:at_<toks.length)
  {a:Act}{w:World}(tm:Tm a 93 [(0,vr),(2,vt),(3,.int .i64 depth),(9,.pointer (some ⟨bz,0,none⟩)),(10,rc),(11,.int .i64 op),(12,.int .i64 (at_:Int)),(13,D5 top),(14,.pointer (some ⟨bt,0,none⟩))])(hi:RunI w0 m0 w m ρ rc am bz)(cg:Bk w bt (L1 t))(eM:ρ bt=2)
  (hk:∀ a w n',n'<n+1∧(∃ st at_ op m ρ sv,A15 bg toks depth n' st at_ op=some (k,p)∧Tm a 93 [(0,vr),(2,vt),(3,.int .i64 depth),(9,.pointer (some ⟨bz,0,none⟩)),(10,sv),(11,.int .i64 op),(12,.int .i64 (at_:Int))]∧RunI w0 m0 w m ρ sv st bz∧st.length≤1099511627776)→Q .normal a w):(A0 Ch [1,1,1,1,0,0,0,1,0,1,1,1,1,1,1]).wp Ai Q a w:=by
 refine wsq rfl ?_;refine A6 20 5 rfl rfl ?_;refine Pm tm fun a tm=>?_;refine Pm tm fun a tm=>?_;refine Bf rfl fun K hK=>H6 tm rfl rfl rfl (A9C hb).enter rfl (V7 tm rfl rfl) (R5 (A9C hb) (ls:=[.str top]) (A0D (r:=.one (.int .i64 (lI (gL (F76 top) 0)))) rfl h5) (hb.mono _ _ _ _ hI hi.sys.km.ext) hi.z0 ⟨.str _,trivial⟩ rfl) ?_;rintro e w1 ⟨v1,m1,rfl,k1,e1⟩;have eM:=(A5 (r:=0) cg.lt).trans eM;have cg:=k1.bk cg (fun h=>h);have hi:=hi.step k1 (fun _ h=>h) 0 (fun h=>absurd rfl h);obtain rfl:=CRep.int_inv e1;rw[re];refine⟨_,rfl,fun a tm=>hK _ _ ?_⟩;refine Pv tm (A1e tm) fun a tm=>?_;refine Pa tm fun a tm=>?_;refine Bg ?_;have tm:=tm.keep [0,2,3,9,10,11,12,13,14];show(A0 _ _).wp _ _ _ _;refine wsq rfl ?_;obtain⟨tb,gP,ou,mY,_⟩:=A7E kL (Cm fT);refine A6 21 5 rfl rfl ?_;refine Pm tm fun a tm=>?_;refine Pv tm (A1e tm) fun a tm=>?_;refine Pm tm fun a tm=>?_;refine Pv tm (O4 tm A9V rfl rfl rfl rfl rfl mY) fun a tm=>?_;refine Pv tm (B60 tm) fun a tm=>?_;refine Wn ?_;rw[A8g (by omega)]at tm;refine wcn tm rfl _ rfl ?_;have tm:=tm.keep [0,2,3,9,10,11,12,13,14];by_cases aB:at_+1<toks.length
 ·rw[if_pos (by simpa using (by omega:((at_:Int)+1<(toks.length:Int))))];rw[show Bn (at_+1) toks.length=true by rw[Nat.blt_eq];exact aB,cond_true]at ag;refine A6 22 3 rfl rfl ?_;refine Pm tm fun a tm=>?_;refine Pv tm (A1e tm) fun a tm=>?_;refine Pa tm fun a tm=>?_;refine Bg ?_;rw[A8g (by omega)]at tm;exact hk _ _ n ⟨Cf n,am,at_+1,_,_,_,rc,ag,tm.sub ⟨rfl,rfl,rfl,rfl,rfl,rfl,rfl,trivial⟩,hi,e8⟩
 ·rw[if_neg (by simpa using (by omega:((toks.length:Int)≤(at_:Int)+1)))];rw[show Bn (at_+1) toks.length=false by rw[Bool.eq_false_iff];intro h;rw[Nat.blt_eq]at h;exact aB h,cond_false]at ag;refine K4 rfl ?_;exact hk _ _ n ⟨Cf n,am,at_,_,_,_,rc,ag,tm.sub ⟨rfl,rfl,rfl,rfl,rfl,rfl,rfl,trivial⟩,hi,e8⟩
theorem C4P{I:Inv}(hb:HB I){w0:World}{m0:Nat→Nat}(hI:I w0 m0)(hz:∀ b,w0.heap.size≤b→m0 b=0){bg:List B7}{first:List UInt8}{toks:List A1}{depth:Int}{k:Int}{p:C2}{Q:Exit→Act→World→Prop}{vr vt:Value}{N:Nat}
  (ag:A15 bg toks depth N [first] 0 0=some (k,p))(cq:toks.length≤1099511627776)(co:CRep U6 w0 m0 (.sl .rule bg none) vr)(kL:CRep U6 w0 m0 (.sl .tok toks none) vt)(hQ:B67 w0 m0 k p Q){a:Act}(tm:Tm a 93 [(0,vr),(1,D5 first),(2,vt),(3,.int .i64 depth)]):
  (A0 Ch []).wp Ai Q a w0:=by
 refine wsq rfl ?_;refine A6 0 2 rfl rfl ?_;refine Pa tm fun a tm=>?_;refine Bf rfl fun K hK=>K8 tm A0k rfl rfl rfl fun a tm=>hK _ _ ?_;refine Wn ?_;refine wsq rfl ?_;refine A6 1 3 rfl rfl ?_;refine Pm tm fun a tm=>?_;refine Bf rfl fun K hK=>A04 tm Y4 tz9 rfl rfl rfl rfl rfl (us:=[D5 first]) rfl rfl rfl (by decide) (by decide) fun a tm=>hK _ _ ?_;refine Pa tm fun a tm=>?_;refine Wn ?_;refine wsq rfl ?_;refine A6 2 1 rfl rfl ?_;refine Pa tm fun a tm=>?_;refine Wn ?_;refine wsq rfl ?_;refine A6 3 1 rfl rfl ?_;refine Pa tm fun a tm=>?_;refine Bg ?_;have hi:∃ ρ sv,sv=Cp (some ⟨(w0.alloc (.cells [.int .i64 0,.int .i64 0].toArray 44)).heap.size,0,none⟩) 1 1∧RunI w0 m0 ((w0.alloc (.cells [.int .i64 0,.int .i64 0].toArray 44)).alloc (.cells [D5 first].toArray 9)) m0 ρ sv [first] w0.heap.size:=by
  have s0:Sys w0 m0 (fun _=>False) w0 m0 (fun _=>0):=⟨KM.refl _ _ _ hz,fun b h=>absurd rfl h,fun b _ h=>absurd rfl h⟩;have k1:=G7 w0 m0 (.cells [.int .i64 0,.int .i64 0].toArray 44) hz;have s1:=s0.stepM k1 (fun _ _ h=>h.elim) 1;have b1:Bk (w0.alloc (.cells [.int .i64 0,.int .i64 0].toArray 44)) w0.heap.size [.int .i64 0,.int .i64 0]:=K1;have k2:=G7 (w0.alloc (.cells [.int .i64 0,.int .i64 0].toArray 44)) m0 (.cells [D5 first].toArray 9) s1.z;refine⟨_,_,rfl,s1.stepM k2 (fun _ _ h=>h.elim) 3,A0Y rfl rfl (Bh _) (by simp) (fun j x hj=>by simpa using hj),fun b hb=>?_,k2.bk b1 (fun h=>h),?_⟩
  ·rw[X4 (by decide)]at hb;cases hb;exact H1 (Bh _)
  ·rw[A5 b1.lt];exact H1 (Bh _)
 obtain⟨ρ,sv,kM,hi⟩:=hi;rw[←kM]at tm;generalize q7:w0.heap.size=bz at hi tm;generalize ((w0.alloc (.cells [.int .i64 0,.int .i64 0].toArray 44)).alloc (.cells [D5 first].toArray 9))=w at hi ⊢;clear kM q7;show(A0 _ _).wp _ _ _ _;refine wsq rfl ?_;refine wbl 0 rfl ?_;refine wlp rfl (fun n a w=>∃ st at_ op m ρ sv,A15 bg toks depth n st at_ op=some (k,p)∧Tm a 93 [(0,vr),(2,vt),(3,.int .i64 depth),(9,.pointer (some ⟨bz,0,none⟩)),(10,sv),(11,.int .i64 op),(12,.int .i64 (at_:Int))]∧RunI w0 m0 w m ρ sv st bz∧st.length≤1099511627776) N ⟨[first],0,0,m0,ρ,sv,ag,tm.sub ⟨rfl,rfl,rfl,rfl,rfl,rfl,rfl,trivial⟩,hi,by simp⟩ ?_;clear tm hi ρ sv a w ag;rintro n a w ⟨st,at_,op,m,ρ,sv,ag,tm,hi,e8⟩;cases n with
 |zero=>cases ag
 |succ n=>
 obtain⟨pa,cap,kM⟩:=hi.arr.len;refine wsq rfl ?_;refine wsq rfl ?_;refine A6 4 3 rfl rfl ?_;refine Pm tm fun a tm=>?_;refine Pv tm (O4 tm Y4 rfl rfl rfl rfl rfl kM) fun a tm=>?_;refine Pv tm (A6O tm) fun a tm=>?_;refine Wn ?_;refine wcn tm rfl _ rfl ?_;cases st with
 |nil=>
  simp only[A15,Bw,Ce]at ag;obtain⟨rfl,rfl⟩:=ag;rw[if_neg (by simp)];refine A1f 0 rfl ?_;simp only[Exit.then,Cn,if_true];show(A0 _ _).wp _ _ _ _;refine wsq rfl ?_;obtain⟨q1,q2,q3⟩:=hi.z.store (m:=m) Ai (off:=0) (vs:=[.int .i64 0,.int .i64 0]) (by decide) (fun v hv=>by rcases Bi.1 hv with rfl|hv;rfl;rcases Bi.1 hv with rfl|hv;rfl;cases hv) (hi.sys.zr bz (by rw[hi.zr];decide)) hi.z0;refine A6 23 3 rfl rfl ?_;refine Pv tm (X8 tm rfl rfl (cs:= #[.int .i64 0,.int .i64 0]) (by kernel_rfl)) fun a tm=>?_;refine Pa tm fun a tm=>?_;refine Ps tm A0k q1 ?_;refine Wn ?_;refine P5 rfl ?_;exact A7l hQ (.inr rfl) (tm.sub ⟨rfl,rfl,trivial⟩) q2 (hi.sys.stay q3 (fun b _ hs=>by rw[hs,hi.zr];decide)).km
 |cons top am=>
  rw[if_pos (by simp)];refine K4 rfl ?_;show(A0 _ _).wp _ _ _ _;refine wbl 1 rfl ?_;simp only[A15]at ag;split at ag
  ·cases ag
  rename_i t gO;obtain⟨sb,kN,iD,kQ,fS⟩:=C1y hi.arr;rw[iD]at kM tm;rw[Dn]at e8;have bU:Ba .i64 (((am.length+1:Nat):Int) - 1)=(am.length:Int):=by rw[N3 (by omega) (by omega)];omega
  have tm:=tm.keep [0,2,3,9,10,11,12];refine wsq rfl ?_;refine A6 5 7 rfl rfl ?_;refine Pm tm fun a tm=>?_;refine Pm tm fun a tm=>?_;refine Pv tm (O4 tm Y4) fun a tm=>?_;refine Pv tm (S2 tm) fun a tm=>?_;refine Pv tm (R6 tm Y4 tz9 rfl rfl rfl rfl bU (by omega)) fun a tm=>?_;refine Pv tm (D9 tm pl9 rfl rfl (fS)) fun a tm=>?_;refine Pa tm fun a tm=>?_;refine Wn ?_;refine wsq rfl ?_;refine A6 6 6 rfl rfl ?_;refine Pm tm fun a tm=>?_;refine Pm tm fun a tm=>?_;refine Pv tm (O4 tm Y4) fun a tm=>?_;refine Pv tm (S2 tm) fun a tm=>?_;refine Pv tm (B2i tm Y4 tz9 rfl rfl rfl rfl bU (by omega) kQ) fun a tm=>?_;refine Pa tm fun a tm=>?_;refine Wn ?_;refine wsq rfl ?_;have cd:=hi.arr;rw[iD]at cd;have aP:=cd.cut (k:=am.length) (by simp);have gE:((top::am).reverse.map D5).take (am.length*1)=am.reverse.map D5:=by
   rw[Dl,Dm,Cj,Ep (by simp)];exact Eo (by simp)
  rw[gE]at aP;have hi:RunI w0 m0 w m ρ (.slice (some ⟨sb,0,none⟩) am.length kN) am bz:=⟨hi.sys,aP,fun b hb=>hi.role b (by rw[iD];exact(A75 (m:=am.length)).trans hb),hi.z,hi.zr⟩;generalize uA:(Cp (some ⟨sb,0,none⟩) am.length kN)=rc at hi tm;obtain⟨tb,gP,ou,mY,pj⟩:=A7E (kL.mono u6_ok hi.sys.km.ext) gO;have fT:=(Dh.1 gO).1;have tm:=tm.keep [0,2,3,9,10,11,12,13];refine A6 7 6 rfl rfl ?_;refine Pm tm fun a tm=>?_;refine Pm tm fun a tm=>?_;refine Pv tm (R6 tm A9V V6 rfl rfl mY rfl rfl fT) fun a tm=>?_;refine Pv tm (I9 tm A3r V6 rfl rfl rfl pj) fun a tm=>?_;refine Bf rfl fun K hK=>K8 tm V6 rfl rfl rfl fun a tm=>hK _ _ ?_;have dU:=G7 w m (.cells [.int .i64 0,.int .i64 0,.int .i64 0,.int .i64 0,.int .i64 0,.string ⟨[].toArray⟩,.string ⟨[].toArray⟩].toArray 102) hi.z0;have hi:=hi.step dU (fun _ h=>h) 2 (fun _=>rfl);have cg:Bk (w.alloc (.cells [.int .i64 0,.int .i64 0,.int .i64 0,.int .i64 0,.int .i64 0,.string ⟨[].toArray⟩,.string ⟨[].toArray⟩].toArray 102)) w.heap.size _:=K1;have eM:A7 ρ w.heap.size 2 w.heap.size=2:=H1 (Bh _);generalize uB:w.heap.size=bt at hi cg eM tm;obtain⟨q1,q2,q3⟩:=cg.store (m:=m) Ai (off:=0) (vs:=L1 t) (by simp[L1]) (fun v hv=>by simp only[L1,Bi,Bm,or_false]at hv;rcases hv with rfl|rfl|rfl|rfl|rfl|rfl|rfl<;>rfl) (hi.sys.zr bt (by rw[eM];decide)) hi.z0;refine Ps tm V6 q1 ?_;refine Bg ?_;have hi:=hi.tok q3 eM;have cg:Bk _ bt (L1 t):=q2;generalize (C3 _ bt 0 (L1 t))=w at hi cg ⊢;generalize A7 ρ bt 2=ρ at hi eM;have tm:=tm.keep [0,2,3,9,10,11,12,13,14];show(A0 _ _).wp _ _ _ _;refine wsq rfl ?_;refine wsq rfl ?_;cases h1:okR [.bool] (F73 top)with
  |false=>rw[h1]at ag;cases ag
  |true=>
  rw[h1]at ag;simp only[cond_true]at ag;refine A6 8 2 rfl rfl ?_;refine Pm tm fun a tm=>?_;refine Bf rfl fun K hK=>H6 tm rfl rfl rfl (A9L hb).enter rfl (V7 tm rfl rfl) (R5 (A9L hb) (ls:=[.str top]) (A0D (r:=.one (.bool (lB (gL (F73 top) 0)))) rfl h1) (hb.mono _ _ _ _ hI hi.sys.km.ext) hi.z0 ⟨.str _,trivial⟩ rfl) ?_;rintro e w1 ⟨v1,m1,rfl,k1,e1⟩;have eM:=(A5 (r:=0) cg.lt).trans eM;have cg:=k1.bk cg (fun h=>h);have hi:=hi.step k1 (fun _ h=>h) 0 (fun h=>absurd rfl h);obtain rfl:=CRep.bool_inv e1;refine⟨_,rfl,fun a tm=>hK _ _ ?_⟩;refine Wn ?_;refine wcn tm rfl _ rfl ?_;have tm:=tm.keep [0,2,3,9,10,11,12,13,14]
  skip
  cases h2:lB (gL (F73 top) 0)with
  |true=>
   rw[h2]at ag;simp only[cond_true]at ag;rw[if_pos rfl];cases h3:okR [.slc .str,.bool] (F74 bg top t)with
   |false=>rw[h3]at ag;cases ag
   |true=>
   rw[h3]at ag;simp only[cond_true]at ag;refine wsq rfl ?_;refine A6 9 9 rfl rfl ?_;refine Pm tm fun a tm=>?_;refine Pm tm fun a tm=>?_;refine Pv tm (I9 tm A3r V6 rfl rfl rfl (fun j u hj=>by rw[Bl];exact cg.cell hj)) fun a tm=>?_;refine Bf rfl fun K hK=>H6 tm rfl rfl rfl (B45 hb).enter rfl (B87 tm rfl rfl rfl rfl) (R5 (B45 hb) (ls:=[.sl .rule bg none,.str top,.agg .tok t]) (A0D (r:=.tup [.sl .str (lL .str (gL (F74 bg top t) 0)) none,.bool (lB (gL (F74 bg top t) 1))]) rfl h3) (hb.mono _ _ _ _ hI hi.sys.km.ext) hi.z0 ⟨co.mono u6_ok hi.sys.km.ext,.str _,A9G t,trivial⟩ rfl) ?_;rintro e w1 ⟨v1,m1,rfl,k1,e1⟩;have eM:=(A5 (r:=0) cg.lt).trans eM;have cg:=k1.bk cg (fun h=>h);have hi:=hi.step k1 (fun _ h=>h) 0 (fun h=>absurd rfl h);obtain⟨dE,rfl,e1⟩:=e1;obtain⟨vc,rfl,jW⟩:∃ vc,dE=[vc,.bool (lB (gL (F74 bg top t) 1))]∧CRep U6 w1 m1 (.sl .str (K5 (gL (F74 bg top t) 0)) none) vc:=by
    match dE,e1 with
    |[x,y],⟨e2,e3,_⟩=>exact⟨x,by rw[CRep.bool_inv e3],e2⟩
   refine⟨_,rfl,fun a tm=>hK _ _ ?_⟩;refine Pm tm fun a tm=>?_;refine Pv tm (O9 tm) fun a tm=>?_;refine Pv tm (O9 tm) fun a tm=>?_;refine Pa tm fun a tm=>?_;refine Pa tm fun a tm=>?_;refine Bg ?_;have tm:=tm.keep [0,2,3,9,10,11,12,13,14,15,16];show(A0 _ _).wp _ _ _ _;refine wsq rfl ?_;refine wsq rfl ?_;refine A6 10 2 rfl rfl ?_;refine Pm tm fun a tm=>?_;refine Pv tm (A5M tm) fun a tm=>?_;refine Wn ?_;refine wcn tm rfl _ rfl ?_;cases h4:lB (gL (F74 bg top t) 1)with
   |false=>
    rw[h4]at ag;simp only[cond_false,Bw,Ce]at ag;obtain⟨rfl,rfl⟩:=ag;rw[if_pos (show(!false)=true from rfl)];refine wsq rfl ?_;have rh:∀(j:Nat) u,(J5 t.pos)[j]?=some u→Cg _ ⟨bt,0+1+j,none⟩=some u:=fun j u hj=>cg.cell (j:=0+1+j) (u:=u) (by match j,hj with|0,hj=>exact hj|1,hj=>exact hj);refine A5O (S:=fun w'=>∀(j:Nat) u,(J5 t.pos)[j]?=some u→w'.cell? ⟨bt,0+1+j,none⟩=some u) rfl 11 4 rfl rfl ?_;have dN:=A2j hi.z0;obtain⟨q1,q2,q3⟩:=(dN.bk hi.z (fun h=>h)).store (m:=_) Ai (off:=0) (vs:=J5 t.pos) (by simp[J5]) (fun v hv=>by simp only[J5,Bi,Bm,or_false]at hv;rcases hv with rfl|rfl<;>rfl) (hi.sys.zr bz (by rw[hi.zr];decide)) dN.zero;have az:bt≠bz:=fun e=>by have h9:=hi.zr;rw[←e]at h9;rw[eM]at h9;cases h9
    have HS:∀(j:Nat) u,(J5 t.pos)[j]?=some u→Cg _ ⟨bt,0+1+j,none⟩=some u:=rh;refine Dt tm 0 rfl (by exact HS) (fun w hS=>C1 tm A6w) fun a tm=>?_;refine Dt tm 1 rfl (by exact HS) (fun w hS=>I9 tm A3s A0k rfl rfl rfl hS) fun a tm=>?_;refine Dt tm 2 rfl (by exact HS) (fun w hS=>A8p tm) fun a tm=>?_;refine A2Z (i:=3) (by kernel_rfl) rfl rfl fun K hK=>?_;refine G9 tm A0k rfl rfl rfl rfl (us:=J5 t.pos) rfl rfl q1 (hK _ _ (fun j u hj=>?_) ?_)
    ·exact(q3.bk (dN.bk cg (fun h=>h)) az).cell (j:=0+1+j) (u:=u) (by match j,hj with|0,hj=>exact hj|1,hj=>exact hj)
    refine A6x (by kernel_rfl) ?_ _;show(A0 _ _).wp _ _ _ _;refine P5 rfl ?_;exact A7l hQ (.inr rfl) (tm.sub ⟨rfl,rfl,trivial⟩) q2 ((hi.sys.stay dN (fun b _ hs=>hs.elim)).stay q3 (fun b _ hs=>by rw[hs,hi.zr];decide)).km
   |true=>
   rw[h4]at ag;simp only[cond_true]at ag;rw[if_neg (by simp)];refine K4 rfl ?_;generalize gk:K5 (gL (F74 bg top t) 0)=c at ag jW;cases h5:smN (c.length+am.length)with
   |false=>rw[h5]at ag;cases ag
   |true=>
   rw[h5]at ag;simp only[cond_true]at ag;have cm:c.length+am.length≤1099511627776:=by simpa [smN]using h5
   show(A0 _ _).wp _ _ _ _;refine wsq rfl ?_;refine wsq rfl ?_;obtain⟨ca,yO,uE⟩:=jW.sl_inv;refine A6 12 4 rfl rfl ?_;refine Pm tm fun a tm=>?_;refine Pv tm (O4 tm Y4 rfl rfl rfl rfl rfl uE) fun a tm=>?_;refine Pv tm (S2 tm) fun a tm=>?_;refine Pa tm fun a tm=>?_;refine Bg ?_;have uC:Ba .i64 ((c.length:Int) - 1)=(c.length:Int) - 1:=N3 (by omega) (by omega);rw[uC]at tm;show(A0 _ _).wp _ _ _ _;refine D0v cm hi jW (tm.sub ⟨rfl,rfl,rfl,rfl,rfl,rfl,rfl,rfl,rfl,trivial⟩) fun a w m ρ sv tm hi _=>?_;show(A0 _ _).wp _ _ _ _;refine A1f 1 rfl ?_;exact⟨n,Cf n,c++am,at_,op,m,ρ,sv,ag,tm,hi,by rw[By];exact cm⟩
  |false=>
   rw[h2]at ag;simp only[cond_false]at ag;rw[if_neg (by simp)];refine K4 rfl ?_;show(A0 _ _).wp _ _ _ _;refine wsq rfl ?_;refine wsq rfl ?_;cases h3:okR [.bool] (F75 top t)with
   |false=>rw[h3]at ag;cases ag
   |true=>
   rw[h3]at ag;simp only[cond_true]at ag;refine A6 16 4 rfl rfl ?_;refine Pm tm fun a tm=>?_;refine Pv tm (I9 tm A3r V6 rfl rfl rfl (fun j u hj=>by rw[Bl];exact cg.cell hj)) fun a tm=>?_;refine Bf rfl fun K hK=>H6 tm rfl rfl rfl (B2o hb).enter rfl (S4 tm rfl rfl rfl) (R5 (B2o hb) (ls:=[.str top,.agg .tok t]) (A0D (r:=.one (.bool (lB (gL (F75 top t) 0)))) rfl h3) (hb.mono _ _ _ _ hI hi.sys.km.ext) hi.z0 ⟨.str _,A9G t,trivial⟩ rfl) ?_;rintro e w1 ⟨v1,m1,rfl,k1,e1⟩;have eM:=(A5 (r:=0) cg.lt).trans eM;have cg:=k1.bk cg (fun h=>h);have hi:=hi.step k1 (fun _ h=>h) 0 (fun h=>absurd rfl h);obtain rfl:=CRep.bool_inv e1;refine⟨_,rfl,fun a tm=>hK _ _ ?_⟩;refine Pv tm (A5M tm) fun a tm=>?_;refine Wn ?_;refine wcn tm rfl _ rfl ?_;have tm:=tm.keep [0,2,3,9,10,11,12,13,14];cases h4:lB (gL (F75 top t) 0)with
   |false=>
    rw[h4]at ag;simp only[cond_false,Bw,Ce]at ag;obtain⟨rfl,rfl⟩:=ag;rw[if_pos (show(!false)=true from rfl)];refine wsq rfl ?_;have rh:∀(j:Nat) u,(J5 t.pos)[j]?=some u→Cg _ ⟨bt,0+1+j,none⟩=some u:=fun j u hj=>cg.cell (j:=0+1+j) (u:=u) (by match j,hj with|0,hj=>exact hj|1,hj=>exact hj);refine A5O (S:=fun w'=>∀(j:Nat) u,(J5 t.pos)[j]?=some u→w'.cell? ⟨bt,0+1+j,none⟩=some u) rfl 17 4 rfl rfl ?_;have dN:=A2j hi.z0;obtain⟨q1,q2,q3⟩:=(dN.bk hi.z (fun h=>h)).store (m:=_) Ai (off:=0) (vs:=J5 t.pos) (by simp[J5]) (fun v hv=>by simp only[J5,Bi,Bm,or_false]at hv;rcases hv with rfl|rfl<;>rfl) (hi.sys.zr bz (by rw[hi.zr];decide)) dN.zero;have az:bt≠bz:=fun e=>by have h9:=hi.zr;rw[←e]at h9;rw[eM]at h9;cases h9
    have HS:∀(j:Nat) u,(J5 t.pos)[j]?=some u→Cg _ ⟨bt,0+1+j,none⟩=some u:=rh;refine Dt tm 0 rfl (by exact HS) (fun w hS=>C1 tm A6w) fun a tm=>?_;refine Dt tm 1 rfl (by exact HS) (fun w hS=>I9 tm A3s A0k rfl rfl rfl hS) fun a tm=>?_;refine Dt tm 2 rfl (by exact HS) (fun w hS=>A8p tm) fun a tm=>?_;refine A2Z (i:=3) (by kernel_rfl) rfl rfl fun K hK=>?_;refine G9 tm A0k rfl rfl rfl rfl (us:=J5 t.pos) rfl rfl q1 (hK _ _ (fun j u hj=>?_) ?_)
    ·exact(q3.bk (dN.bk cg (fun h=>h)) az).cell (j:=0+1+j) (u:=u) (by match j,hj with|0,hj=>exact hj|1,hj=>exact hj)
    refine A6x (by kernel_rfl) ?_ _;show(A0 _ _).wp _ _ _ _;refine P5 rfl ?_;exact A7l hQ (.inr rfl) (tm.sub ⟨rfl,rfl,trivial⟩) q2 ((hi.sys.stay dN (fun b _ hs=>hs.elim)).stay q3 (fun b _ hs=>by rw[hs,hi.zr];decide)).km
   |true=>
   rw[h4]at ag;simp only[cond_true]at ag;rw[if_neg (by simp)];refine K4 rfl ?_;cases h5:okR [.int .i64] (F76 top)with
   |false=>rw[h5]at ag;cases ag
   |true=>
   rw[h5]at ag;simp only[cond_true]at ag;generalize re:lI (gL (F76 top) 0)=br at ag;show(A0 _ _).wp _ _ _ _;refine wsq rfl ?_;refine wsq rfl ?_;refine A6 18 8 rfl rfl ?_;refine Pm tm fun a tm=>?_;refine Bf rfl fun K hK=>H6 tm rfl rfl rfl (A9C hb).enter rfl (V7 tm rfl rfl) (R5 (A9C hb) (ls:=[.str top]) (A0D (r:=.one (.int .i64 (lI (gL (F76 top) 0)))) rfl h5) (hb.mono _ _ _ _ hI hi.sys.km.ext) hi.z0 ⟨.str _,trivial⟩ rfl) ?_;rintro e w1 ⟨v1,m1,rfl,k1,e1⟩;have eM:=(A5 (r:=0) cg.lt).trans eM;have cg:=k1.bk cg (fun h=>h);have hi:=hi.step k1 (fun _ h=>h) 0 (fun h=>absurd rfl h);obtain rfl:=CRep.int_inv e1;rw[re];refine⟨_,rfl,fun a tm=>hK _ _ ?_⟩;refine Pv tm (N6 tm) fun a tm=>?_;refine Pm tm fun a tm=>?_;cases hq:br==1 with
   |true=>
    rw[hq]at tm ag;simp only[Bool.true_and]at ag;refine Pg tm 3 74 (Q9 tm) fun a tm=>?_;refine Pg tm 3 74 (Q9 tm) fun a tm=>?_;refine Pg tm 3 74 (B27 tm) fun a tm=>?_;refine Pv tm (Q2 tm) fun a tm=>?_;refine Wn ?_;refine wcn tm rfl _ rfl ?_;have tm:=tm.keep [0,2,3,9,10,11,12,13,14];cases hd:decide (depth≤op)with
    |true=>
     rw[hd]at ag;simp only[cond_true,Bw,Ce]at ag;obtain⟨rfl,rfl⟩:=ag;rw[if_pos rfl];refine wsq rfl ?_;have rh:∀(j:Nat) u,(J5 t.pos)[j]?=some u→Cg _ ⟨bt,0+1+j,none⟩=some u:=fun j u hj=>cg.cell (j:=0+1+j) (u:=u) (by match j,hj with|0,hj=>exact hj|1,hj=>exact hj);refine A5O (S:=fun w'=>∀(j:Nat) u,(J5 t.pos)[j]?=some u→w'.cell? ⟨bt,0+1+j,none⟩=some u) rfl 19 4 rfl rfl ?_;have dN:=A2j hi.z0;obtain⟨q1,q2,q3⟩:=(dN.bk hi.z (fun h=>h)).store (m:=_) Ai (off:=0) (vs:=J5 t.pos) (by simp[J5]) (fun v hv=>by simp only[J5,Bi,Bm,or_false]at hv;rcases hv with rfl|rfl<;>rfl) (hi.sys.zr bz (by rw[hi.zr];decide)) dN.zero;have az:bt≠bz:=fun e=>by have h9:=hi.zr;rw[←e]at h9;rw[eM]at h9;cases h9
     have HS:∀(j:Nat) u,(J5 t.pos)[j]?=some u→Cg _ ⟨bt,0+1+j,none⟩=some u:=rh;refine Dt tm 0 rfl (by exact HS) (fun w hS=>C1 tm A6w) fun a tm=>?_;refine Dt tm 1 rfl (by exact HS) (fun w hS=>I9 tm A3s A0k rfl rfl rfl hS) fun a tm=>?_;refine Dt tm 2 rfl (by exact HS) (fun w hS=>A8p tm) fun a tm=>?_;refine A2Z (i:=3) (by kernel_rfl) rfl rfl fun K hK=>?_;refine G9 tm A0k rfl rfl rfl rfl (us:=J5 t.pos) rfl rfl q1 (hK _ _ (fun j u hj=>?_) ?_)
     ·exact(q3.bk (dN.bk cg (fun h=>h)) az).cell (j:=0+1+j) (u:=u) (by match j,hj with|0,hj=>exact hj|1,hj=>exact hj)
     refine A6x (by kernel_rfl) ?_ _;show(A0 _ _).wp _ _ _ _;refine P5 rfl ?_;exact A7l hQ (.inr rfl) (tm.sub ⟨rfl,rfl,trivial⟩) q2 ((hi.sys.stay dN (fun b _ hs=>hs.elim)).stay q3 (fun b _ hs=>by rw[hs,hi.zr];decide)).km
    |false=>
     rw[hd]at ag;simp only[cond_false]at ag;rw[if_neg (by simp)];refine K4 rfl ?_;refine B7O hb hI hz cq co kL ag h5 re (by omega) fT tm hi cg eM fun a w n' h=>⟨n',h⟩
   |false=>
    rw[hq]at tm ag;simp only[Bool.false_and,cond_false]at ag;refine F1 tm (j:=3) (g:=74) (d:=75) (b:=false) rfl rfl rfl rfl rfl rfl rfl fun a tm=>?_;refine F1 tm (j:=3) (g:=74) (d:=76) (b:=false) rfl rfl rfl rfl rfl rfl rfl fun a tm=>?_;refine F1 tm (j:=3) (g:=74) (d:=77) (b:=false) rfl rfl rfl rfl rfl rfl rfl fun a tm=>?_;refine Pv tm (A0b tm) fun a tm=>?_;refine Wn ?_;refine wcn tm rfl _ rfl ?_;have tm:=tm.keep [0,2,3,9,10,11,12,13,14];rw[if_neg (by simp)];refine K4 rfl ?_;refine B7O hb hI hz cq co kL ag h5 re (by omega) fT tm hi cg eM fun a w n' h=>⟨n',h⟩
theorem D0s{n:Nat}{vs:List Value}(hn:vs.length≤n){fr:List (Nat×Value)}(h:∀ i v,N9 fr i=some v→vs[i]?=some v):Tm {tmps:=vs.toArray++Eb (n - vs.toArray.size) undef,defers:=[]} n fr:=by
 refine⟨by simp;omega,rfl,fun i v hv=>?_⟩;have h1:=h i v hv;have h2:=(Dh.1 h1).1;rw[Fi,Fh (by simpa using h2)];simp[h1]
theorem A7Q{I:Inv}(hb:HB I):Sound Ai U6 I 33 (sG S33):=by
 refine⟨Tryz.call33,fun ls r hr=>?_⟩;unfold sG at hr;unfold S33 at hr;split at hr
 ·rename_i bg first toks depth
  obtain⟨h1,h2⟩:=A0A hr;unfold F33 at h1 h2;cases cq:smN toks.length with
  |false=>rw[cq]at h1;cases h1
  |true=>
  rw[cq]at h1 h2;simp only[cond_true]at h1 h2;split at h2
  ·rename_i k p ag;intro w0 g vs hI hz aq _ _
   match vs,aq with
   |[vr,v1,vt,vd],⟨e1,e2,e3,e4,_⟩=>
    obtain rfl:=CRep.str_inv e2.1;obtain rfl:=CRep.int_inv e4.1;refine calls_of_wp Tryz.func33 (show Tryz.f33.body=some (A0 Ch [])by kernel_rfl) ?_;refine C4P hb hI hz ag (by simpa [smN]using cq) e1.1 e3.1 (fun e a w m he hd hv hk=>?_) (D0s (show 4≤93 by decide) fun i v h=>?_)
    ·have cv:∃ v g',Ff (.tuple #[.int .i64 k,.agg (J5 p).toArray])=.returned v∧Post U6 ⟨w0,g.wm,fun b=>R9 [.sl .rule bg none,.str first,.sl .tok toks none,(.int .i64 depth:L6)]=true∧spare (g.G 0)=some b,0,fun _=>undef⟩ g' r v w:=by
      refine⟨_,{g with wm:=m},rfl,?_⟩;rw[←h2];exact A8c (ls:=[.int .i64 k,.agg .pos p]) (vs:=[.int .i64 k,.agg (J5 p).toArray]) hk (fun _ h=>h.elim) ⟨.int _ _,C46 p,trivial⟩ rfl _ rfl
     rcases he with rfl|rfl<;>exact⟨hd,_,hv,cv⟩
    ·unfold N9 at h
     match i,h with
     |0,h=>cases h;rfl
     |1,h=>cases h;rfl
     |2,h=>cases h;rfl
     |3,h=>cases h;rfl
  ·rename_i hn;rw[hn]at h1;cases h1
 ·cases hr
def E34:Env Ty6 A4:=mkE [(77,S77)] [] (lkD [(0,[2,1000106]),(1,[1000106]),(2,[1000106]),(3,[9,10,11,1000106]),(4,[13,14,1000106]),(5,[12,15,16,17,18,19,1000106]),(6,[20,21,22,23]),(9,[24,25,26]),(10,[28,29,45]),(11,[27,30,31,32,33]),(12,[7,34,35,36,37,38,39,40]),(14,[34,41,42,43,44]),(15,[45,46,47,48,49,50,51,52]),(16,[5,7,8,27,53,54,55,56,57,58]),(17,[6,59,60,61,62,1000106]),(18,[0,3,4,12,63,1000106]),(10003,[1000106])]) 64 [6,23] 0 [] [(23,106)]
def B0A(a0:List (List UInt8))(x3:List B7)(x4:Int):S6:=⟨[(0,.one (.sl .str a0 none)),(3,.one (.sl .rule x3 (some 103))),(4,.one (.int .i64 x4))],[103]⟩
def B4s(a0:List (List UInt8))(x3:List B7)(x4:Int)(de:Bool):S6:=⟨[(0,.one (.sl .str a0 none)),(3,.one (.sl .rule x3 (some 103))),(4,.one (.int .i64 x4)),(12,.one (.bool de))],[103]⟩
def B9N(a0:List (List UInt8))(x3:List B7)(x4:Int)(x5 x7:List (List UInt8))(x8:Int)(aA:List UInt8)(ay:List (List (List UInt8))):S6:=⟨[(0,.one (.sl .str a0 none)),(3,.one (.sl .rule x3 (some 103))),(4,.one (.int .i64 x4)),(5,.one (.sl .str x5 (some 1019))),(6,.one (.ptr 106 0)),(7,.one (.sl .str x7 (some 107))),(8,.one (.int .i64 x8)),(1000106,.bx 106 [.str aA,.sl .strs ay (some 2010601)])],[103,106,107,1019,2010601]⟩
def C7M(a0:List (List UInt8))(x3:List B7)(x4:Int)(x5 x7:List (List UInt8))(x8:Int)(l7:Bool)(aA:List UInt8)(ay:List (List (List UInt8))):S6:=⟨[(0,.one (.sl .str a0 none)),(3,.one (.sl .rule x3 (some 103))),(4,.one (.int .i64 x4)),(5,.one (.sl .str x5 (some 1019))),(6,.one (.ptr 106 0)),(7,.one (.sl .str x7 (some 107))),(8,.one (.int .i64 x8)),(27,.one (.bool l7)),(1000106,.bx 106 [.str aA,.sl .strs ay (some 2010601)])],[103,106,107,1019,2010601]⟩
def C0z{R:Type}(nn:Nat)(a0:List (List UInt8))(x3:List B7)(x4:Int)(x5 x7:List (List UInt8))(x8:Int)(aA:List UInt8)(ay:List (List (List UInt8)))(k1:(List B7)→Int→(List (List UInt8))→(List (List UInt8))→Int→(List UInt8)→(List (List (List UInt8)))→Option R)(k2:(List B7)→Int→(List (List UInt8))→(List (List UInt8))→Int→Bool→(List UInt8)→(List (List (List UInt8)))→Option R):Option R:=let z1:=decide (x8<(Bb x5:Int));bif z1 then(let j2:(List B7)→Int→(List (List UInt8))→(List (List UInt8))→Int→(List UInt8)→(List (List (List UInt8)))→Option R:=fun z3 z4 z5 z6 z7 z8 z9=>k1 z3 z4 z5 z6 (Ba .i64 (z7+1)) z8 z9;match idx x5 x8 with|none=>none|some iq=>(bif(iq==[47])then(gd (A3 (Bb ay+1) 24) (j2 x3 x4 x5 [] x8 aA (ay++[x7])))else(match idx x5 x8 with|none=>none|some lv=>(bif(!(lv==[45]))then(match idx x5 x8 with|none=>none|some pf=>(gd (A3 (Bb x7+1) 16) (j2 x3 x4 x5 (x7++[pf]) x8 aA ay)))else(k1 x3 x4 x5 x7 (Ba .i64 (x8+1)) aA ay)))))else(k2 x3 x4 x5 x7 x8 z1 aA ay)
def A8w{R:Type}(nn:Nat)(a0:List (List UInt8)):Nat→(List B7)→Int→(List (List UInt8))→(List (List UInt8))→Int→(List UInt8)→(List (List (List UInt8)))→((List B7)→Int→(List (List UInt8))→(List (List UInt8))→Int→Bool→(List UInt8)→(List (List (List UInt8)))→Option R)→Option R
 |0,_,_,_,_,_,_,_,_=>none
 |n+1,x3,x4,x5,x7,x8,aA,ay,k2=>C0z nn a0 x3 x4 x5 x7 x8 aA ay (fun x3 x4 x5 x7 x8 aA ay=>A8w nn a0 n x3 x4 x5 x7 x8 aA ay k2) k2
theorem B68{R:Type}(nn:Nat)(a0:List (List UInt8)):∀(n:Nat)(x3:List B7)(x4:Int)(x5 x7:List (List UInt8))(x8:Int)(aA:List UInt8)(ay:List (List (List UInt8)))(K:Ex→S6→Option R),LP E34 nn Bq [1,1,0,1,0,0,1,0,0,1,1,1,0,1,0,0] 10009 n (B9N a0 x3 x4 x5 x7 x8 aA ay) K=A8w nn a0 n x3 x4 x5 x7 x8 aA ay (fun x3 x4 x5 x7 x8 l7 aA ay=>K (.exit 2) (C7M a0 x3 x4 x5 x7 x8 l7 aA ay))
 |0,_,_,_,_,_,_,_,_=>rfl
 |n+1,x3,x4,x5,x7,x8,aA,ay,K=>by
  rw[A8w];simp only[←B68 nn a0 n _ _ _ _ _ _ _ K];kernel_rfl
def D1h{R:Type}(nn:Nat)(a0:List (List UInt8))(x3:List B7)(x4:Int)(k1:(List B7)→Int→Option R)(k2:(List B7)→Int→Bool→Option R):Option R:=let z1:=decide (x4<(Bb a0:Int));bif z1 then(match idx a0 x4 with|none=>none|some y2=>(gd (okR [.sl .str (some 1)] (F77 y2)) (let z3:=(K5 (gL (F77 y2) 0));match idx z3 0 with|none=>none|some y4=>(A8w nn a0 nn x3 x4 z3 [] 2 y4 [] (fun z5 z6 z7 z8 z9 e9 dy dM=>gd (A3 (Bb dM+1) 24) (gd (A3 (Bb z5+1) 40) (k1 (z5++[(⟨dy,(dM++[z8])⟩:B7)]) (Ba .i64 (z6+1)))))))))else(k2 x3 x4 z1)
def A8V{R:Type}(nn:Nat)(a0:List (List UInt8)):Nat→(List B7)→Int→((List B7)→Int→Bool→Option R)→Option R
 |0,_,_,_=>none
 |n+1,x3,x4,k2=>D1h nn a0 x3 x4 (fun x3 x4=>A8V nn a0 n x3 x4 k2) k2
theorem B5F{R:Type}(nn:Nat)(a0:List (List UInt8)):∀(n:Nat)(x3:List B7)(x4:Int)(K:Ex→S6→Option R),LP E34 nn Bq [1,1,0,1,0,0] 10003 n (B0A a0 x3 x4) K=A8V nn a0 n x3 x4 (fun x3 x4 de=>K (.exit 0) (B4s a0 x3 x4 de))
 |0,_,_,_=>rfl
 |n+1,x3,x4,K=>by
  rw[A8V];simp only[←B5F nn a0 n _ _ K];have h:LP E34 nn Bq [1,1,0,1,0,0] 10003 (n+1) (B0A a0 x3 x4) K=let z1:=decide (x4<(Bb a0:Int));bif z1 then(match idx a0 x4 with|none=>none|some y2=>(gd (okR [.sl .str (some 1)] (F77 y2)) (let z3:=(K5 (gL (F77 y2) 0));match idx z3 0 with|none=>none|some y4=>(LP E34 nn Bq [1,1,0,1,0,0,1,0,0,1,1,1,0,1,0,0] 10009 nn (B9N a0 x3 x4 z3 [] 2 y4 []) (A8 2 (sk E34 nn Bq [1,1,0,1,0,0,1,0,0,1,1,1,1] (A8 1 (sk E34 nn Bq [1,1,0,1,0,0,1,1] (A1z (E34.drop 10003) (A1w (lbN nn E34 (A0 Bq [1,1,0,1,0,0]) 10003) n K))))))))))else(K (.exit 0) (B4s a0 x3 x4 z1)):=by kernel_rfl
  rw[h];simp only[B68];show _=_;kernel_rfl
def B6a(nn:Nat)(a0:List (List UInt8)):Option E6:=A8V nn a0 nn [] 0 (fun z1 z2 z3=>some (.one (.sl .rule z1 (some 1))))
def F34(a0:List (List UInt8)):Option E6:=B6a NN a0
theorem B2b(nn:Nat){a0:List (List UInt8)}:A2 E34 nn Bq [.sl .str a0 none]=B6a nn a0:=by
 have h:A2 E34 nn Bq [.sl .str a0 none]=LP E34 nn Bq [1,1,0,1,0,0] 10003 nn (B0A a0 [] 0) (A8 0 (sk E34 nn Bq [1,1,1] (B2 E34 Tryz.f34.results.toList))):=by kernel_rfl
 rw[h];simp only[B5F];show _=_;kernel_rfl
def S34:S1T
 |[.sl .str a0 none]=>pR [.sl .rule (some 1)] (F34 a0)
 |_=>none
end Go.Aev
namespace Go.Aev
open Go.Proofs
variable {I:Inv}
theorem B3W(hb:HB I):Sound Ai U6 I 34 (sG S34):=F8 E34 hb rfl ⟨(B1c hb),trivial⟩ trivial Tryz.func34 rfl Tryz.call34 (fun ls r h=>by
 unfold sG S34 at h;split at h
 ·exact E2 (B2b NN) rfl h
 ·cases h)
end Go.Aev
namespace Go.Aev
open Go.Proofs
variable {I:Inv}
theorem A67(hb:HB I):H9 Ai U6 I 46 (sGB S46):=P1 E46 hb rfl trivial ⟨(A6g hb),(B2J hb),(A6h hb),(B3f hb),(B7L hb),trivial⟩ Tryz.func46 rfl Tryz.call46 (fun ls cs r h=>by
 unfold sGB S46 at h;split at h
 ·obtain⟨hc,h⟩:=L8 h;simp only[Bd,L5]at hc;obtain⟨rfl,rfl⟩:=hc;exact P0 (B22 NN) rfl rfl h
 ·cases h)
theorem A7B(hb:HB I):Sound Ai U6 I 18 (sG S18):=F8 E18 hb rfl ⟨hb.s47,hb.s48,trivial⟩ trivial Tryz.func18 rfl Tryz.call18 (fun ls r h=>by
 unfold sG S18 at h;split at h
 ·exact E2 C2C rfl h
 ·cases h)
end Go.Aev
namespace Go.Aev
open Go.Proofs
def lvF:List Bj:=[8,9,11,12,26,28,35,36,37,38,59,60,61,63,64,66,67,68,78,79,80,81,82,83,84,85,87,88,89,132,133,134,135,136,137,139,141,142,150,151,152,153,154,157,184,185,186,187,189,215,263,264,265,266,267,268]
def psV(f:Bj):Option (List Nat):=bif mem f [26,28,36,37,38,59,60,61,63,67,68,78,79,80,82,83,84,87,88,132,133,134,135,136,137,139,141,142,150,151,152,153,157,184,185,186,187,215,266,27,29,44,101]then some [0]else bif mem f [85,154]then some [0,1]else bif mem f [263,264,265,267,268]then some [1]else none
def roV:List Bj:=[26,59,60,61,132,133,134,135,136,137,184,185,186,187,215]
def nfV:List (Nat×List Nat×List Nat×List (Nat×Nat)):=[(8,[4,5,7,33],[4,5],[(33,105)]),(9,[5,6,7],[],[(6,107)]),(11,[5,8,33,34,54],[5],[(33,134),(54,105)]),(12,[5,6,7],[],[(6,107)]),(26,[2,3,4],[2,3],[]),(28,[37,38],[],[(37,138)]),(36,[2,3],[2,3],[]),(59,[4,8,12],[4],[]),(67,[5],[],[]),(78,[2,3],[],[]),(80,[2],[],[]),(82,[8],[8],[]),(84,[6,19],[],[(19,106)]),(87,[7],[],[]),(88,[5],[],[]),(132,[4],[],[]),(133,[6],[],[]),(134,[4],[],[]),(137,[4,7],[4],[]),(142,[5],[],[]),(150,[5],[],[]),(151,[2,3],[],[]),(152,[2,3],[],[]),(153,[2,4,6,23,30,41,47,62],[2],[(23,102),(30,102),(41,102),(47,104),(62,106)]),(154,[9,72],[],[(72,109)]),(184,[4,10],[4],[]),(185,[6],[],[]),(186,[4,5],[],[]),(187,[4,6,14],[4],[(14,106)]),(189,[2,12,17,22],[2],[(12,102),(17,102),(22,102)]),(215,[4],[4],[])]
def lkV:List (Nat×List Nat×List Nat×List (Nat×Nat))→Nat→List Nat×List Nat×List (Nat×Nat)
 |[],_=>([],[],[])
 |(g,x)::r,f=>bif Be f g then x else lkV r f
def stT:List (Bj×S1T):=[(18,S18),(24,S24),(25,S25),(33,S33),(34,S34),(47,S47),(56,S56),(65,S65),(77,S77),(86,S86)]
def stB:List (Bj×S2T):=[(27,S27),(29,S29),(44,S44),(101,A7T)]
abbrev VT:=Bj→List L6→Option E6
abbrev VBT:=Bj→List L6→List (List L6)→Option (List L6×List (List L6))
deriving instance DecidableEq for C2,A1,G3
def B3Z:L6→L6→Bool
 | .sl .node x none,.sl .node y none=>decide ((show List G3 from x)=y)
 | .sl .tok x none,.sl .tok y none=>decide ((show List A1 from x)=y)
 |_,_=>false
def A8s:List L6→List L6→Bool
 |[],[]=>true
 |x::r,y::s=>B3Z x y&&A8s r s
 |_,_=>false
def A6f:List (List L6)→List (List L6)→Bool
 |[],[]=>true
 |x::r,y::s=>A8s x y&&A6f r s
 |_,_=>false
theorem C61{x y:L6}(h:B3Z x y=true):x=y:=by
 unfold B3Z at h;split at h
 ·rw[of_decide_eq_true h]
 ·rw[of_decide_eq_true h]
 ·cases h
theorem B6S:∀{x y:List L6},A8s x y=true→x=y
 |[],[],_=>rfl
 |x::r,y::s,h=>by simp only[A8s,Bd]at h;rw[C61 h.1,B6S h.2]
 |[],_::_,h=>by cases h
 |_::_,[],h=>by cases h
theorem B5m:∀{x y:List (List L6)},A6f x y=true→x=y
 |[],[],_=>rfl
 |x::r,y::s,h=>by simp only[A6f,Bd]at h;rw[B6S h.1,B5m h.2]
 |[],_::_,h=>by cases h
 |_::_,[],h=>by cases h
def tiV(VB:VBT):String→List L6→List (List L6)→Option (Bool×List L6×List (List L6)):=fun nm ls cs=>
 match ls with
 |[.one1 .part x,.ptr d o,.int .i64 a]=>bif decide (nm= "pergola/printer.print")&&(Be d 900000&&Be o 0)then
  (match x with
   | .sel s=>VB 263 [.agg .sel s,.ptr 900000 0,.int .i64 a] cs
   | .root s=>VB 264 [.agg .rd s,.ptr 900000 0,.int .i64 a] cs
   | .field s=>VB 265 [.agg .fd s,.ptr 900000 0,.int .i64 a] cs
   | .value s=>VB 267 [.agg .vald s,.ptr 900000 0,.int .i64 a] cs
   | .input s=>VB 268 [.agg .iv s,.ptr 900000 0,.int .i64 a] cs:Option (List L6×List (List L6))).map fun r=>(true,r.1,r.2)
  else none
 |_=>none
def lvE(V:VT)(VB:VBT)(f:Bj)(fn:Func):Env Ty6 A4:=
 {U:=U6,tb:=tb6,zr:=zr6,cons:=fun _=>none,drop:=fun _=>[],nt:=fn.ntmps,mb:=fun d=>mem d (lkV nfV f).1,np:=match psV f with|none=>0|some [0]=>1|_=>2,oz:=fun d=>mem d (lkV nfV f).2.1,bn:=lkN (lkV nfV f).2.2,bp:=psV,ro:=fun g=>mem g roV,T:=fun g ls=>match lkT stT g ls with|some r=>some r|none=>(V g ls).map fun r=>(true,r),TBg:=fun g ls cs=>match lkB stB g ls cs with|some r=>some r|none=>(VB g ls cs:Option (List L6×List (List L6))).map fun r=>(true,r.1,r.2),TRg:=fun g ls cs=>(VB g ls cs).map fun r=>(A6f r.2 cs,r.1),TIg:=tiV VB,bi:=fun _=>[1]}
def VV(pk:Bj→Option Func):Nat→VT×VBT
 |0=>(fun _ _=>none,fun _ _ _=>none)
 |n+1=>(fun f ls=>bif mem f lvF then match pk f with|some fn=>A2 (lvE (VV pk n).1 (VV pk n).2 f fn) NN fn ls|none=>none else none,
  fun f ls cs=>bif mem f lvF then match pk f,psV f with|some fn,some ps=>I7 (lvE (VV pk n).1 (VV pk n).2 f fn) NN fn ps ls cs|_,_=>none else none)
abbrev EnT(f:Bj):Prop:=∀ args w,(callFunc f args).run Ai w=.ok (.enter f args) w
theorem B51:∀ f,mem f lvF=true→EnT f:=by
 have h:∀{l:List Bj},(∀ f∈l,EnT f)→∀ f,mem f l=true→EnT f:=fun{l} hl f hf=>hl f (by
  induction l with
  |nil=>cases hf
  |cons a r ih=>
   unfold mem at hf;cases hb:Be a f with
   |true=>exact Bi.2 (.inl (Nat.eq_of_beq_eq_true hb).symm)
   |false=>rw[hb]at hf;exact Es _ (ih (fun f h=>hl f (Es _ h)) hf))
 refine h fun f hf=>?_;have:∀{a:Bj}{l:List Bj},EnT a→(∀ f∈l,EnT f)→∀ f∈a::l,EnT f:=fun h1 h2 f hf=>by
  rcases Bi.1 hf with rfl|h
  ·exact h1
  ·exact h2 f h
 exact(this Tryz.call8 (this Tryz.call9 (this Tryz.call11 (this Tryz.call12 (this Tryz.call26 (this Tryz.call28 (this Tryz.call35 (this Tryz.call36 (this Tryz.call37 (this Tryz.call38 (this Tryz.call59 (this Tryz.call60 (this Tryz.call61 (this Tryz.call63 (this Tryz.call64 (this Tryz.call66 (this Tryz.call67 (this Tryz.call68 (this Tryz.call78 (this Tryz.call79 (this Tryz.call80 (this Tryz.call81 (this Tryz.call82 (this Tryz.call83 (this Tryz.call84 (this Tryz.call85 (this Tryz.call87 (this Tryz.call88 (this Tryz.call89 (this Tryz.call132 (this Tryz.call133 (this Tryz.call134 (this Tryz.call135 (this Tryz.call136 (this Tryz.call137 (this Tryz.call139 (this Tryz.call141 (this Tryz.call142 (this Tryz.call150 (this Tryz.call151 (this Tryz.call152 (this Tryz.call153 (this Tryz.call154 (this Tryz.call157 (this Tryz.call184 (this Tryz.call185 (this Tryz.call186 (this Tryz.call187 (this Tryz.call189 (this Tryz.call215 (this Ei (this Eh (this Eg (this Tryz.call266 (this Ef (this Ee (fun f h=>absurd h Bm))))))))))))))))))))))))))))))))))))))))))))))))))))))))) f hf
structure SV(I:Inv)(V:VT×VBT):Prop where
 p:∀ f ls r,V.1 f ls=some r→EnT f∧A1R Ai U6 I f ls r
 b:∀ f ls cs rs av,V.2 f ls cs=some (rs,av)→EnT f∧X9 Ai U6 I f ls cs rs av
theorem C7d{I:Inv}(hb:HB I){V:VT×VBT}(hv:SV I V)(w:World)(m:Nat→Nat)(hI:I w m)(nm:String)(ls:List L6)(cs:List (List L6))(rs:List L6)(av:List (List L6))(h:M1 (tiV V.2 nm ls cs)=some (rs,av)):A6S Ai U6 ⟨w,m,fun _=>False,0,fun _=>undef⟩ nm ls cs rs av:=by
 have hm:∀{o:Option (List L6×List (List L6))},M1 (o.map fun r=>(true,r.1,r.2))=some (rs,av)→o=some (rs,av):=fun{o} h=>by
  cases o with
  |none=>cases h
  |some p=>exact h
 unfold tiV at h;split at h
 ·rename_i x d o a;cases hc:(decide (nm= "pergola/printer.print")&&(Be d 900000&&Be o 0))with
  |false=>rw[hc]at h;cases h
  |true=>
   rw[hc]at h;simp only[Bd,L5,decide_eq_true_eq]at hc;obtain⟨rfl,rfl,rfl⟩:=hc;have h:=hm h;cases x with
   |sel s=>exact A5V hb hI rfl (fun v v1 v2 w=>A5I (f:=263) (by kernel_rfl:Tryz.prog.info? 238=some Tryz.t238) rfl rfl rfl rfl (by kernel_rfl) Ei) (hv.b _ _ _ _ _ h).2
   |root s=>exact A5V hb hI rfl (fun v v1 v2 w=>A5I (f:=264) (by kernel_rfl:Tryz.prog.info? 254=some Tryz.t254) rfl rfl rfl rfl (by kernel_rfl) Eh) (hv.b _ _ _ _ _ h).2
   |field s=>exact A5V hb hI rfl (fun v v1 v2 w=>A5I (f:=265) (by kernel_rfl:Tryz.prog.info? 255=some Tryz.t255) rfl rfl rfl rfl (by kernel_rfl) Eg) (hv.b _ _ _ _ _ h).2
   |value s=>exact A5V hb hI rfl (fun v v1 v2 w=>A5I (f:=267) (by kernel_rfl:Tryz.prog.info? 258=some Tryz.t258) rfl rfl rfl rfl (by kernel_rfl) Ef) (hv.b _ _ _ _ _ h).2
   |input s=>exact A5V hb hI rfl (fun v v1 v2 w=>A5I (f:=268) (by kernel_rfl:Tryz.prog.info? 259=some Tryz.t259) rfl rfl rfl rfl (by kernel_rfl) Ee) (hv.b _ _ _ _ _ h).2
 ·cases h
theorem B5P{I:Inv}(hb:HB I){V:VT×VBT}(hv:SV I V)(f:Bj)(fn:Func):A9I Ai (lvE V.1 V.2 f fn) I:=by
 have hT:A34 I stT:=⟨A7B hb,B0T hb,C3B hb,A7Q hb,B3W hb,hb.s47,A4K hb,hb.s65,B1c hb,B7F hb,trivial⟩;have hB:A3a I stB:=⟨A5G hb,hb.s29,A7F hb,B5H hb,trivial⟩;refine⟨u6_ok,E9,F0,fun g ls r h=>?_,fun g ls cs rs av h=>?_,fun w m hI nm ls cs rs av h=>C7d hb hv w m hI nm ls cs rs av h,fun g ls cs rs h=>?_,hb.mono⟩
 ·change (match lkT stT g ls with|some r=>some r|none=>(V.1 g ls).map fun r=>(true,r))=some (true,r)at h;split at h
  ·rename_i r' e;cases h;exact B0g hT e
  ·cases hc:V.1 g ls with
   |none=>rw[hc]at h;cases h
   |some x=>rw[hc]at h;cases h;exact hv.p _ _ _ hc
 ·change M1 (match lkB stB g ls cs with|some r=>some r|none=>(V.2 g ls cs:Option (List L6×List (List L6))).map fun r=>(true,r.1,r.2))=some (rs,av)at h;split at h
  ·rename_i r' e;exact B2e hB (by rw[e];exact h)
  ·cases hc:V.2 g ls cs with
   |none=>rw[hc]at h;cases h
   |some x=>rw[hc]at h;exact hv.b _ _ _ _ _ (hc.trans h)
 ·change M1 ((V.2 g ls cs).map fun r=>(A6f r.2 cs,r.1))=some rs at h;cases hc:V.2 g ls cs with
  |none=>rw[hc]at h;cases h
  |some x=>
   rw[hc]at h;obtain⟨h1,h2⟩:=A0A h;have:=B5m h1;exact hv.b _ _ _ _ _ (by rw[hc, ←h2, ←this])
theorem svV{I:Inv}(hb:HB I):∀ n,SV I (VV (fun f=>Tryz.prog.funcs[f]?) n)
 |0=>⟨fun _ _ _ h=>(by cases h),fun _ _ _ _ _ h=>(by cases h)⟩
 |n+1=>by
  have ih:=svV hb n;refine⟨fun f ls r h=>?_,fun f ls cs rs av h=>?_⟩
  ·change (bif mem f lvF then _ else _)=_ at h;cases hm:mem f lvF with
   |false=>rw[hm]at h;cases h
   |true=>
    rw[hm,cond_true]at h;split at h
    ·rename_i fn hf;have:=E7 (B5P hb ih f fn) hf rfl (B51 f hm) (S:=fun ls=>A2 (lvE _ _ f fn) NN fn ls) fun ls r h=>⟨NN,h⟩;exact⟨this.enter,this.ok _ _ h⟩
    ·cases h
  ·change (bif mem f lvF then _ else _)=_ at h;cases hm:mem f lvF with
   |false=>rw[hm]at h;cases h
   |true=>
    rw[hm,cond_true]at h;split at h
    ·rename_i fn ps hf eu;have:=B76 (B5P hb ih f fn) hf rfl (B51 f hm) (S:=fun ls cs=>I7 (lvE _ _ f fn) NN fn ps ls cs) fun ls cs r h=>⟨NN,h⟩;exact⟨this.enter,this.ok _ _ _ _ h⟩
    ·cases h
def V0(P:Ci):VT:=(VV (fun f=>P.funcs[f]?) 60).1
theorem A2K{I:Inv}(hb:HB I)(f:Bj)(hf:mem f lvF=true)(he:EnT f):Sound Ai U6 I f (V0 Ai f):=⟨he,fun ls r h=>((svV hb 60).p f ls r h).2⟩
def isT(o:Option E6)(t:List UInt8):Bool:=match o with|some (.one (.str s))=>s==t|_=>false
theorem A8k{o:Option E6}{t:List UInt8}(h:isT o t=true):o=some (.one (.str t)):=by
 unfold isT at h;split at h
 ·rw[eq_of_beq h]
 ·cases h
def src71:List Int:=[123,97,40,120,58,49,41,123,98,125,125]
def A4Y:List UInt8:=[123,10,32,32,97,40,120,58,32,49,41,32,123,10,32,32,32,32,98,10,32,32,125,10,125,10]
def c71(V:VT):Bool:=match V 8 [.sl .u8 src71 none,.int .i64 9]with|some (.tup [.agg .doc d,.agg .fault f])=>(f.kind==0)&&isT (V 9 [.agg .doc d]) A4Y|_=>false
theorem C1d:∃(d:A2R)(f:Q8),V0 Ai 8 [.sl .u8 src71 none,.int .i64 9]=some (.tup [.agg .doc d,.agg .fault f])∧f.kind=0∧V0 Ai 9 [.agg .doc d]=some (.one (.str A4Y)):=by
 have h:c71 (V0 Ai)=true:=by kernel_rfl
 unfold c71 at h;split at h
 ·rename_i d f e;simp only[Bd]at h;exact⟨d,f,e,eq_of_beq h.1,A8k h.2⟩
 ·cases h
def src72:List Int:=[116,121,112,101,32,84,123,97,58,91,73,110,116,33,93,125]
def A5j:List UInt8:=[116,121,112,101,32,84,32,123,10,32,32,97,58,32,91,73,110,116,33,93,10,125,10]
def c72(V:VT):Bool:=match V 11 [.sl .u8 src72 none,.int .i64 9]with|some (.tup [.sl .sys d (some 1),.agg .fault f])=>(f.kind==0)&&isT (V 12 [.sl .sys d none]) A5j|_=>false
theorem C2m:∃(d:List A2V)(f:Q8),V0 Ai 11 [.sl .u8 src72 none,.int .i64 9]=some (.tup [.sl .sys d (some 1),.agg .fault f])∧f.kind=0∧V0 Ai 12 [.sl .sys d none]=some (.one (.str A5j)):=by
 have h:c72 (V0 Ai)=true:=by kernel_rfl
 unfold c72 at h;split at h
 ·rename_i d f e;simp only[Bd]at h;exact⟨d,f,e,eq_of_beq h.1,A8k h.2⟩
 ·cases h
def src73:List Int:=[91,55,93]
def A4D:List UInt8:=[91,55,93]
def c73(V:VT):Bool:=match F14 src73 false 9 with|some (.tup [.agg .lit d,.agg .fault f])=>(f.kind==0)&&isT (F15 d) A4D|_=>false
theorem D0E:∃(d:LitT)(f:Q8),F14 src73 false 9=some (.tup [.agg .lit d,.agg .fault f])∧f.kind=0∧F15 d=some (.one (.str A4D)):=by
 have h:c73 (V0 Ai)=true:=by kernel_rfl
 unfold c73 at h;split at h
 ·rename_i d f e;simp only[Bd]at h;exact⟨d,f,e,eq_of_beq h.1,A8k h.2⟩
 ·cases h
def src74:List Int:=[91,65,33,93]
def A4W:List UInt8:=[91,65,33,93]
def c74(V:VT):Bool:=match F17 src74 9 with|some (.tup [.agg .tref d,.agg .fault f])=>(f.kind==0)&&isT (F18 d) A4W|_=>false
theorem D0O:∃(d:I0)(f:Q8),F17 src74 9=some (.tup [.agg .tref d,.agg .fault f])∧f.kind=0∧F18 d=some (.one (.str A4W)):=by
 have h:c74 (V0 Ai)=true:=by kernel_rfl
 unfold c74 at h;split at h
 ·rename_i d f e;simp only[Bd]at h;exact⟨d,f,e,eq_of_beq h.1,A8k h.2⟩
 ·cases h
def F7:Option E6:=some (.one (.bool true))
def S7:List L6→Option (Bool×E6)
 |[]=>some (okR [.bool] F7,J4 [.bool] F7)
 |_=>none
def E5:Env Ty6 A4:=mkE [(7,S7),(14,S14),(15,S15),(16,S16),(17,S17),(18,S18),(19,S19)] [] noD 43 [5,6,7,8] 0 [] []
def F5(a0:List Int)(a1:Int):Option E6:=gd (okR [.bool] F7) (let z1:= !(lB (gL F7 0));bif z1 then(some (.one (.bool false)))else(let jD:=F14 a0 false a1;gd (okR [.agg .lit,.agg .fault] jD) (let z2:=(A1D (gL jD 0)).kind;let z3:=(A1D (gL jD 0)).text;let z4:=(A1D (gL jD 0)).block;let z5:=(A1D (gL jD 0)).items;let z6:=(A1D (gL jD 0)).fields;let z7:=((A1D (gL jD 0)).pos).line;let z8:=((A1D (gL jD 0)).pos).col;let j9:Bool→Option E6:=fun e9=>gd (okR [.agg .tref,.agg .fault] (F17 a0 a1)) (let dy:=(A9r (gL (F17 a0 a1) 0)).name;let dM:=(A9r (gL (F17 a0 a1) 0)).wrap;bif(((A9X (gL (F17 a0 a1) 1)).kind) !=0)==false then(let eg:=F18 (⟨dy,dM⟩:I0);gd (okR [.str] eg) (let jl:=F19 (⟨dy,dM⟩:I0);gd (okR [.str] jl) (some (.one (.bool ((lS (gL eg 0))==(lS (gL jl 0))))))))else(some (.one (.bool true))));bif(((A9X (gL jD 1)).kind)==0)==true then(let wP:=F15 (LitT.mk z2 z3 z4 z5 z6 (⟨z7,z8⟩:C2));gd (okR [.str] wP) (let kD:=F16 (LitT.mk z2 z3 z4 z5 z6 (⟨z7,z8⟩:C2));gd (okR [.str] kD) (let eo:= !((lS (gL wP 0))==(lS (gL kD 0)));bif eo then(some (.one (.bool false)))else(j9 eo))))else(bif false then(some (.one (.bool false)))else(j9 false)))))
theorem ev5{a0:List Int}{a1:Int}:A2 E5 NN Tryz.f5 [.sl .u8 a0 none,.int .i64 a1]=F5 a0 a1:=by kernel_rfl
def S5:S1T
 |[.sl .u8 a0 none,.int .i64 a1]=>pR [.bool] (F5 a0 a1)
 |_=>none
def B3x:List (List KD):=[[.sl .tok none,.int .i64,.int .i64,.int .i64,.int .i64]]
def A1K(c:CurT):List L6:=[.sl .tok c.toks none,.int .i64 c.at_,.int .i64 c.nest,.int .i64 c.limit,.int .i64 c.kind]
def A1H(F:Option (List L6×List (List L6))):CurT:=⟨lL .tok (gC F 0 0),lI (gC F 0 1),lI (gC F 0 2),lI (gC F 0 3),lI (gC F 0 4)⟩
def A0l(ax:Value)(c:CurT):List Value:=[ax,.int .i64 c.at_,.int .i64 c.nest,.int .i64 c.limit,.int .i64 c.kind]
structure CurB(w:World)(m:Nat→Nat)(cb:Nat)(c:CurT)(ax:Value):Prop where
 bk:Bk w cb (A0l ax c)
 tk:CRep U6 w m (.sl .tok c.toks none) ax
 mz:m cb=0
theorem B8m{w:World}{m:Nat→Nat}{c:CurT}{ax:Value}(h:CRep U6 w m (.sl .tok c.toks none) ax):∀ u∈A0l ax c,u.oneCell'=true∧u.cells= #[u]:=fun u hu=>by
 obtain⟨a,cap,rfl⟩:=h.sl_inv;simp only[A0l,Bi,Bm,or_false]at hu;rcases hu with rfl|rfl|rfl|rfl|rfl<;>exact⟨rfl,rfl⟩
theorem CurB.lsc{w:World}{m:Nat→Nat}{cb:Nat}{c:CurT}{ax:Value}(h:CurB w m cb c ax):LsC U6 w m (A1K c) (A0l ax c):=⟨h.tk,.int _ _,.int _ _,.int _ _,.int _ _,trivial⟩
theorem CurB.keep{w w':World}{m m':Nat→Nat}{cb:Nat}{c:CurT}{ax:Value}{S:Nat→Prop}(h:CurB w m cb c ax)(k:KM w m w' m' S)(hS:¬S cb):CurB w' m' cb c ax:=
 ⟨k.bk h.bk hS,h.tk.mono u6_ok k.ext,(k.mark h.bk.lt hS).trans h.mz⟩
theorem B6U{w:World}{m:Nat→Nat}{c:CurT}{us:List Value}(h:LsC U6 w m (A1K c) us):∃ ax,us=A0l ax c∧CRep U6 w m (.sl .tok c.toks none) ax:=by
 match us,h with
 |[a,b1,b2,b3,b4],⟨h1,h2,h3,h4,h5,_⟩=>
  exact⟨a,by rw[CRep.int_inv h2,CRep.int_inv h3,CRep.int_inv h4,CRep.int_inv h5];rfl,h1⟩
theorem Y7{P:Ci}{I:Inv}{f:Bj}{S:List L6→List (List L6)→Option (Bool×List L6×List (List L6))}(snd:H9 P U6 I f (sGB S)){w:World}{m:Nat→Nat}{cb:Nat}{c:CurT}{ax:Value}{ls:List L6}{vs:List Value}{ks:List KD}{F:Option (List L6×List (List L6))}
  (hS:S (.ptr 900000 0::ls) [A1K c]=some (okB ks B3x F,rsR ks F,csR B3x F))(cK:okB ks B3x F=true)(hI:I w m)(hz:∀ b,w.heap.size≤b→m b=0)(bm:LsC U6 w m ls vs)(cm:ls.all clL=true)(hc:CurB w m cb c ax):
  Calls P f (.pointer (some ⟨cb,0,none⟩)::vs).toArray w fun e w'=>∃ m' rv cN,e=.returned (S9 rv)∧KM w m w' m' (fun k=>k=cb)∧CurB w' m' cb (A1H F) cN∧LsC U6 w' m' (rsR ks F) rv:=by
 refine(C2x snd (c':=A1K (A1H F)) (C3K hS cK) hI hz bm cm hc.bk (B8m hc.tk) (show 0<5 by decide) hc.mz hc.lsc rfl).mono fun e w' ⟨m',rv,gq,h1,h2,h3,h4,h5,h6,h7,h8⟩=>?_;obtain⟨cN,rfl,h9⟩:=B6U h7;exact⟨m',rv,cN,h1,h2,⟨h3,h9,h4⟩,h8⟩
end Go.Aev
