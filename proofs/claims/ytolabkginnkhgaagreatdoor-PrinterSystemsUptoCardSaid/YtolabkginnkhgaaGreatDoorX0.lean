/- Proved here: lemmas that the claim's text uses. Conditions: those that each lemma states. -/
import Derived.WalkKit
import Derived.Orders
import Derived.KernelRfl
import Derived.Great.BuildSlice
import Derived.Lib.OthersKept
import Derived.Laws.Cover4
set_option maxRecDepth 100000
set_option linter.unusedVariables false
set_option linter.unusedSimpArgs false
open Nat renaming beq→Aw,blt→Ay,le_refl→Bf,zero_le→Bj,ble→Bl,lt_or_ge→Bu,blt_eq→Cb,add_mul→Cc,le_trans→Cv,le_of_ble_eq_true→Dm,mul_le_mul_right→Dx,add_assoc→Dy,zero_add→Et,one_ne_zero→Eu,one_mul→Ev,not_lt→Ew,le_succ_of_le→Ey,add_zero→Ez,mul_one→Gc,lt_of_lt_of_le→Ge,le_mul_of_pos_right→Gf,add_comm→Gg
open Go renaming TypeId→Ax,execOp→Az,Operand→Ba,run_underlying→Bb,Program→Bg,FuncId→Bi,typeInfo→Bp,ResultVar→By,IntKind→Cd,sizeOf→Ce,loadVar→Cf,newRow→Cn,loadCells→Co,grownCap→Ct,resolve→Db,invoke→Dc,convert→Dd,builtin→Dj,storeCells→Du,results→Dv,callFunc→Dw,run_sliceBound_if→Ej,run_loadCells→Ek,markStringish→El,madeCells→Em,loadCellsFrom→En,run_runesToString→Fm,run_loadCells_list→Fo,run_bytesToString→Fp,eqGuard_at_bool→Fq
open Option.some renaming injEq→Be,inj→Ca
open List renaming getElem?_eq_getElem→Bh,getElem?_map→Bn,range→Ch,length_cons→Ck,getElem?_append_left→Cq,mem_of_getElem?→Cw,getElem?_append_right→Cx,getElem?_take→De,getElem?_range→Df,getElem?_drop→Dg,eq_nil_of_length_eq_zero→Dh,mem_cons→Dn,getElem?_eq_none→Do,mapM_cons→Dz,getElem_of_mem→Ea,zipIdx_cons→Fa,map_map→Fb,map_congr_left→Fc,length_map→Fe,length_append→Ff,foldl_cons→Fg,take_zero→Gi,size_toArray→Gj,mem_map→Gk,mem_cons_self→Gl,mem_cons_of_mem→Gm,map_cons→Gn,length→Gp,getElem?_cons_succ→Gq,getD_eq_getElem?_getD→Gr,flatMap_cons→Gt,any_eq_true→Gv
open Bool renaming and_eq_true→Bm,false_eq_true→Fj,not_eq_true'→He
open Ne renaming symm→Bo
open Go.World renaming cell?_of_block→Bq,cell?→Br,freeze→Bx,shape?→Fs,setCell→Ft
open Array renaming getElem?_eq_some_iff→Bw,getElem?_push→Cm,getElem?_toList→Cs,replicate→Dq,getElem?_modify→Dr,toList_map→Ee,getD_eq_getD_getElem?→Ef,ext'→Eg,getElem?_setIfInBounds→Fk,getElem?_append_left→Fl,size_setIfInBounds→Hf,length_toList→Hh
open Go.Question renaming appendCap→Bz,forced→Ep,cut→Fw
open Go.Utf8 renaming decode→Cg,encode→Fu
open Go.Addr renaming add_lit→Ci,mk→Eh
open Option renaming map_eq_some_iff→Cj,map_some→Cu,pure_def→Fy,isSome_none→Fz,bind_eq_some_iff→Ga,bind_eq_bind→Gb
open Go.Builtin renaming firstCells→Cl,append_→Da,lenOf→Di,zeroCells→Fi,len_→Hc
open Go.Value renaming int→Cp,cells→Dk
open Go.Conv renaming runesFrom→Cr,runesToString→Gz,bytesToString→Ha
open Go.Instr renaming sureAddr→Cy,loadAt→Dp,sliceBounds→Eb,fill→Ec,buildSlice→Ed,sliceAt→Gw,slice→Gx,box→Gy
open ByteArray renaming mk→Cz,size→Fh
open Prod.mk renaming injEq→Dl
open Go.Act renaming eval→Ds,put→Ei
open UInt8 renaming ofNat→Eo
open Go.Oper renaming wp→Er
open Go.Op renaming stringOp→Es
open Go.Sem renaming run_bind→Fv
open Go.Program renaming built→Fx
open List.cons renaming injEq→Gu
open Go.ByteArray renaming extract_mk→Hb
open Go.Array renaming range_zero'→Hg
open Go.Value.slice renaming injEq→Hi
section
theorem Ap.{u}{α:Sort u}(a b:α):(bif true then a else b)=a:=rfl
theorem Aq.{u}{α:Sort u}(a b:α):(bif false then a else b)=b:=rfl
theorem Ar{p:Prop}[Decidable p](h:p):decide p=true:=decide_eq_true h
theorem As{p:Prop}[Decidable p](h:¬p):decide p=false:=decide_eq_false h
theorem At.{u}{c:Prop}{d:Decidable c}(h:¬c){α:Sort u}{t e:α}:ite c t e=e:=if_neg h
theorem Au.{u}{c:Prop}{d:Decidable c}(h:c){α:Sort u}{t e:α}:ite c t e=t:=if_pos h
theorem Av{p:Prop}[Decidable p](h:decide p=true):p:=of_decide_eq_true h
namespace Go.Aev
open Go
abbrev Ak:=Option Nat
abbrev Aj:=List Nat
abbrev Ai:=List Value
abbrev Ab:=List UInt8
abbrev Ag:=List Ab
abbrev Aa:=List Int
abbrev Am:=List Aa
section defs
variable (Ty:Type)(den:Ty->Type)
inductive Leaf:Type where
 |any
 |int (k:Cd) (n:Int)
 |bool (b:Bool)
 |str (s:Ab)
 |sl (t:Ty) (l:List (den t)) (own:Ak)
 |elem (t:Ty) (x:den t) (off:Nat)
 |agg (t:Ty) (x:den t)
 |val (v:Value)
 |ptr (d off:Nat)
 |ifc (T:Ax) (t:Ty) (x:den t)
 |one1 (t:Ty) (x:den t)
 |nils
inductive Ent:Type where
 |one (l:Leaf Ty den)
 |tup (ls:List (Leaf Ty den))
 |iter (s:Ab) (pos:Nat)
 |bx (d:Nat) (ls:List (Leaf Ty den))
 |st (ls:List (Leaf Ty den))
structure UO where
 deq:(t u:Ty)->Decidable (t=u)
 cells:(t:Ty)->den t->List (Leaf Ty den)
 dec:(t:Ty)->List (Leaf Ty den)->Option (den t)
 ofBytes:(t:Ty)->Option (Ab->List (den t))
 toBytes:(t:Ty)->Option (List (den t)->Ab)
 ofRunes:(t:Ty)->Option (Aa->List (den t))
 toRunes:(t:Ty)->Option (List (den t)->Aa)
 size:Ty->Nat
 bytes:Ty->Nat
 bty:Nat:=0
 ety:Ty->Option Ax:=λ_=>none
 dcx:(t:Ty)->List (Leaf Ty den)->Option (den t):=λ_ _=>none
inductive TK where
 |int (k:Cd)
 |str
 |bool
 |slice (t:Ty) (e:Ax)
 |struct (t:Ty) (fs:List (Nat×Nat))
 |iface (t:Ty)
 |other
structure St where
 fr:List (Nat×Ent Ty den)
 live:Aj
structure Env where
 U:UO Ty den
 tb:Ax->TK Ty
 T:Bi->List (Leaf Ty den)->Option (Bool×Ent Ty den)
 cons:Bi->Ak
 drop:Nat->Aj
 nt:Nat
 zr:Ax->Option (List (Leaf Ty den)):=λ_=>none
 mb:Nat->Bool:=λ_=>false
 bn:Nat->Nat:=λd=>100+d
 np:Nat:=0
 oz:Nat->Bool:=λ_=>false
 TIg:String->List (Leaf Ty den)->List (List (Leaf Ty den))->Option (Bool×List (Leaf Ty den)×List (List (Leaf Ty den))):=λ_ _ _=>none
 bi:String->Aj:=λ_=>[]
 rw:Bool:=false
 rm:Nat->Bool:=λ_=>false
 fty:Ax->Option Ty:=λ_=>none
 fzs:Aj:=[]
 nw:Bi->Bool:=λ_=>false
 TNg:Bi->List (Leaf Ty den)->Option (Bool×List (Leaf Ty den)):=λ_ _=>none
 bp:Bi->Option Aj:=λ_=>none
 ro:Bi->Bool:=λ_=>false
 TRg:Bi->List (Leaf Ty den)->List (List (Leaf Ty den))->Option (Bool×List (Leaf Ty den)):=λ_ _ _=>none
 TBg:Bi->List (Leaf Ty den)->List (List (Leaf Ty den))->Option (Bool×List (Leaf Ty den)×List (List (Leaf Ty den))):=λ_ _ _=>none
end defs
variable {Ty:Type}{den:Ty->Type}
def M9{α:Type}:Option (Bool×α)->Option α
 |some (true,a)=>some a
 |_=>none
def Env.TI(E:Env Ty den)(nm:String)(ls:List (Leaf Ty den))(cs:List (List (Leaf Ty den))):Option (List (Leaf Ty den)×List (List (Leaf Ty den))):=M9 (E.TIg nm ls cs)
def Env.TR(E:Env Ty den)(f:Bi)(ls:List (Leaf Ty den))(cs:List (List (Leaf Ty den))):Option (List (Leaf Ty den)):=M9 (E.TRg f ls cs)
def Env.TB(E:Env Ty den)(f:Bi)(ls:List (Leaf Ty den))(cs:List (List (Leaf Ty den))):Option (List (Leaf Ty den)×List (List (Leaf Ty den))):=M9 (E.TBg f ls cs)
def C4:Nat:=77777777
def A0p(n t sz:Nat):Nat:=1000000000+((n*1000+t)*100+sz)
def rS(o:Nat):Nat:=o % 100
def rT(o:Nat):Nat:=o / 100 % 1000
def rN(o:Nat):Nat:=o / 100000 % 10000
def mem(d:Nat):Aj->Bool
 |[]=>false
 |e::r=>bif Aw e d then true else mem d r
def rem(d:Nat):Aj->Aj
 |[]=>[]
 |e::r=>bif Aw e d then rem d r else e::rem d r
def Leaf.close:Leaf Ty den->Leaf Ty den
 | .sl t l _=>.sl t l none
 | .ptr _ _=>.any
 |x=>x
def Leaf.strip(d:Nat):Leaf Ty den->Leaf Ty den
 | .sl t l (some e)=>.sl t l (bif Aw e d then none else some e)
 | .ptr e o=>bif Aw e d then .any else .ptr e o
 |x=>x
def Ent.strip(d:Nat):Ent Ty den->Ent Ty den
 | .one l=>.one (l.strip d)
 | .tup ls=>.tup (ls.map (·.strip d))
 | .st ls=>.st (ls.map (·.strip d))
 | .bx e ls=>bif Aw e d then .one .any else .bx e (ls.map (·.strip d))
 |e=>e
def A7G(d:Nat):List (Nat×Ent Ty den)->List (Nat×Ent Ty den)
 |[]=>[]
 |(i,e)::r=>(i,e.strip d)::A7G d r
def look:List (Nat×Ent Ty den)->Nat->Ent Ty den
 |[],_=>.one .any
 |(j,e)::r,i=>bif Aw j i then e else look r i
def ins:List (Nat×Ent Ty den)->Nat->Ent Ty den->List (Nat×Ent Ty den)
 |[],i,e=>[(i,e)]
 |(j,x)::r,i,e=>bif Aw j i then(i,e)::r else bif Ay i j then(i,e)::(j,x)::r else(j,x)::ins r i e
def del:List (Nat×Ent Ty den)->Aj->List (Nat×Ent Ty den)
 |[],_=>[]
 |(j,x)::r,ds=>bif mem j ds then del r ds else(j,x)::del r ds
namespace St
def get(s:St Ty den)(i:Nat):Ent Ty den:=look s.fr i
def set(s:St Ty den)(i:Nat)(e:Ent Ty den):St Ty den:={s with fr:=ins s.fr i e}
def setO(s:St Ty den)(d:Ak)(e:Ent Ty den):St Ty den:=match d with|some i=>s.set i e|none=>s
def fresh(s:St Ty den)(d:Nat):St Ty den:={fr:=A7G d s.fr,live:=d::rem d s.live}
def kill(s:St Ty den)(d:Nat):St Ty den:={fr:=A7G d s.fr,live:=rem d s.live}
def dels(s:St Ty den)(ds:Aj):St Ty den:={s with fr:=del s.fr ds}
end St
def C1t:Value->Leaf Ty den
 | .int k n=>.int k n
 | .bool b=>.bool b
 | .string s=>.str s.data.toList
 |_=>.any
def opd(E:Env Ty den)(s:St Ty den)(ty:Ax):Ba->Ent Ty den
 | .tmp t=>match s.get t with
  | .iter _ _=>.one .any
  | .bx _ _=>.one .any
  |e=>e
 | .const v=>match v with
  | .slice none 0 0=>match E.tb ty with
   | .slice u _=>.one (.sl u [] none)
   |_=>.one .any
  |v=>.one (C1t v)
 |_=>.one .any
def opl(E:Env Ty den)(s:St Ty den)(ty:Ax)(x:Ba):Leaf Ty den:=
 match opd E s ty x with
 | .one l=>l
 |_=>.any
def Y3:Ba->Bool
 | .const (.slice none 0 0)=>true
 |_=>false
def C6(dst:Ak):Nat:=match dst with|some d=>100+d|none=>99
def nmR(dst:Ak)(j:Nat):Nat:=match dst with|some d=>1000*(j+1)+d|none=>98
def B5W(op:BinOp)(k:Cd)(a b:Int):Option (Leaf Ty den):=
 match op with
 | .add=>some (.int k (k.wrap (a+b)))
 | .sub=>some (.int k (k.wrap (a - b)))
 | .mul=>some (.int k (k.wrap (a*b)))
 | .eql=>some (.bool (a==b))
 | .neq=>some (.bool (a !=b))
 | .lss=>some (.bool (a<b))
 | .leq=>some (.bool (a<=b))
 | .gtr=>some (.bool (a>b))
 | .geq=>some (.bool (a>=b))
 | .and=>some (.int k (bits .and k a b))
 | .or=>some (.int k (bits .or k a b))
 |_=>none
def idx{α:Type}(l:List α)(i:Int):Option α:=bif decide (0<=i)then l[i.toNat]? else none
def sub{α:Type}(l:List α)(lo hi:Int):Option (List α):=
 bif decide (0<=lo)&&(decide (lo<=hi)&&decide (hi<=(l.length:Int)))then some ((l.drop lo.toNat).take (hi.toNat - lo.toNat))else none
def R2(U:UO Ty den)(t u:Ty)(l:List (den u)):Option (List (den t)):=
 match U.deq u t with
 | .isTrue h=>some (h ▸ l)
 | .isFalse _=>none
def A2(n b:Nat):Bool:=decide (n*b<=140737488355328)
def A4F(ns:Aa):Ab:=ns.flatMap λn=>(Fu n).data.toList
inductive Ex where
 |normal|exit (id:Nat)|ret
section ev
variable (E:Env Ty den){R:Type}
def V6(s:St Ty den)(d:Int):Option Ba->Option Int
 |none=>some d
 |some x=>match opl E s 0 x with
  | .int _ n=>some n
  |_=>none
def F8:List (Leaf Ty den)->List (Leaf Ty den)
 |[]=>[]
 |l::r=>l.close::F8 r
def Q5(s:St Ty den):List Ax->List Ba->List (Leaf Ty den)
 |_,[]=>[]
 |[],x::r=>opl E s 0 x::Q5 s [] r
 |t::ts,x::r=>opl E s t x::Q5 s ts r
def A1i(nm:Nat)(t:Ty)(l:List (den t))(s:St Ty den):Leaf Ty den×St Ty den:=
 bif mem nm s.live then(.sl t l none,s)else(.sl t l (some nm),s.fresh nm)
def P1(dst:Ak)(p:Ak)(j:Nat)(s:St Ty den):Leaf Ty den->Leaf Ty den×St Ty den
 | .sl t l (some 0)=>match p with
  |some d=>A1i d t l s
  |none=>(.sl t l none,s)
 | .sl t l (some (i+1))=>bif Aw i j then A1i (nmR dst j) t l s else(.sl t l none,s)
 | .ptr _ _=>(.any,s)
 |x=>(x,s)
def S9(dst:Ak)(p:Ak):Nat->St Ty den->List (Leaf Ty den)->List (Leaf Ty den)×St Ty den
 |_,s,[]=>([],s)
 |j,s,l::r=>
  let (l',s'):=P1 dst p j s l
  let (r',mK):=S9 dst p (j+1) s' r
  (l'::r',mK)
def bxi(d:Nat):Nat:=1000000+d
def O6(s:St Ty den)(d:Nat):Option (List (Leaf Ty den)):=match s.get (bxi d)with
 | .bx e ls=>bif Aw e d then some ls else none
 |_=>none
def C0(k:Nat):Nat:=900000+k
def bo(d j:Nat):Nat:=2000000+(100*d+j)
def pk1(k d c:Nat)(s:St Ty den):Leaf Ty den->Leaf Ty den×St Ty den
 | .sl t x (some e)=>bif mem e s.live then(.sl t x (some c),s.kill e)else(.sl t x none,s)
 | .ptr e o=>(bif Aw e d&&Aw o C4 then .ptr (C0 k) C4 else .any,s)
 |l=>(l.close,s)
def pkC(k d:Nat):Nat->St Ty den->List (Leaf Ty den)->List (Leaf Ty den)×St Ty den
 |_,s,[]=>([],s)
 |j,s,l::r=>
  let (l',s'):=pk1 k d (bo (C0 k) j) s l
  let (r',mK):=pkC k d (j+1) s' r
  (l'::r',mK)
def pkB:Nat->St Ty den->Aj->Option (List (List (Leaf Ty den))×St Ty den)
 |_,s,[]=>some ([],s)
 |k,s,d::r=>match s.get (bxi d)with
  | .bx e ls=>bif Aw e d&&(Ay ls.length 100&&Ay d 1000000)then
   (let (c,s'):=pkC k d 0 s ls
   match pkB (k+1) s' r with
   |some (cs,mK)=>some (c::cs,mK)
   |none=>none)else none
  |_=>none
def G4:Nat->List (List (Leaf Ty den))->List (Leaf Ty den)
 |_,[]=>[]
 |k,c::r=>.ptr (C0 k) 0::(c++G4 (k+1) r)
def A1R(ls:List (Leaf Ty den)):Aj->Option Aj
 |[]=>some []
 |p::ps=>match ls.getD p .any,A1R ls ps with
  | .ptr d 0,some ds=>some (d::ds)
  |_,_=>none
def A5O(ls:List (Leaf Ty den)):Nat->Aj->List (Leaf Ty den)
 |_,[]=>ls
 |k,p::ps=>(A5O ls (k+1) ps).set p (.ptr (C0 k) 0)
def A0e:Aj->Bool
 |[]=>true
 |x::r=> !mem x r&&A0e r
def A1X(s:St Ty den):Aj->Bool
 |[]=>true
 |d::r=>mem d s.live&&A1X s r
def W6(s:St Ty den):Aj->St Ty den
 |[]=>s
 |d::r=>(W6 s r).set (bxi d) (.one .any)
def P5(k d c n:Nat)(s:St Ty den):Leaf Ty den->Leaf Ty den×St Ty den
 | .sl t x (some e)=>bif Aw e c then A1i n t x s else(.sl t x none,s)
 | .ptr e o=>(bif Aw e (C0 k)&&Aw o C4 then .ptr d C4 else .any,s)
 |l=>(l,s)
def unC(k d:Nat):Nat->St Ty den->List (Leaf Ty den)->List (Leaf Ty den)×St Ty den
 |_,s,[]=>([],s)
 |j,s,l::r=>
  let (l',s'):=P5 k d (bo (C0 k) j) (bo d j) s l
  let (r',mK):=unC k d (j+1) s' r
  (l'::r',mK)
def unB:Nat->St Ty den->Aj->List (List (Leaf Ty den))->St Ty den
 |k,s,d::ds,c::cs=>
  let (c',s'):=unC k d 0 s c
  unB (k+1) (s'.set (bxi d) (.bx d c')) ds cs
 |_,s,_,_=>s
def A5w:List (Leaf Ty den)->Ent Ty den
 |[l]=>.one l
 |ls=>.tup ls
def A7K:List (List (Leaf Ty den))->Bool
 |[]=>true
 |c::r=>Ay c.length 100&&A7K r
def A7h(S:List (Leaf Ty den)->List (List (Leaf Ty den))->Option (List (Leaf Ty den)×List (List (Leaf Ty den))))(ps:Aj)(ls:List (Leaf Ty den))(dst:Ak)(s:St Ty den)(k:Ent Ty den->St Ty den->Option R):Option R:=
 match A1R ls ps with
 |some ds=>bif A0e ds&&Ay ds.length 100 then(match pkB 0 s ds with
  |some (cs,s1)=>bif A1X s1 ds then(match S (A5O (F8 ls) 0 ps) cs with
   |some (rs,aR)=>bif Aw aR.length ds.length&&(Ay rs.length 100&&A7K aR)then
    (let (rU,s2):=S9 dst none 0 (W6 s1 ds) rs
    bif A1X s2 ds then k (A5w rU) (unB 0 s2 ds aR)else none)else none
   |none=>none)else none
  |none=>none)else none
 |none=>none
def B7E(f:Bi)(ps:Aj)(dp:List Ax)(args:List Ba)(dst:Ak)(s:St Ty den)(k:Ent Ty den->St Ty den->Option R):Option R:=
 A7h (E.TB f) ps (Q5 E s dp args) dst s k
def A9x(S:List (Leaf Ty den)->List (List (Leaf Ty den))->Option (Bool×List (Leaf Ty den)×List (List (Leaf Ty den))))(ps:Aj)(ls:List (Leaf Ty den))(dst:Ak)(s:St Ty den)(k:Ent Ty den->St Ty den->Option R):Option R:=
 match A1R ls ps with
 |some ds=>bif A0e ds&&Ay ds.length 100 then(match pkB 0 s ds with
  |some (cs,s1)=>bif A1X s1 ds then(match S (A5O (F8 ls) 0 ps) cs with
   |some (gd,rs,aR)=>bif gd then(bif Aw aR.length ds.length&&(Ay rs.length 100&&A7K aR)then
    (let (rU,s2):=S9 dst none 0 (W6 s1 ds) rs
    bif A1X s2 ds then k (A5w rU) (unB 0 s2 ds aR)else none)else none)else none
   |none=>none)else none
  |none=>none)else none
 |none=>none
def B8d(f:Bi)(ps:Aj)(dp:List Ax)(args:List Ba)(dst:Ak)(s:St Ty den)(k:Ent Ty den->St Ty den->Option R):Option R:=
 A9x (E.TBg f) ps (Q5 E s dp args) dst s k
theorem B9U{S:List (Leaf Ty den)->List (List (Leaf Ty den))->Option (Bool×List (Leaf Ty den)×List (List (Leaf Ty den)))}{ps:Aj}{ls:List (Leaf Ty den)}{dst:Ak}{s:St Ty den}{k:Ent Ty den->St Ty den->Option R}{r:R}
  (h:A9x S ps ls dst s k=some r):A7h (λa b=>M9 (S a b)) ps ls dst s k=some r:=by
 unfold A9x at h;unfold A7h;split at h
 ·rename_i ds iC
  revert h
  cases A0e ds&&Ay ds.length 100 with
  |false=>intro h;cases h
  |true=>
   simp only[Ap];intro h;split at h
   ·rename_i cs s1 uY
    revert h
    cases A1X s1 ds with
    |false=>intro h;cases h
    |true=>
     simp only[Ap];intro h;split at h
     ·rename_i gd rs aR hS;cases gd with
      |false=>cases h
      |true=>simp only[hS,M9];exact h
     ·cases h
   ·cases h
 ·cases h
theorem D79{f:Bi}{ps:Aj}{dp:List Ax}{args:List Ba}{dst:Ak}{s:St Ty den}{k:Ent Ty den->St Ty den->Option R}{r:R}
 (h:B8d E f ps dp args dst s k=some r):B7E E f ps dp args dst s k=some r:=B9U h
def nlL(nm j:Nat):Leaf Ty den->Leaf Ty den
 | .sl t [] none=>.sl t [] (some (bo nm j))
 |l=>l
def nlS(nm j:Nat)(s:St Ty den):Leaf Ty den->St Ty den
 | .sl _ [] none=>s.fresh (bo nm j)
 |_=>s
def A0R(nm:Nat):Nat->List (Leaf Ty den)->List (Leaf Ty den)
 |_,[]=>[]
 |j,l::r=>nlL nm j l::A0R nm (j+1) r
def A6h(nm:Nat):Leaf Ty den->Leaf Ty den
 | .val (.pointer none)=>.ptr nm C4
 |l=>l
def A5a(b:Bool)(nm:Nat)(ls:List (Leaf Ty den)):List (Leaf Ty den):=bif b then ls.map (A6h nm)else ls
def A5s(nm:Nat):Nat->St Ty den->List (Leaf Ty den)->St Ty den
 |_,s,[]=>s
 |j,s,l::r=>A5s nm (j+1) (nlS nm j s l) r
def B4F(f:Bi)(dp:List Ax)(args:List Ba)(dst:Ak)(s:St Ty den)(k:Ent Ty den->St Ty den->Option R):Option R:=
 let ls:=Q5 E s dp args
 match E.cons f with
 |none=>match E.T f (F8 ls)with
  |some (gd,.one l)=>bif gd then(let (l',s'):=P1 dst none 0 s l;k (.one l') s')else none
  |some (gd,.tup r)=>bif gd then(let (r',s'):=S9 dst none 0 s r;k (.tup r') s')else none
  |_=>none
 |some p=>match ls.getD p .any with
  | .sl t l (some d)=>bif mem d s.live then
    match E.T f ((F8 ls).set p (.sl t l (some 0)))with
    |some (gd,.one l)=>bif gd then(let (l',s'):=P1 dst (some d) 0 (s.kill d) l;k (.one l') s')else none
    |some (gd,.tup r)=>bif gd then(let (r',s'):=S9 dst (some d) 0 (s.kill d) r;k (.tup r') s')else none
    |_=>none
   else none
  |_=>none
def A1L:List (Leaf Ty den)->Bool
 |[]=>true
 | .sl _ _ (some _)::_=>false
 | .ptr _ _::_=>false
 |_::r=>A1L r
def A1W(s:St Ty den):Aj->Option (List (List (Leaf Ty den)))
 |[]=>some []
 |d::r=>match O6 s d,A1W s r with
  |some ls,some cs=>bif A1L ls&&Ay d 1000000 then some (ls::cs)else none
  |_,_=>none
def A38(f:Bi)(dp:List Ax)(args:List Ba)(s:St Ty den):Option (Ent Ty den):=
 let ls:=Q5 E s dp args
 match E.bp f with
 |none=>match E.T f (F8 ls)with
  |some (true,.one l)=>some (.one l.close)
  |some (true,.tup r)=>some (.tup (F8 r))
  |_=>none
 |some ps=>match A1R ls ps with
  |some ds=>bif A0e ds then(match A1W s ds with
   |some cs=>match E.TR f (A5O (F8 ls) 0 ps) cs with
    |some rs=>some (A5w (F8 rs))
    |none=>none
   |none=>none)else none
  |none=>none
def A9p(f:Bi)(dp:List Ax)(args:List Ba)(s:St Ty den)(k:Ent Ty den->Option R):Option R:=
 let ls:=Q5 E s dp args
 match E.bp f with
 |none=>match E.T f (F8 ls)with
  |some (gd,.one l)=>bif gd then k (.one l.close)else none
  |some (gd,.tup r)=>bif gd then k (.tup (F8 r))else none
  |_=>none
 |some ps=>match A1R ls ps with
  |some ds=>bif A0e ds then(match A1W s ds with
   |some cs=>match E.TRg f (A5O (F8 ls) 0 ps) cs with
    |some (gd,rs)=>bif gd then k (A5w (F8 rs))else none
    |none=>none
   |none=>none)else none
  |none=>none
theorem C0h{f:Bi}{dp:List Ax}{args:List Ba}{s:St Ty den}{k:Ent Ty den->Option R}{r:R}
  (h:A9p E f dp args s k=some r):∃e,A38 E f dp args s=some e/\k e=some r:=by
 unfold A9p at h;unfold A38;dsimp only at h ⊢;split at h
 ·split at h
  ·rename_i gd l hT;cases gd with
   |false=>cases h
   |true=>exact⟨_,by simp only[hT],h⟩
  ·rename_i gd l hT;cases gd with
   |false=>cases h
   |true=>exact⟨_,by simp only[hT],h⟩
  ·cases h
 ·split at h
  ·rename_i ds iC
   revert h
   cases A0e ds with
   |false=>intro h;cases h
   |true=>
    simp only[Ap];intro h;split at h
    ·rename_i cs ct;split at h
     ·rename_i gd rs hT;cases gd with
      |false=>cases h
      |true=>exact⟨_,by simp only[ct,Env.TR,hT,M9],h⟩
     ·cases h
    ·cases h
  ·cases h
def A9q:Leaf Ty den->Bool
 | .nils=>true
 |_=>false
def B6Q(t u:Ax)(x y:Ba)(dst:Ak)(s:St Ty den)(k:Ent Ty den->St Ty den->Option R):Option R:=
 match E.tb t,(bif Y3 x||A9q (opl E s t x)then(match E.tb t with
   | .slice t' _=>(Leaf.sl t' [] (some (C6 dst)),s.fresh (C6 dst))
   |_=>(Leaf.any,s))else(opl E s t x,s))with
 | .slice t' _,(.sl t0 l0 (some d),s1)=>match R2 E.U t' t0 l0 with
  |some l=>bif mem d s1.live then
    match E.tb u,opl E s u y with
    | .slice _ _,.sl v m _=>match R2 E.U t' v m with
     |some m'=>bif A2 (l.length+m'.length) (E.U.bytes t')then k (.one (.sl t' (l++m') (some d))) (s1.fresh d)else none
     |none=>none
    | .str,.str b=>match E.U.ofBytes t' with
     |some f=>bif A2 (l.length+b.length) (E.U.bytes t')then k (.one (.sl t' (l++f b) (some d))) (s1.fresh d)else none
     |none=>none
    |_,_=>none
   else none
  |none=>none
 |_,_=>none
def A1P(b:Builtin)(dp:List Ax)(args:List Ba)(dst:Ak)(s:St Ty den)(k:Ent Ty den->St Ty den->Option R):Option R:=
 match b,dp,args with
 | .len,[t],[x]=>match E.tb t,opl E s t x with
  | .slice _ _,.sl _ l _=>k (.one (.int .i64 l.length)) s
  | .str,.str b=>k (.one (.int .i64 b.length)) s
  |_,_=>none
 | .min,_,[x,y]=>match opl E s 0 x,opl E s 0 y with
  | .int k0 a,.int _ b=>k (.one (.int k0 (if b<a then b else a))) s
  |_,_=>none
 | .max,_,[x,y]=>match opl E s 0 x,opl E s 0 y with
  | .int k0 a,.int _ b=>k (.one (.int k0 (if b>a then b else a))) s
  |_,_=>none
 | .append,[t,u],[x,y]=>B6Q E t u x y dst s k
 |_,_,_=>none
def A2r(s:St Ty den)(ty:Ax):Nat->List (Nat×Ba)->Option (List (Leaf Ty den))
 |_,[]=>some []
 |i,(j,x)::r=>bif Aw i j then(A2r s ty (i+1) r).map ((opl E s ty x).close:: ·)else none
def A3Z(u:Ty)(s:St Ty den):Nat->List (Nat×Ba)->Option (List (den u))
 |_,[]=>some []
 |i,(j,x)::r=>bif Aw i j then(match opl E s 0 x with
  | .agg u' y=>(match R2 E.U u u' [y],A3Z u s (i+1) r with
   |some [y'],some l=>some (y'::l)
   |_,_=>none)
  |_=>none)else none
def A8p(U:UO Ty den)(t:Ty):List (Leaf Ty den)->Option (List (den t))
 |[]=>some []
 |l::r=>match U.dec t [l],A8p U t r with
  |some x,some xs=>some (x::xs)
  |_,_=>none
def Y8{α:Type}(ls:List α)(o:Nat)(ys:List α):List α:=ls.take o++(ys++ls.drop (o+ys.length))
def A7t:Leaf Ty den->Bool
 | .int _ _| .bool _| .str _| .sl _ _ _| .elem _ _ _| .ifc _ _ _| .one1 _ _| .nils=>true
 | .ptr _ o=>Bl 1000000000 o
 |_=>false
def cellsOf(n:Nat):Leaf Ty den->Option (List (Leaf Ty den))
 | .agg u y=>bif Aw (E.U.size u) n then some (E.U.cells u y)else none
 |l=>bif A7t l&&Aw n 1 then some [l]else none
def A1S(cl:Leaf Ty den->Leaf Ty den)(s:St Ty den)(fs:List (Nat×Nat)):List (Nat×Ba)->List (Leaf Ty den)->Option (List (Leaf Ty den))
 |[],ls=>some ls
 |(j,x)::r,ls=>match fs[j]? with
  |some (o,n)=>match cellsOf E n (cl (opl E s 0 x))with
   |some ys=>bif Bl (o+n) ls.length then A1S cl s fs r (Y8 ls o ys)else none
   |none=>none
  |none=>none
def bnO(d:Ak):Nat:=match d with|some i=>E.bn i|none=>99
def mbO(d:Ak):Bool:=match d with|some i=>E.mb i|none=>false
def tyN(t:Ax):Ak:=match E.zr t with
 |some zs=>some zs.length
 |none=>none
def A8(o:Oper)(s:St Ty den)(k:Ent Ty den->St Ty den->Option R):Option R:=
 match o.op with
 | .move x=>k (opd E s o.type x) s
 | .assign x=>bif Y3 x then
   (match opl E s o.type x with
   | .sl u l _=>k (.one (.sl u l (some (C6 o.dst)))) (s.fresh (C6 o.dst))
   |l=>k (.one l) s)
  else k (opd E s o.type x) s
 | .pick c a b=>match opl E s 0 c with
  | .bool true=>k (.one (opl E s o.type a)) s
  | .bool false=>k (.one (opl E s o.type b)) s
  |_=>none
 | .extract x i=>match opd E s 0 x with
  | .tup ls=>match ls[i]? with
   |some l=>k (.one l) s
   |none=>none
  |_=>none
 | .binOp op t x y _=>match opl E s t x,opl E s t y with
  | .int k0 a,.int k1 b=>match op with
   | .shr=>bif decide (0<=b)&&decide (b<=31)&&decide (k0=.i32)then k (.one (.int k0 (a / 2^b.toNat))) s else none
   | .shl=>bif decide (0<=b)&&decide (b<=31)&&decide (k0=.i32)then k (.one (.int k0 (k0.wrap (a*2^b.toNat)))) s else none
   | .quo=>bif decide (k0=k1)&& !decide (b=0)then k (.one (.int k0 (k0.wrap (a.tdiv b)))) s else none
   | .rem=>bif decide (k0=k1)&& !decide (b=0)then k (.one (.int k0 (a.tmod b))) s else none
   |_=>bif decide (k0=k1)then(match B5W op k0 a b with|some l=>k (.one l) s|none=>none)else none
  | .str a,.str b=>match op with
   | .add=>bif decide (a.length+b.length<=9223372036854775807)then k (.one (.str (a++b))) s else none
   | .eql=>k (.one (.bool (a==b))) s
   | .neq=>k (.one (.bool (!(a==b)))) s
   |_=>none
  | .bool a,.bool b=>match E.tb t with
   | .bool=>match op with
    | .eql=>k (.one (.bool (a==b))) s
    | .neq=>k (.one (.bool (!(a==b)))) s
    |_=>none
   |_=>none
  |_,_=>none
 | .unOp op _ x=>match op,opl E s 0 x with
  | .not,.bool b=>k (.one (.bool (!b))) s
  | .neg,.int k0 n=>k (.one (.int k0 (k0.wrap (0 - n)))) s
  |_,_=>none
 | .convert src dst x=>match E.tb src,E.tb dst,opl E s src x with
  | .int _,.int k0,.int _ n=>k (.one (.int k0 (k0.wrap n))) s
  | .slice t e,.str,.sl u l _=>match E.tb e,R2 E.U t u l,E.U.toBytes t,E.U.toRunes t with
   | .int .u8,some l',some f,_=>k (.one (.str (f l'))) s
   | .int .i32,some l',_,some f=>k (.one (.str (A4F (f l')))) s
   |_,_,_,_=>none
  | .str,.slice t e,.str b=>match E.tb e,E.U.ofBytes t,E.U.ofRunes t with
   | .int .u8,some f,_=>bif A2 b.length 1 then k (.one (.sl t (f b) none)) s else none
   | .int .i32,_,some f=>bif A2 b.length 1 then k (.one (.sl t (f ((Cr ⟨b.toArray⟩ b.length 0 #[]).toList.map λ| .int _ n=>n|_=>0)) (some (C6 o.dst)))) (s.fresh (C6 o.dst))else none
   |_,_,_=>none
  | .slice t e,.slice _ _,.sl u l (some d)=>match R2 E.U t u l,E.tb e with
   |some l',.int .u8=>bif Aw src dst&&(mem d s.live&&Ay 0 l'.length)then k (.one (.sl t l' none)) (s.kill d)else none
   |_,_=>none
  |_,_,_=>none
 | .indexAddr t x i=>match E.tb t,opl E s t x,opl E s 0 i with
  | .slice t' _,.sl u l _,.int _ n=>match R2 E.U t' u l with
   |some l'=>match idx l' n with
    |some y=>k (.one (.elem t' y 0)) s
    |none=>none
   |none=>none
  |_,_,_=>none
 | .index t x i=>match E.tb t,opl E s t x,opl E s 0 i with
  | .str,.str b,.int _ n=>match idx b n with
   |some y=>k (.one (.int .u8 (y.toNat:Int))) s
   |none=>none
  |_,_,_=>none
 | .build t ps=>bif mbO E o.dst then(match E.tb t,E.zr t with
  | .struct _ fs,some zs=>match A1S E Leaf.close s fs ps.toList (A0R (bnO E o.dst) 0 zs)with
   |some ls=>k (.st ls) (A5s (bnO E o.dst) 0 s zs)
   |none=>none
  |_,_=>none)else match E.tb t with
  | .struct u fs=>match E.zr t with
   |some zs=>match A1S E Leaf.close s fs ps.toList zs with
    |some ls=>match E.U.dec u ls with
     |some x=>k (.one (.agg u x)) s
     |none=>none
    |none=>none
   |none=>none
  |_=>none
 | .alloc t=>match o.dst,E.zr t with
  |some i,some zs=>bif E.oz i then(bif Ay 0 zs.length then k (.one (.ptr (C6 (some i)) 0)) ((A5s (C6 (some i)) 0 (s.fresh (C6 (some i))) zs).set (bxi (C6 (some i))) (.bx (C6 (some i)) (A5a (Aw t E.U.bty) (C6 (some i)) (A0R (C6 (some i)) 0 zs))))else none)
   else bif Ay 0 zs.length then k (.one (.ptr (C6 (some i)) 0)) ((s.fresh (C6 (some i))).set (bxi (C6 (some i))) (.bx (C6 (some i)) zs))else none
  |_,_=>none
 | .box t x=>match o.dst,E.zr t with
  |some i,some zs=>match opd E s t x with
   | .st ys=>bif E.mb i&&(Aw ys.length zs.length&&Ay 0 zs.length)then k (.one (.ptr (C6 (some i)) 0)) ((s.fresh (C6 (some i))).set (bxi (C6 (some i))) (.bx (C6 (some i)) (A5a (Aw t E.U.bty) (C6 (some i)) (ys.map (·.strip (C6 (some i)))))))else none
   |_=>match cellsOf E zs.length (opl E s t x).close with
   |some ys=>bif E.mb i then(bif Ay 0 zs.length then k (.one (.ptr (C6 (some i)) 0)) ((s.fresh (C6 (some i))).set (bxi (C6 (some i))) (.bx (C6 (some i)) ys))else none)
    else(match opl E s t x with
    | .agg u y=>bif Aw (E.U.size u) zs.length then k (.one (.elem u y 0)) s else none
    |_=>none)
   |none=>none
  |_,_=>none
 | .nilCheck x=>match opl E s 0 x with
  | .elem u y off=>k (.one (.elem u y off)) s
  | .ptr d off=>bif Ay off 1000000 then k (.one (.ptr d off)) s else none
  |_=>none
 | .store t x y=>match o.dst,opl E s 0 x,tyN E t with
  |none,.ptr d off,some n=>match opd E s t y with
   | .st ys=>(match O6 s d with
    |some ls=>bif Aw ys.length n&&(Bl (off+n) ls.length&&Ay off 1000000)then k (.one .any) (s.set (bxi d) (.bx d (Y8 ls off ys)))else none
    |none=>none)
   |_=>match O6 s d,cellsOf E n (opl E s t y)with
   |some ls,some ys=>bif Bl (off+n) ls.length&&Ay off 1000000 then k (.one .any) (s.set (bxi d) (.bx d (Y8 ls off ys)))else none
   |_,_=>none
  |_,_,_=>none
 | .fieldAddr t x i=>match E.tb t,opl E s 0 x with
  | .struct v fs,.elem u y off=>match fs[i]? with
   |some (o,n)=>bif Ay 0 n then k (.one (.elem u y (off+o))) s else none
   |none=>none
  | .struct v fs,.ptr d off=>match fs[i]? with
   |some (o,n)=>bif Ay 0 n&&(Ay off 1000000&&Ay (off+o) 1000000)then k (.one (.ptr d (off+o))) s else none
   |none=>none
  |_,_=>none
 | .load t x=>match E.tb t with
  | .other=>none
  | .iface u=>match opl E s 0 x with
   | .elem u' y off=>match(bif Aw off 0 then R2 E.U u u' [y]else none)with
    |some [y']=>k (.one (.one1 u y')) s
    |_=>none
   |_=>none
  | .struct u _=>match opl E s 0 x with
   | .elem u' y off=>match(bif Aw off 0 then R2 E.U u u' [y]else none)with
    |some [y']=>k (.one (.agg u y')) s
    |_=>match E.U.dec u (((E.U.cells u' y).drop off).take (E.U.size u))with
     |some z=>k (.one (.agg u z)) s
     |none=>none
   | .ptr d off=>match O6 s d with
    |some ls=>bif Ay off 1000000 then(match E.U.dec u (F8 ((ls.drop off).take (E.U.size u)))with
     |some z=>k (.one (.agg u z)) s
     |none=>none)else none
    |none=>none
   |_=>none
  |_=>match opl E s 0 x with
   | .elem u y off=>match(E.U.cells u y)[off]? with
    |some l=>k (.one l.close) s
    |none=>none
   | .ptr d off=>match O6 s d with
    |some ls=>bif Ay off 1000000 then(match ls[off]? with
     |some l=>k (.one l) s
     |none=>none)else none
    |none=>none
   |_=>none
 | .makeInterface t x=>match E.tb t,opl E s t x with
  | .struct u _,.agg u' y=>match R2 E.U u u' [y]with
   |some [y']=>k (.one (.ifc t u y')) s
   |_=>none
  |_,_=>none
 | .slice t x lo hi mx=>match E.tb t,opl E s t x with
  | .str,.str b=>match mx,V6 E s 0 lo,V6 E s b.length hi with
   |none,some a,some c=>match sub b a c with
    |some r=>k (.one (.str r)) s
    |none=>none
   |_,_,_=>none
  | .slice t' _,.sl u l _=>match R2 E.U t' u l with
   |some l'=>match V6 E s 0 lo,V6 E s l'.length hi,mx with
    |some a,some c,none=>match sub l' a c with
     |some r=>k (.one (.sl t' r none)) s
     |none=>none
    |some a,some c,some m=>match opl E s 0 m with
     | .int _ m=>bif hi.isSome&&decide (m=c)then(match sub l' a c with
      |some r=>k (.one (.sl t' r none)) s
      |none=>none)else none
     |_=>none
    |_,_,_=>none
   |none=>none
  |_,_=>none
 | .buildSlice t n ps=>match E.tb t with
  | .slice u e=>match E.tb e with
   | .struct _ _=>match A3Z E u s 0 ps.toList with
    |some xs=>bif Aw xs.length n&&Ay (n*E.U.size u) 65536 then k (.one (.sl u xs (some (C6 o.dst)))) (s.fresh (C6 o.dst))else none
    |none=>none
   |_=>match A2r E s e 0 ps.toList with
   |some ls=>match A8p E.U u ls with
    |some xs=>bif Aw xs.length n&&(Aw (E.U.size u) 1&&Ay n 65536)then k (.one (.sl u xs (some (C6 o.dst)))) (s.fresh (C6 o.dst))else none
    |none=>none
   |none=>none
  |_=>none
 | .makeSlice t l c=>match E.tb t,opl E s 0 l,opl E s 0 c with
  | .slice u _,.int _ 0,.int _ m=>bif decide (0<=m)&&A2 m.toNat (E.U.bytes u)then k (.one (.sl u [] (some (C6 o.dst)))) (s.fresh (C6 o.dst))else none
  |_,_,_=>none
 | .range t x=>match E.tb t,opl E s t x with
  | .str,.str b=>k (.iter b 0) s
  |_,_=>none
 | .next (.tmp i) true=>match s.get i with
  | .iter b pos=>bif decide (pos<b.length)then
    k (.tup [.bool true,.int .i64 (pos:Int),.int .i32 ((Cg ⟨b.toArray⟩ pos).1:Int)]) (s.set i (.iter b (pos+(Cg ⟨b.toArray⟩ pos).2)))
   else k (.tup [.bool false]) s
  |_=>none
 | .call c=>match c.callee with
  | .value (.func f)=>match E.bp f with
   |some ps=>bif E.ro f then A9p E f c.argTypes.toList c.args.toList s λe=>k e s
    else B8d E f ps c.argTypes.toList c.args.toList o.dst s k
   |none=>B4F E f c.argTypes.toList c.args.toList o.dst s k
  | .builtin b=>A1P E b c.argTypes.toList c.args.toList o.dst s k
  | .invoke x nm=>A9x (E.TIg nm) (E.bi nm) (opl E s 0 x::Q5 E s c.argTypes.toList c.args.toList) o.dst s k
  |_=>none
 |_=>none
def isR:Leaf Ty den->Bool
 | .ptr _ o=>Bl 1000000000 o
 |_=>false
def clR(l:Leaf Ty den):Leaf Ty den:=bif isR l then l else l.close
def rmO(d:Ak):Bool:=match d with|some i=>E.rm i|none=>false
def rnO(d:Ak):Nat:=match d with|some i=>1000000+i|none=>1000000
def Q7(o:Oper)(s:St Ty den):Bool:=
 match o.op with
 | .assign x=>Y3 x&&rmO E o.dst
 | .build _ _=>mbO E o.dst
 | .buildSlice _ _ _=>rmO E o.dst
 | .indexAddr t x _=>isR (opl E s t x)
 | .load _ _=>mbO E o.dst
 | .slice t x _ _ _=>isR (opl E s t x)
 | .call c=>match c.callee with
  | .builtin .append=>rmO E o.dst
  | .value (.func f)=>E.nw f
  | .builtin .len=>match c.argTypes.toList,c.args.toList with
   |[t],[x]=>isR (opl E s t x)||A9q (opl E s t x)
   |_,_=>false
  |_=>false
 |_=>false
def A3N(U:UO Ty den)(t:Ty)(l:List (den t)):List (Leaf Ty den):=l.flatMap (U.cells t)
def okW(n t sz:Nat):Bool:=Ay n 10000&&(Ay t 1000&&Ay sz 100)
def A8i(d:Nat)(ls:List (Leaf Ty den))(s:St Ty den):St Ty den:=(s.fresh d).set (bxi d) (.bx d (ls.map (·.strip d)))
def I2(o:Oper)(s:St Ty den)(k:Ent Ty den->St Ty den->Option R):Option R:=
 match o.op with
 | .assign _=>k (.one .nils) s
 | .build t ps=>match E.tb t,E.zr t with
  | .struct _ fs,some zs=>match A1S E clR s fs ps.toList zs with
   |some ls=>k (.st ls) s
   |none=>none
  |_,_=>none
 | .buildSlice t _ _=>A8 E o s λe _=>match e with
  | .one (.sl u xs _)=>bif Ay 0 xs.length&&okW xs.length t (E.U.size u)then k (.one (.ptr (rnO o.dst) (A0p xs.length t (E.U.size u)))) (A8i (rnO o.dst) (A3N E.U u xs) s)else none
  |_=>none
 | .indexAddr t x i=>match E.tb t,opl E s t x,opl E s 0 i with
  | .slice u _,.ptr d off,.int _ n=>bif decide (0<=n)&&(Ay n.toNat (rN off)&&(Aw (rS off) (E.U.size u)&&Ay (n.toNat*rS off) 1000000))then k (.one (.ptr d (n.toNat*rS off))) s else none
  |_,_,_=>none
 | .load t x=>match E.tb t,opl E s 0 x with
  | .struct u _,.ptr d off=>match O6 s d with
   |some ls=>bif Ay off 1000000&&Bl (off+E.U.size u) ls.length then k (.st ((ls.drop off).take (E.U.size u))) s else none
   |none=>none
  |_,_=>none
 | .slice t x none (some y) none=>match E.tb t,opl E s t x,opl E s 0 y with
  | .slice _ _,.ptr d off,.int _ n=>bif decide (0<=n)&&Bl n.toNat (rN off)then k (.one (.ptr d (A0p n.toNat (rT off) (rS off)))) s else none
  |_,_,_=>none
 | .call c=>match c.callee,c.argTypes.toList,c.args.toList with
  | .builtin .len,[t],[x]=>match E.tb t,opl E s t x with
   | .slice _ _,.ptr _ off=>k (.one (.int .i64 (rN off))) s
   | .slice _ _,.nils=>k (.one (.int .i64 0)) s
   |_,_=>none
  | .builtin .append,[t,u],[x,y]=>match E.tb t,E.tb u,opl E s u y with
   | .slice t' _,.slice _ _,.sl v m _=>match R2 E.U t' v m with
    |some m'=>bif Ay 0 m'.length then(match opl E s t x with
     | .nils=>bif okW m'.length t (E.U.size t')&&A2 m'.length (E.U.bytes t')then k (.one (.ptr (rnO o.dst) (A0p m'.length t (E.U.size t')))) (A8i (rnO o.dst) (A3N E.U t' m') s)else none
     | .ptr d off=>match O6 s d with
      |some ls=>bif(Bl 1000000 d&&(Bl 1000000000 off&&Bl (rN off*rS off) ls.length))&&(Aw (rS off) (E.U.size t')&&(okW (rN off+m'.length) t (E.U.size t')&&A2 (rN off+m'.length) (E.U.bytes t')))then
       k (.one (.ptr d (A0p (rN off+m'.length) t (E.U.size t')))) (A8i d (ls.take (rN off*rS off)++A3N E.U t' m') s)else none
      |none=>none
     |_=>none)else none
    |none=>none
   |_,_,_=>none
  | .value (.func f),dp,args=>match o.dst,E.TNg f (F8 (Q5 E s dp args))with
   |some i,some (gd,ls)=>bif gd&&Ay i 900000 then k (.one (.ptr (C6 (some i)) 0)) ((s.fresh (C6 (some i))).set (bxi (C6 (some i))) (.bx (C6 (some i)) ls))else none
   |_,_=>none
  |_,_,_=>none
 |_=>none
def M3(o:Oper)(s:St Ty den)(k:Ent Ty den->St Ty den->Option R):Option R:=
 bif E.rw&&Q7 E o s then I2 E o s k else A8 E o s k
def A4O:Value->Bool
 | .bool _=>false
 |_=>true
def okd(m n:Nat)(d:Ak):Bool:=match d with|some i=>Ay i n&&Bl m i|none=>true
def B6y(d:Nat):Ba->Bool
 | .tmp t=> !Aw t d
 |_=>true
def B1D(o o2:Oper)(s:St Ty den):Option (Nat×Leaf Ty den):=
 match o.op,o.dst,o2.op with
 | .alloc t,some d,.store t2 (.tmp d2) y=>bif Aw d d2&&(Aw t t2&&(B6y d y&&(o2.guard.isNone&&o2.dst.isNone)))then(match E.tb t,opl E s 0 y with
  | .struct u _,.agg u' x=>(match R2 E.U u u' [x]with
   |some [x']=>some (d,.elem u x' 0)
   |_=>none)
  |_,_=>none)else none
 |_,_,_=>none
def O8:Op->Bool
 | .alloc _=>true
 |_=>false
def A44(ops:Array Oper):List Oper->Bool->St Ty den->(St Ty den->Option R)->Option R
 |[],_,s,k=>k s
 |_::r,true,s,k=>A44 ops r false s k
 |o::r,false,s,k=>bif okd E.np E.nt o.dst then match o.guard with
  |none=>bif O8 o.op&& !(mbO E o.dst)then(match r with
    |o2::_=>(match B1D E o o2 s with
     |some (d,l)=>A44 ops r true (s.set d (.one l)) k
     |none=>none)
    |[]=>none)
   else M3 E o s λe s'=>A44 ops r false (s'.setO o.dst e) k
  |some (j,aM)=>match(ops[j]?).bind (·.dst)with
   |some g=>match s.get g with
    | .one (.bool b)=>bif b==aM
     then M3 E o (s.set g (.one (.bool aM))) λe s'=>A44 ops r false (s'.setO o.dst e) k
     else A44 ops r false ((s.set g (.one (.bool (!aM)))).setO o.dst (.one (.val undef))) k
    | .one (.val v)=>bif A4O v then A44 ops r false (s.setO o.dst (.one (.val undef))) k else none
    |_=>none
   |none=>none
  else none
def A2s(ops:Array Oper)(os:List Oper)(s:St Ty den)(k:St Ty den->Option R):Option R:=A44 E ops os false s k
def Leaf.has(d:Nat):Leaf Ty den->Bool
 | .sl _ _ (some e)=>Aw e d
 | .ptr e _=>Aw e d
 |_=>false
def Ent.has(d:Nat):Ent Ty den->Bool
 | .one l=>l.has d
 | .tup ls=>ls.any (·.has d)
 | .st ls=>ls.any (·.has d)
 | .bx e ls=>bif Aw e d then true else ls.any (·.has d)
 |_=>false
def A1e(d:Nat):List (Nat×Ent Ty den)->Bool
 |[]=>false
 |(_,e)::r=>bif e.has d then true else A1e d r
def Q6(o:Oper):Bool:=
 match o.op with
 | .move _| .pick .. | .extract .. | .binOp .. | .unOp .. | .indexAddr .. | .index .. | .load .. | .slice .. | .fieldAddr .. | .nilCheck _=>true
 | .build .. => !mbO E o.dst
 | .assign _=>true
 | .buildSlice _ _ _=>true
 | .makeInterface _ _=>true
 | .convert _ d _=>match E.tb d with| .slice _ _=>false|_=>true
 | .call c=>match c.callee with
  | .value (.func f)=>(E.bp f).isNone||E.ro f
  | .builtin .len| .builtin .min| .builtin .max=>true
  |_=>false
 |_=>false
def A7c(o:Oper)(j:Nat):Bool:=o.after.toList.any λe=>Aw e.on j&&(match e.ground with| .textOnly _| .gcOnly _=>false|_=>true)
def G5:Nat->List Oper->List (Nat×Nat)
 |_,[]=>[]
 |i,o::r=>match o.dst with
  |some d=>(d,i)::G5 (i+1) r
  |none=>G5 (i+1) r
def A6I(o:Oper):Bool:=O8 o.op&&(o.guard.isNone&&mbO E o.dst)
def A0X(o:Oper):Bool:=Q6 E o||A6I E o
def W5:List Oper->Nat
 |[]=>0
 |o::r=>bif A0X E o then W5 r+1 else 0
def gcE(e:Edge):Bool:=match e.ground with| .gcOnly _=>true|_=>false
def txE(e:Edge):Bool:=match e.ground with| .textOnly _=>true|_=>false
def B7y(ops:Array Oper)(m i:Nat)(e:Edge):Bool:=Ay e.on i||(gcE e&&(Ay e.on m&&(match ops[e.on]? with|some o=>o.after.toList.all txE|none=>false)))
def C0w(ops:Array Oper)(m:Nat)(iD:List (Nat×Nat))(i:Nat)(o:Oper):Bool:=
 A0X E o&&(o.after.toList.all (B7y ops m i)&&(o.looksAt ops).all λt=>Ay t 1000000&&iD.all λp=> !Aw p.1 t||A7c o p.2)
def B1B(e:Edge):Bool:=match e.ground with| .textOnly _| .gcOnly _=>false|_=>true
def A4G(cl:List Aj):List Edge->Aj
 |[]=>[]
 |e::r=>bif B1B e then e.on::(cl.getD e.on []++A4G cl r)else A4G cl r
def A33(o:Oper):Bool:=o.guard.isNone&&(match o.op with| .move (.tmp _)=>true|_=>false)
def A7g(o:Oper):Bool:=o.guard.isNone&&(match o.op with| .extract (.tmp _) _=>true|_=>false)
def A6J(ops:Array Oper)(oi:Oper)(i:Nat):Nat->List Oper->Bool
 |_,[]=>true
 |j,o::r=>(Aw j i||(A7c o i||oi.apart ops o))&&A6J ops oi i (j+1) r
def A9B:List Oper->Bool
 |[]=>true
 |o::r=>(match o.op with| .select _ _=>false|_=>true)&&A9B r
def C34(ds:Aj)(o:Oper):Bool:=match o.op with| .move (.tmp t)=> !mem t ds|_=>false
def D1q:List Edge->Bool
 |[]=>true
 |_=>false
def A0P(ops:Array Oper)(m:Nat)(ds:Aj)(i:Nat)(o:Oper):Bool:=
 Ay i m&&(A33 o&&(D1q o.after.toList&&(A6J ops o i 0 ops.toList&&C34 ds o)))
def tl1(ops:Array Oper)(m:Nat)(i:Nat)(o:Oper):Bool:=
 Bl m i&&((A33 o||A7g o)&&A6J ops o i (i+1) (ops.toList.drop (i+1)))
def flL(ops:Array Oper)(m:Nat)(ds:Aj):Nat->List Oper->Aj
 |_,[]=>[]
 |i,o::r=>bif A0P ops m ds i o||tl1 ops m i o then i::flL ops m ds (i+1) r else flL ops m ds (i+1) r
def B0c(fl:Aj):Nat->Aj->Bool
 |0,_=>true
 |n+1,l=>(mem n l||mem n fl)&&B0c fl n l
def B0h(fl:Aj)(m:Nat):Nat->List Oper->List Aj->Bool
 |_,[],_=>true
 |i,o::r,cl=>o.after.toList.all (λe=>Ay e.on i||(Ay i m&&Ay e.on m))&&((Ay i m||B0c fl i (A4G cl o.after.toList))&&B0h fl m (i+1) r (cl++[A4G cl o.after.toList]))
def A8L(ops:Array Oper)(m:Nat)(iD:List (Nat×Nat)):Nat->List Oper->Bool
 |_,[]=>true
 |i,o::r=>C0w E ops m iD i o&&A8L ops m iD (i+1) r
def Y2:Aj->Bool
 |[]=>true
 |x::r=> !mem x r&&Y2 r
def A93:Aj->Bool
 |[]=>true
 |x::r=>Ay x 1000000&&A93 r
def C1S(ops:Array Oper)(m:Nat):Bool:=
 A8L E ops m (G5 0 (ops.toList.take m)) 0 (ops.toList.take m)&&(B0h (flL ops m ((G5 0 (ops.toList.take m)).map (·.1)) 0 ops.toList) m 0 ops.toList []&&(Y2 ((G5 0 ops.toList).map (·.1))&&(A93 ((G5 0 ops.toList).map (·.1))&&A9B ops.toList)))
def R1:Aj->Nat
 |[]=>0
 |_::r=>R1 r+1
def Ent.close1:Ent Ty den->Ent Ty den
 | .one l=>.one l.close
 |e=>e
def A36(o:Oper)(s:St Ty den)(k:Ent Ty den->Option R):Option R:=
 match o.op with
 | .buildSlice _ _ _=>A8 E o s λe _=>k e.close1
 | .assign x=>bif Y3 x then(match opl E s o.type x with
   | .sl u l _=>k (.one (.sl u l none))
   |_=>none)else M3 E o s λe s'=>bif Aw (R1 s'.live) (R1 s.live)then k e else none
 | .call c=>match c.callee with
  | .value (.func f)=>A9p E f c.argTypes.toList c.args.toList s k
  |_=>M3 E o s λe s'=>bif Aw (R1 s'.live) (R1 s.live)then k e else none
 |_=>M3 E o s λe s'=>bif Aw (R1 s'.live) (R1 s.live)then k e else none
def Q3(o:Oper):Bool:=
 match o.op with
 | .buildSlice _ _ _=>true
 | .assign x=>Y3 x
 |_=>false
def A3b(s:St Ty den):List Oper->Bool
 |[]=>true
 |o::r=>bif Q3 o then !A1e (C6 o.dst) s.fr&&A3b s r else A3b s r
def A0k(ops:Array Oper):List Oper->St Ty den->(St Ty den->Option R)->Option R
 |[],s,k=>bif A3b s (ops.toList.take (W5 E ops.toList))then k s else none
 |o::r,s,k=>bif okd E.np E.nt o.dst then match o.guard with
  |none=>bif O8 o.op then A0k ops r (s.setO o.dst (.one .any)) k else A36 E o s λe=>A0k ops r (s.setO o.dst e) k
  |some (j,aM)=>match(ops[j]?).bind (·.dst)with
   |some g=>match s.get g with
    | .one (.bool b)=>bif b==aM
     then A36 E o s λe=>A0k ops r ((s.set g (.one (.bool aM))).setO o.dst e) k
     else A0k ops r ((s.set g (.one (.bool (!aM)))).setO o.dst (.one (.val undef))) k
    | .one (.val v)=>bif A4O v then A0k ops r (s.setO o.dst (.one (.val undef))) k else none
    |_=>none
   |none=>none
  else none
def V9(ops:Array Oper):List Oper->St Ty den->(St Ty den->Option R)->Option R
 |[],s,k=>k s
 |o::r,s,k=>bif okd E.np E.nt o.dst then match o.guard with
  |none=>M3 E o s λe s'=>V9 ops r (s'.setO o.dst e) k
  |some (j,aM)=>match(ops[j]?).bind (·.dst)with
   |some g=>match s.get g with
    | .one (.bool b)=>bif b==aM
     then M3 E o (s.set g (.one (.bool aM))) λe s'=>V9 ops r (s'.setO o.dst e) k
     else V9 ops r ((s.set g (.one (.bool (!aM)))).setO o.dst (.one (.val undef))) k
    | .one (.val v)=>bif A4O v then V9 ops r (s.setO o.dst (.one (.val undef))) k else none
    |_=>none
   |none=>none
  else none
def A0y:Nat->List Oper->Option (Nat×Nat×Ax)
 |_,[]=>none
 |i,o::r=>match o.op,o.dst with
  | .alloc t,some d=>some (i,d,t)
  |_,_=>A0y (i+1) r
def B1h:List Oper->Bool
 |[]=>true
 |o::r=> !O8 o.op&&B1h r
def T2(i:Nat)(zs:List (Leaf Ty den))(s:St Ty den):St Ty den:=
 ((s.fresh (C6 (some i))).set (bxi (C6 (some i))) (.bx (C6 (some i)) zs)).set i (.one (.ptr (C6 (some i)) 0))
def B2d(ops:Array Oper)(i:Nat):List Oper->Bool
 |[]=>true
 |o::r=> !mem i (o.looksAt ops)&&B2d ops i r
def B5T(ops:Array Oper)(s:St Ty den)(k:St Ty den->Option R):Option R:=
 bif C1S E ops (W5 E ops.toList)then
  A0k E ops (ops.toList.take (W5 E ops.toList)) (s.dels ((G5 0 (ops.toList.take (W5 E ops.toList))).map (·.1))) λsF=>
   match A0y 0 (ops.toList.take (W5 E ops.toList))with
   |none=>V9 E ops (ops.toList.drop (W5 E ops.toList)) sF k
   |some (ia,i,t)=>match E.zr t with
    |some zs=>bif B1h ((ops.toList.take (W5 E ops.toList)).drop (ia+1))&&(B2d ops i (ops.toList.take (W5 E ops.toList))&&(Ay 0 zs.length&&(A1L zs&&(!A1e (C6 (some i)) sF.fr&& !E.oz i))))then
     V9 E ops (ops.toList.drop (W5 E ops.toList)) (T2 i zs sF) k else none
    |none=>none
 else none
def D1(body:St Ty den->(Ex->St Ty den->Option R)->Option R):Nat->St Ty den->(Ex->St Ty den->Option R)->Option R
 |0,_,_=>none
 |n+1,s,k=>body s λe s'=>match e with
  | .normal=>D1 body n s' k
  |e=>k e s'
def C1(b:St Ty den->(Ex->St Ty den->Option R)->Option R)(k:Ex->St Ty den->Option R):Ex->St Ty den->Option R
 | .normal,s=>b s k
 |e,s=>k e s
def A5(id:Nat)(k:Ex->St Ty den->Option R):Ex->St Ty den->Option R
 | .exit j,s=>bif Aw j id then k .normal s else k (.exit j) s
 |e,s=>k e s
def A3W(d:Nat):Aj->Aj
 |[]=>[d]
 |e::r=>bif Ay d e then d::e::r else e::A3W d r
def gcN(fr:List (Nat×Ent Ty den)):Aj->Aj
 |[]=>[]
 |d::r=>bif A1e d fr then A3W d (gcN fr r)else gcN fr r
def St.gc(s:St Ty den):St Ty den:={s with live:=gcN s.fr s.live}
def B0I:Code->Nat
 | .region id _ _=>id
 | .seq a _=>B0I a
 | .block _ c=>B0I c
 |_=>9999
def A12(ds:Aj)(k:Ex->St Ty den->Option R):Ex->St Ty den->Option R
 | .normal,s=>k .normal (s.dels ds).gc
 |e,s=>k e s
def B1(n:Nat):Code->St Ty den->(Ex->St Ty den->Option R)->Option R
 | .skip,s,k=>k .normal s
 | .region id ops false,s,k=>A2s E ops ops.toList s λs'=>k .normal (s'.dels (E.drop id)).gc
 | .region id ops true,s,k=>B5T E ops s λs'=>k .normal (s'.dels (E.drop id)).gc
 | .seq a b,s,k=>B1 n a s (C1 (B1 n b) k)
 | .cond c a b,s,k=>match opl E s 0 c with
  | .bool t=>bif t then B1 n a s k else B1 n b s k
  |_=>none
 | .block id c,s,k=>B1 n c s (A5 id k)
 | .loop c,s,k=>D1 (λs' k'=>B1 n c s' (A12 (E.drop (10000+B0I c)) k')) n (s.dels (E.drop (10000+B0I c))).gc k
 | .exit id,s,k=>k (.exit id) s
 | .ret,s,k=>k .ret s
 |_,_,_=>none
def A6C(s:St Ty den)(j:Nat):Leaf Ty den->Leaf Ty den
 | .sl t l (some d)=>bif mem d s.live then .sl t l (some (bif Aw d 0 then 0 else j+1))else .sl t l none
 | .ptr _ _=>.any
 |l=>l
def B38(s:St Ty den)(ty:Ax)(l:Leaf Ty den):Option (Leaf Ty den):=match E.tb ty,l with
 | .struct u _,.ptr d off=>match O6 s d with
  |some ls=>bif Ay off 1000000 then(match E.fty ty with
   |some u'=>bif Aw (E.U.size u') (E.U.size u)then(E.U.dcx u' (F8 ((ls.drop off).take (E.U.size u)))).map (.agg u')else none
   |none=>(E.U.dec u (F8 ((ls.drop off).take (E.U.size u)))).map (.agg u))else none
  |none=>none
 |_,_=>none
def X6:Nat->St Ty den->List By->Option (List (Leaf Ty den))
 |_,_,[]=>some []
 |j,s,.tmp t::r=>match s.get t with
  | .one l=>(X6 (j+1) (match l with| .sl _ _ (some d)=>s.kill d|_=>s) r).map (A6C s j l:: ·)
  |_=>none
 |j,s,.cell t ty::r=>match s.get t with
  | .one l=>match B38 E s ty l,X6 (j+1) s r with
   |some l',some ls=>some (l'::ls)
   |_,_=>none
  |_=>none
def K1:St Ty den->List By->St Ty den
 |s,[]=>s
 |s,.tmp t::r=>K1 (match s.get t with| .one (.sl _ _ (some d))=>s.kill d|_=>s) r
 |s,_::r=>K1 s r
def A8h(U:UO Ty den)(u:Ty):Nat->List (Leaf Ty den)->Option (List (den u))
 |0,_=>some []
 |n+1,ls=>match U.dcx u (ls.take (U.size u)),A8h U u n (ls.drop (U.size u))with
  |some x,some r=>some (x::r)
  |_,_=>none
def A4X(d:Nat)(ls:List (Leaf Ty den)):Leaf Ty den->Leaf Ty den
 | .ptr e off=>bif Aw e d then(bif Bl 1000000000 off then(match E.fty (rT off)with
  |some u=>bif Aw (E.U.size u) (rS off)&&Bl (rN off*rS off) ls.length then(match A8h E.U u (rN off) (F8 ls)with
   |some l=>.sl u l none
   |none=>.any)else .any
  |none=>.any)else .any)else .ptr e off
 |l=>l.strip d
def A3D(d:Nat)(ls:List (Leaf Ty den)):Ent Ty den->Ent Ty den
 | .one l=>.one (A4X E d ls l)
 | .tup xs=>.tup (xs.map (A4X E d ls))
 | .st xs=>.st (xs.map (A4X E d ls))
 | .bx e xs=>bif Aw e d then .one .any else .bx e (xs.map (A4X E d ls))
 |e=>e
def A58(d:Nat)(ls:List (Leaf Ty den)):List (Nat×Ent Ty den)->List (Nat×Ent Ty den)
 |[]=>[]
 |(i,e)::r=>(i,A3D E d ls e)::A58 d ls r
def A7B:Aj->St Ty den->St Ty den
 |[],s=>s
 |d::r,s=>A7B r (match O6 s d with
  |some ls=>{fr:=A58 E d ls s.fr,live:=rem d s.live}
  |none=>s)
def B1i(rs:List By)(s0:St Ty den):Option (Ent Ty den):=
 let s:=A7B E E.fzs s0
 match X6 E 0 s rs with
 |some [l]=>some (.one l)
 |some ls=>some (.tup ls)
 |none=>none
def A9(rs:List By):Ex->St Ty den->Option (Ent Ty den)
 | .normal,s| .ret,s=>B1i E rs s
 |_,_=>none
def A4D:Nat->List (Leaf Ty den)->List (Nat×Ent Ty den)
 |_,[]=>[]
 |i,l::r=>(i,.one l)::A4D (i+1) r
def O0:List (Leaf Ty den)->Bool
 |[]=>false
 | .sl _ _ (some 0)::_=>true
 |_::r=>O0 r
def A1q(args:List (Leaf Ty den)):St Ty den:={fr:=A4D 0 args,live:=bif O0 args then [0]else []}
def A3(n:Nat)(fn:Func)(args:List (Leaf Ty den)):Option (Ent Ty den):=
 match fn.body with
 |some c=>bif Bl args.length E.nt then B1 E n c (A1q args) (A9 E fn.results.toList)else none
 |none=>none
def D0K(rs:List By):Ex->St Ty den->Option (List (Leaf Ty den))
 | .normal,s| .ret,s=>match rs with
  |[.tmp t]=>match s.get t with
   | .one (.ptr d o)=>bif Aw o 0&&Ay d 1000000 then O6 s d else none
   |_=>none
  |_=>none
 |_,_=>none
def B4c(n:Nat)(fn:Func)(args:List (Leaf Ty den)):Option (List (Leaf Ty den)):=
 match fn.body with
 |some c=>bif Bl args.length E.nt then(match B1 E n c (A1q args) (D0K fn.results.toList)with
  |some ls=>bif A1L ls&&Ay 0 ls.length then some ls else none
  |none=>none)else none
 |none=>none
def A0v:List (Leaf Ty den)->Aj
 |[]=>[]
 | .sl _ _ (some d)::r=>d::A0v r
 | .ptr d _::r=>d::A0v r
 |_::r=>A0v r
def B56:Nat->St Ty den->List (List (Leaf Ty den))->St Ty den
 |_,s,[]=>s
 |k,s,c::r=>B56 (k+1) (s.set (bxi (C0 k)) (.bx (C0 k) c)) r
def O3:Nat->Nat->Aj
 |_,0=>[]
 |k,n+1=>C0 k::O3 (k+1) n
def pinned(s:St Ty den):Nat->Aj->Bool
 |_,[]=>true
 |k,p::ps=>(match s.get p with| .one (.ptr d 0)=>Aw d (C0 k)&&Ay p E.np|_=>false)&&pinned s (k+1) ps
def B1Y:List (List (Leaf Ty den))->List (List (Leaf Ty den))->Bool
 |[],[]=>true
 |a::r,b::r'=>Aw a.length b.length&&B1Y r r'
 |_,_=>false
def J3(rs:List By)(ps:Aj)(cs:List (List (Leaf Ty den))):Ex->St Ty den->Option (List (Leaf Ty den)×List (List (Leaf Ty den)))
 | .normal,s| .ret,s=>match X6 E 0 s rs,pkB 0 (K1 s rs) (O3 0 cs.length)with
  |some ls,some (aR,s')=>bif B1Y cs aR&&(pinned E s 0 ps&&(A1X s' (O3 0 cs.length)&&Ay rs.length 100))then some (ls,aR)else none
  |_,_=>none
 |_,_=>none
def A9s(args:List (Leaf Ty den)):Nat->Aj->Bool
 |_,[]=>true
 |k,p::ps=>(match args[p]? with|some (.ptr d 0)=>Aw d (C0 k)|_=>false)&&A9s args (k+1) ps
def C8(n:Nat)(fn:Func)(ps:Aj)(args:List (Leaf Ty den))(cs:List (List (Leaf Ty den))):Option (List (Leaf Ty den)×List (List (Leaf Ty den))):=
 match fn.body with
 |some c=>bif Bl args.length E.nt&&(A9s args 0 ps&&(Aw ps.length cs.length&&Ay cs.length 100))then
  B1 E n c (B56 0 {fr:=A4D 0 args,live:=A0v (G4 0 cs)} cs) (J3 E fn.results.toList ps cs)else none
 |none=>none
end ev
end Go.Aev
end
namespace Go.Aev
open Go
def I5(w:World)(b:Nat):Nat->Ai->World
 |_,[]=>w
 |o,v::r=>I5 (w.setCell ⟨b,o,none⟩ v) b (o+1) r
theorem A9y(w:World)(b o:Nat)(v:Value)(c:Array Value)(e:Ax)(fz:Nat×Nat)(h:w.heap[b]?=some (.cells c e fz)):
  (w.setCell ⟨b,o,none⟩ v).heap[b]?=some (.cells (c.setIfInBounds o v) e fz):=by
 simp[Ft,Dr,h]
theorem A7C(w:World)(b o k:Nat)(v:Value)(h:k≠b):(w.setCell ⟨b,o,none⟩ v).heap[k]?=w.heap[k]? :=by
 simp only[Ft,Dr];rw[At (by simpa using λe=>h e.symm)]
theorem A5i(P:Bg)(b:Nat)(e:Ax)(fz:Nat×Nat):∀(vs:Ai)(o:Nat)(w:World)(c:Array Value),
  w.heap[b]?=some (.cells c e fz)->o+vs.length<=c.size->(∀j,o<=j->j<o+vs.length->¬(fz.1<=j/\j<fz.2))->(∀v∈vs,v.oneCell'=true)->
  (∀(a:Addr)(i:Nat),a=⟨b,o - i,none⟩->i<=o->(Du a vs i).run P w=.ok () (I5 w b o vs))/\
  (∃c',(I5 w b o vs).heap[b]?=some (.cells c' e fz)/\c'.size=c.size/\(∀j,j<o\/o+vs.length<=j->c'[j]?=c[j]?)/\(∀j v,vs[j]?=some v->c'[o+j]?=some v))/\
  (I5 w b o vs).heap.size=w.heap.size/\(∀k,k≠b->(I5 w b o vs).heap[k]?=w.heap[k]?)/\
  (I5 w b o vs).os=w.os/\(I5 w b o vs).tape=w.tape/\(I5 w b o vs).output=w.output:=by
 intro vs
 induction vs with
 |nil=>
  intro o w c h _ _ _;exact⟨λa i _ _=>rfl,⟨c,h,rfl,λ_ _=>rfl,λj v hj=>by simp at hj⟩,rfl,λ_ _=>rfl,rfl,rfl,rfl⟩
 |cons v vs ih=>
  intro o w c h hl hf h1;have cX:o<c.size:=by simp at hl;omega
  have aJ:w.cell? ⟨b,o,none⟩=some c[o]:=by
   simp[Br,h,cX]
  have oq:w.frozen? ⟨b,o,none⟩=false:=by
   have:=hf o (Bf _) (by simp);simp only[World.frozen?,h];simp;omega
  have h':=A9y w b o v c e fz h;obtain⟨i1,⟨c',i2,i3,i4,i5⟩,i6,i7,i8,i9,wE⟩:=ih (o+1) (w.setCell ⟨b,o,none⟩ v) _ h' (by simp at hl ⊢;omega)
   (λj a1 a2=>hf j (by omega) (by simp;omega)) (λu hu=>h1 u (by simp[hu]))
  refine⟨?_,⟨c',i2,by simpa using i3,?_,?_⟩,by simpa [I5]using i6,?_,i8.trans rfl,by simpa [I5]using i9,wE.trans rfl⟩
  ·intro a i ha hi;subst ha;have cB:(Eh b (o - i) none).add i=⟨b,o,none⟩:=by
    unfold Addr.add;by_cases h0:i=0
    ·subst h0;simp
    ·simp[h0];omega
   have cO:=run_store P w ⟨b,o,none⟩ v .plain (h1 v (by simp));simp only[aJ,oq]at cO;simp only[Du,Fv,cB,cO,Result.andThen_ok,Fj,if_false];exact i1 _ (i+1) (by simp) (by omega)
  ·intro j hj;rw[i4 j (by simp at hj ⊢;omega)];simp at hj;rw[Fk];rw[At (by omega)]
  ·intro j u hu;cases j with
   |zero=>
    simp at hu;subst hu;rw[i4 (o+0) (by omega)];simp[cX]
   |succ j=>
    simp at hu;have:=i5 j u hu;rw[show o+(j+1)=o+1+j by omega];exact this
  ·intro k hk;simp only[I5];rw[i7 k hk,A7C w b o k v hk]
def B0G(P:Bg)(u:Ax):Prop:=(∃e',P.underlying u=some (.slice e'))\/P.underlying u=some .string
theorem A9N{P:Bg}(w:World)(t u ty e:Ax)(i:TypeInfo)(z:Value)(ht:P.underlying t=some (.slice e))(hu:B0G P u)(hi:P.info? e=some i)(hz:i.zero=some z)
  (base:Option Addr)(cV eD:Nat)(cI:Ai)
  (cx:∀w':World,w'.heap=w.heap->(Cl i.size cV (.slice base cV eD)).run P w'=.ok cI.toArray w')
  (x:Value)(m:Nat)(aV:Ai)(aj:(Di x).run P w=.ok m w)
  (iE:∀w':World,w'.heap=w.heap->(Cl i.size m x).run P w'=.ok aV.toArray w')
  (hg:eD<cV+m)(rV:cV+m<=9223372036854775807)(hb:(cV+m)*i.bytes<=140737488355328):
  (Da #[t,u] ty #[.slice base cV eD,x]).run P w=
    .ok (.slice (some ⟨w.heap.size,0,none⟩) (cV+m) (Ct w (cV+m) eD e))
     (w.drew.alloc (.cells (cI.toArray++aV.toArray++Fi z.cells (Ct w (cV+m) eD e - (cV+m))) e)):=by
 have hn:¬(cV+m<=eD):=by omega
 have mL:¬(9223372036854775807<((cV:Int)+(m:Int))):=by omega
 have lm:=growslice_fits hg hb;have rW:¬(281474976710656<Builtin.nextslicecap (cV+m) eD*i.bytes):=by omega
 have hf:=iE w.drew rfl;have wF:=cx w.drew rfl;rcases hu with⟨_,hd⟩|hd<;>
  (simp[Da,Bb ht,Bb hd,sizeOf,Bp,zeroValue,hi,hz,aj,hn,mL,rW,Ep,hf,wF,Cn,Ct]
   congr 2
   apply Eg;simp[List.append_assoc])
theorem A7I{P:Bg}(w:World)(t u ty e:Ax)(i:TypeInfo)(ht:P.underlying t=some (.slice e))(hu:B0G P u)(hi:P.info? e=some i)
  (base:Option Addr)(cV eD:Nat)(x:Value)(m:Nat)(aV:Ai)(aj:(Di x).run P w=.ok m w)
  (iE:(Cl i.size m x).run P w=.ok aV.toArray w)(w':World)
  (cO:∀a,base=some a->(Du (a.add (cV*i.size)) aV).run P w=.ok () w')(oO:base=none->w'=w)
  (hg:cV+m<=eD):
  (Da #[t,u] ty #[.slice base cV eD,x]).run P w=.ok (.slice base (cV+m) eD) w':=by
 cases base with
 |none=>
  have:=oO rfl;subst this;rcases hu with⟨_,hd⟩|hd<;>
   (simp[Da,Bb ht,Bb hd,sizeOf,Bp,hi,aj,hg,iE])
 |some a=>
  have hs:=cO a rfl;rcases hu with⟨_,hd⟩|hd<;>
   (simp[Da,Bb ht,Bb hd,sizeOf,Bp,hi,aj,hg,iE,hs])
end Go.Aev
namespace Go.Aev
variable {Ty:Type}{den:Ty->Type}
def flat(U:UO Ty den)(t:Ty)(l:List (den t)):List (Leaf Ty den):=l.flatMap (U.cells t)
structure UO.Ok(U:UO Ty den):Prop where
 pos:∀t,0<U.size t
 bpos:∀t,0<U.bytes t
 len:∀t x,(U.cells t x).length=U.size t
 dec:∀t ls x,U.dec t ls=some x->U.cells t x=ls
 ofBytes:∀t f,U.ofBytes t=some f->∀b:Ab,(f b).length=b.length/\flat U t (f b)=b.map λc=>.int .u8 (c.toNat:Int)
 ofRunes:∀t f,U.ofRunes t=some f->∀b:Aa,(f b).length=b.length/\flat U t (f b)=b.map λc=>.int .i32 c
 solid:∀t x lf,lf∈U.cells t x->lf≠ .any/\(∀v,lf≠ .val v)/\∀u y,lf≠ .agg u y
 closed:∀t x lf,lf∈U.cells t x->lf.close=lf
 ofBytes1:∀t f,U.ofBytes t=some f->U.size t=1
 ofRunes1:∀t f,U.ofRunes t=some f->U.size t=1
 toRunes1:∀t f,U.toRunes t=some f->U.size t=1
 toRunes:∀t f,U.toRunes t=some f->∀l,flat U t l=(f l).map λn=>.int .i32 n
 toBytes1:∀t f,U.toBytes t=some f->U.size t=1
 toBytes:∀t f,U.toBytes t=some f->∀l,∃ns:Aa,flat U t l=ns.map (λn=>.int .u8 n)/\f l=ns.map λn=>Eo n.toNat
def PS(v:Value):Prop:=(∃p,v=.pointer p)\/∃a l c,v=.slice a l c
section
variable (U:UO Ty den)
inductive CRep (w:World)(wm:Nat->Nat):Leaf Ty den->Value->Prop
 |any (v:Value):CRep w wm .any v
 |int (k:Cd) (n:Int):CRep w wm (.int k n) (.int k n)
 |bool (b:Bool):CRep w wm (.bool b) (.bool b)
 |str (s:Ab):CRep w wm (.str s) (.string ⟨s.toArray⟩)
 |val (v:Value):CRep w wm (.val v) v
 |nil (t:Ty) (own:Ak) (a:Option Addr) (cap:Nat):CRep w wm (.sl t [] own) (.slice a 0 cap)
 |sl (t:Ty) (l:List (den t)) (own:Ak) (b off cap:Nat) (cs:Nat->Value) (aT:l.length<=cap) (aX:off+l.length*U.size t<=wm b)
  (hc:∀j lf,(flat U t l)[j]?=some lf->w.cell? ⟨b,off+j,none⟩=some (cs j)) (hr:∀j lf,(flat U t l)[j]?=some lf->CRep w wm lf (cs j)):
  CRep w wm (.sl t l own) (.slice (some ⟨b,off,none⟩) l.length cap)
 |elem (t:Ty) (x:den t) (off b o:Nat) (cs:Nat->Value) (aX:o+U.size t<=wm b)
  (hc:∀j lf,(U.cells t x)[j]?=some lf->w.cell? ⟨b,o+j,none⟩=some (cs j)) (hr:∀j lf,(U.cells t x)[j]?=some lf->CRep w wm lf (cs j)):
  CRep w wm (.elem t x off) (.pointer (some ⟨b,o+off,none⟩))
 |agg (t:Ty) (x:den t) (vs:Ai) (hl:vs.length=U.size t) (cs:Nat->Value) (hc:∀j lf,(U.cells t x)[j]?=some lf->vs[j]?=some (cs j)) (hr:∀j lf,(U.cells t x)[j]?=some lf->CRep w wm lf (cs j)):
  CRep w wm (.agg t x) (.agg vs.toArray)
 |ifc (T:Ax) (t:Ty) (x:den t) (v:Value) (h:CRep w wm (.agg t x) v):CRep w wm (.ifc T t x) (.iface T v)
 |one1 (t:Ty) (x:den t) (lf:Leaf Ty den) (v:Value) (hl:U.cells t x=[lf]) (h:CRep w wm lf v):CRep w wm (.one1 t x) v
 |ptr (d off:Nat) (v:Value) (h:PS v):CRep w wm (.ptr d off) v
 |nils:CRep w wm .nils (.slice none 0 0)
end
theorem CRep.pt{U:UO Ty den}{w:World}{wm:Nat->Nat}(d off:Nat)(p:Option Addr):CRep U w wm (.ptr d off) (.pointer p):=.ptr _ _ _ (.inl ⟨p,rfl⟩)
theorem A0S{U:UO Ty den}(hU:U.Ok)(t:Ty)(l:List (den t)):(flat U t l).length=l.length*U.size t:=by
 induction l with
 |nil=>simp[flat]
 |cons x l ih=>
  simp only[flat,Gt,Ff,hU.len,Ck]at ih ⊢;rw[ih,Cc];omega
structure Ext(w:World)(wm:Nat->Nat)(w':World)(wm':Nat->Nat):Prop where
 ty:∀(b:Nat)(c:Array Value)(e:Ax)(fz:Nat×Nat),w.heap[b]?=some (.cells c e fz)->∃(c':Array Value)(hH:Nat×Nat),w'.heap[b]?=some (.cells c' e hH)
 cell:∀b off,off<wm b->w'.cell? ⟨b,off,none⟩=w.cell? ⟨b,off,none⟩
 le:∀b,wm b<=wm' b
abbrev TyP(w w':World):Prop:=∀(b:Nat)(c:Array Value)(e:Ax)(fz:Nat×Nat),w.heap[b]?=some (.cells c e fz)->∃(c':Array Value)(hH:Nat×Nat),w'.heap[b]?=some (.cells c' e hH)
theorem A0Y{w w':World}{o:Obj}(h:w'.heap=w.heap.push o):TyP w w':=λb c e fz h1=>by
 have hb:=(Bw.1 h1).1;exact⟨c,fz,by rw[h,Cm,At (by omega)];exact h1⟩
theorem A6X{w w':World}(h:w'.heap=w.heap):TyP w w':=λ_ c _ fz h1=>⟨c,fz,by rw[h];exact h1⟩
theorem A67{w w':World}{b:Nat}{c c':Array Value}{e:Ax}{fz hH:Nat×Nat}(hb:w.heap[b]?=some (.cells c e fz))(aY:w'.heap[b]?=some (.cells c' e hH))(ho:∀k,k≠b->w'.heap[k]?=w.heap[k]?):TyP w w':=λk c1 e1 f1 h1=>by
 by_cases hk:k=b
 ·subst hk;rw[hb]at h1;cases h1;exact⟨_,_,aY⟩
 ·exact⟨c1,f1,by rw[ho k hk];exact h1⟩
theorem D7Y{w w':World}{b:Nat}(hb:∀c e fz,w.heap[b]? ≠some (.cells c e fz))(ho:∀k,k≠b->w'.heap[k]?=w.heap[k]?):TyP w w':=λk c1 e1 f1 h1=>by
 by_cases hk:k=b
 ·subst hk;exact absurd h1 (hb _ _ _)
 ·exact⟨c1,f1,by rw[ho k hk];exact h1⟩
theorem Ext.refl(w:World)(wm:Nat->Nat):Ext w wm w wm:=⟨λ_ c _ fz h=>⟨c,fz,h⟩,λ_ _ _=>rfl,λ_=>Bf _⟩
theorem Ext.trans{w1 w2 w3:World}{m1 m2 m3:Nat->Nat}(h:Ext w1 m1 w2 m2)(k:Ext w2 m2 w3 m3):Ext w1 m1 w3 m3:=
 ⟨λb c e fz h0=>by
  obtain⟨c1,f1,h1⟩:=h.ty b c e fz h0;exact k.ty b c1 e f1 h1,λb o ho=>(k.cell b o (Ge ho (h.le b))).trans (h.cell b o ho),λb=>Cv (h.le b) (k.le b)⟩
theorem CRep.mono{U:UO Ty den}(hU:U.Ok){w w':World}{wm wm':Nat->Nat}(hx:Ext w wm w' wm'){lf:Leaf Ty den}{v:Value}(h:CRep U w wm lf v):CRep U w' wm' lf v:=by
 induction h with
 |any v=>exact .any v
 |int k n=>exact .int k n
 |bool b=>exact .bool b
 |str s=>exact .str s
 |val v=>exact .val v
 |nil t own a cap=>exact .nil t own a cap
 |sl t l own b off cap cs aT aX hc _ ih=>
  refine .sl t l own b off cap cs aT (Cv aX (hx.le b)) (λj lf hj=>?_) ih;have bA:j<(flat U t l).length:=by
   rcases Bu j (flat U t l).length with h|h
   ·exact h
   ·rw[Do h]at hj;cases hj
  rw[A0S hU]at bA;rw[hx.cell b _ (by omega)];exact hc j lf hj
 |agg t x vs hl cs hc _ ih=>exact .agg t x vs hl cs hc ih
 |ifc T t x v _ ih=>exact .ifc T t x v ih
 |one1 t x lf v hl _ ih=>exact .one1 t x lf v hl ih
 |ptr d off v h=>exact .ptr d off v h
 |nils=>exact .nils
 |elem t x off b o cs aX hc _ ih=>
  refine .elem t x off b o cs (Cv aX (hx.le b)) (λj lf hj=>?_) ih;have bA:j<(U.cells t x).length:=by
   rcases Bu j (U.cells t x).length with h|h
   ·exact h
   ·rw[Do h]at hj;cases hj
  rw[hU.len]at bA;rw[hx.cell b _ (by omega)];exact hc j lf hj
theorem CRep.close{U:UO Ty den}{w:World}{wm:Nat->Nat}{lf:Leaf Ty den}{v:Value}(h:CRep U w wm lf v):CRep U w wm lf.close v:=by
 cases h with
 |nil t own a cap=>exact .nil t none a cap
 |sl t l own b off cap cs aT aX hc hr=>exact .sl t l none b off cap cs aT aX hc hr
 |any v=>exact .any v
 |int k n=>exact .int k n
 |bool b=>exact .bool b
 |str s=>exact .str s
 |val v=>exact .val v
 |elem t x off b o cs aX hc hr=>exact .elem t x off b o cs aX hc hr
 |agg t x vs hl cs hc hr=>exact .agg t x vs hl cs hc hr
 |ifc T t x v h=>exact .ifc T t x v h
 |one1 t x lf v hl h=>exact .one1 t x lf v hl h
 |ptr d off b=>exact .any _
 |nils=>exact .nils
theorem CRep.own{U:UO Ty den}{w:World}{wm:Nat->Nat}{t:Ty}{l:List (den t)}{o:Ak}{v:Value}(h:CRep U w wm (.sl t l o) v)(o':Ak):CRep U w wm (.sl t l o') v:=by
 cases h with
 |nil t own a cap=>exact .nil t o' a cap
 |sl t l own b off cap cs aT aX hc hr=>exact .sl t l o' b off cap cs aT aX hc hr
structure Gh where
 wm:Nat->Nat
 G:Nat->Value
 Gs:Nat->Nat
 ib:Nat->Nat
def A9Y(U:UO Ty den)(w:World)(b:Nat):Prop:=∃c fz,w.heap[b]?=some (.cells c U.bty fz)
def PtrAt(U:UO Ty den)(w:World)(b n off:Nat)(v:Value):Prop:=(v=.pointer (some ⟨b,off,none⟩)/\Ay off 1000000=true)\/(off=C4/\A9Y U w b/\(v=.pointer none\/v=.pointer (some ⟨b,0,none⟩)))\/
 (1000000000<=off/\∃c,v=.slice (some ⟨b,0,none⟩) (rN off) c/\rN off<=c/\c*rS off<=n)
theorem PtrAt.mono{U:UO Ty den}{w w':World}{m m':Nat->Nat}(hx:Ext w m w' m'){b n off:Nat}{v:Value}(h:PtrAt U w b n off v):PtrAt U w' b n off v:=by
 rcases h with h|⟨h1,⟨c,fz,h2⟩,h3⟩|h
 ·exact .inl h
 ·obtain⟨c',hH,h4⟩:=hx.ty b c _ fz h2;exact .inr (.inl ⟨h1,⟨c',hH,h4⟩,h3⟩)
 ·exact .inr (.inr h)
theorem PtrAt.at{U:UO Ty den}{w:World}{b n off:Nat}{v:Value}(h:PtrAt U w b n off v)(ho:Ay off 1000000=true):v=.pointer (some ⟨b,off,none⟩):=by
 rw[Cb]at ho;rcases h with h|h|h
 ·exact h.1
 ·have:=h.1;unfold C4 at this;omega
 ·have:=h.1;omega
theorem PtrAt.row{U:UO Ty den}{w:World}{b n off:Nat}{v:Value}(h:PtrAt U w b n off v)(ho:1000000000<=off):∃c,v=.slice (some ⟨b,0,none⟩) (rN off) c/\rN off<=c/\c*rS off<=n:=by
 rcases h with h|h|h
 ·have:=h.2;rw[Cb]at this;omega
 ·have:=h.1;unfold C4 at this;omega
 ·exact h.2
theorem PtrAt.ptr{U:UO Ty den}{w:World}{b n off:Nat}{v:Value}(h:PtrAt U w b n off v):PS v:=by
 rcases h with h|⟨_,_,h|h⟩|⟨_,_,h,_⟩
 ·exact .inl ⟨_,h.1⟩
 ·exact .inl ⟨_,h⟩
 ·exact .inl ⟨_,h⟩
 ·exact .inr ⟨_,_,_,h⟩
def TyB(U:UO Ty den)(w:World)(t:Ty)(v:Value):Prop:=∀e a len cap,U.ety t=some e->v=.slice (some a) len cap->∃c fz,w.heap[a.block]?=some (.cells c e fz)
theorem TyB.ext{U:UO Ty den}{w w':World}{m m':Nat->Nat}(hx:Ext w m w' m'){t:Ty}{v:Value}(h:TyB U w t v):TyB U w' t v:=λe a len cap h1 h2=>by
 obtain⟨c,fz,h4⟩:=h e a len cap h1 h2;exact hx.ty _ c e fz h4
theorem TyB.nil{U:UO Ty den}{w:World}{t:Ty}{len cap:Nat}:TyB U w t (.slice none len cap):=λe a mM cap h1 h2=>by cases h2
theorem TyB.new{U:UO Ty den}{w:World}{t:Ty}{b off len cap:Nat}{c:Array Value}{e:Ax}{fz:Nat×Nat}(he:∀e',U.ety t=some e'->e'=e)(hb:w.heap[b]?=some (.cells c e fz)):TyB U w t (.slice (some ⟨b,off,none⟩) len cap):=λe' a' mM eZ h1 h2=>by
 cases h2;rw[he e' h1];exact⟨c,fz,hb⟩
theorem TyB.len{U:UO Ty den}{w:World}{t:Ty}{a:Addr}{len mM cap:Nat}(h:TyB U w t (.slice (some a) len cap)):TyB U w t (.slice (some a) mM cap):=λe a' wG eZ h1 h2=>by
 cases h2;exact h e a len cap h1 rfl
def Own(w:World)(g:Gh)(U:UO Ty den)(lf:Leaf Ty den)(v:Value):Prop:=(∀t l d,lf=.sl t l (some d)->v=g.G d/\U.size t=g.Gs d/\TyB U w t v)/\
 ∀d off,lf=.ptr d off->∃b n,g.G d=.slice (some ⟨b,0,none⟩) 0 n/\PtrAt U w b n off v
def LRep(U:UO Ty den)(w:World)(g:Gh)(lf:Leaf Ty den)(v:Value):Prop:=CRep U w g.wm lf v/\Own w g U lf v
def LsRep(U:UO Ty den)(w:World)(g:Gh):List (Leaf Ty den)->Ai->Prop
 |[],[]=>True
 |l::ls,v::vs=>LRep U w g l v/\LsRep U w g ls vs
 |_,_=>False
def BoxOk(U:UO Ty den)(w:World)(g:Gh)(d:Nat)(ls:List (Leaf Ty den)):Prop:=
 ∃b n,g.G d=.slice (some ⟨b,0,none⟩) 0 n/\(0<ls.length/\ls.length<=n/\(Ay d 1000000=true->n=ls.length))/\g.Gs d=1/\∀(j:Nat) lf,ls[j]?=some lf->∃u,w.cell? ⟨b,j,none⟩=some u/\u.oneCell'=true/\u.cells= #[u]/\LRep U w g lf u
def ERep(U:UO Ty den)(w:World)(g:Gh)(e:Ent Ty den)(v:Value):Prop:=
 match e with
 | .one l=>LRep U w g l v
 | .tup ls=>∃vs:Ai,v=.tuple vs.toArray/\LsRep U w g ls vs
 | .iter s pos=>∃b,v=.pointer (some ⟨b,0,none⟩)/\w.heap[b]?=some (.stringIter ⟨s.toArray⟩ pos)
 | .bx d ls=>BoxOk U w g d ls
 | .st ls=>∃vs:Ai,v=.agg vs.toArray/\LsRep U w g ls vs/\∀u∈vs,u.oneCell'=true/\u.cells= #[u]
def Tip(w:World)(wm:Nat->Nat)(v:Value)(sz:Nat):Prop:=
 ∃a len cap,v=.slice a len cap/\len<=cap/\(cap=0\/∃b off c e fz,a=some ⟨b,off,none⟩/\w.heap[b]?=some (.cells c e fz)/\off+cap*sz<=c.size/\
  wm b=off+len*sz/\fz.2<=wm b)
def spare(v:Value):Ak:=
 match v with
 | .slice (some a) len cap=>if cap=0 then none else some a.block
 |_=>none
structure Bs where
 w:World
 wm:Nat->Nat
 M:Nat->Prop
 np:Nat
 pv:Nat->Value
structure Rel(U:UO Ty den)(B:Bs)(g:Gh)(s:St Ty den)(a:Act)(w:World):Prop where
 os:w.os=B.w.os
 tape:w.tape=B.w.tape
 output:w.output=B.w.output
 size:B.w.heap.size<=w.heap.size
 frame:∀b,b<B.w.heap.size->¬B.M b->w.heap[b]?=B.w.heap[b]? /\g.wm b=B.wm b
 ext:Ext B.w B.wm w g.wm
 zero:∀b,w.heap.size<=b->g.wm b=0
 ent:∀i,ERep U w g (s.get i) (a.tmps.getD i undef)
 tip:∀d,mem d s.live=true->Tip w g.wm (g.G d) (g.Gs d)
 disj:∀d e b,mem d s.live=true->mem e s.live=true->d≠e->spare (g.G d)=some b->spare (g.G e)≠some b
 mine:∀d b,mem d s.live=true->spare (g.G d)=some b->B.w.heap.size<=b\/B.M b
 iter:∀i c pos,s.get i=.iter c pos->a.tmps.getD i undef=.pointer (some ⟨g.ib i,0,none⟩)/\B.w.heap.size<=g.ib i
 idis:∀i j c p c' p',i≠j->s.get i=.iter c p->s.get j=.iter c' p'->g.ib i≠g.ib j
 defers:a.defers=[]
 bxl:∀i d ls,s.get i=.bx d ls->mem d s.live=true/\i=1000000+d
 pin:∀i,i<B.np->a.tmps.getD i undef=B.pv i
def REL(U:UO Ty den)(B:Bs)(s:St Ty den)(a:Act)(w:World):Prop:=∃g,Rel U B g s a w
end Go.Aev
namespace Go.Aev
variable {Ty:Type}{den:Ty->Type}
theorem F6(a b:Nat):Aw a b=true↔a=b:=Nat.beq_eq ▸ Iff.rfl
theorem K0{a b:Nat}(h:a≠b):Aw a b=false:=by
 cases hb:Aw a b with
 |false=>rfl
 |true=>exact absurd ((F6 a b).1 hb) h
theorem H3(a:Nat):Aw a a=true:=(F6 a a).2 rfl
theorem O1(d e:Nat)(l:Aj):mem e (rem d l)=true↔mem e l=true/\e≠d:=by
 induction l with
 |nil=>simp[mem,rem]
 |cons x l ih=>
  by_cases hx:x=d
  ·subst hx;simp only[rem,H3,Ap,mem,ih];by_cases he:x=e
   ·subst he;simp
   ·rw[K0 he];simp
  ·simp only[rem,K0 hx,Aq,mem];by_cases he:x=e
   ·subst he;simp[H3,hx]
   ·simp only[K0 he,Aq,ih]
theorem mem_cons(d e:Nat)(l:Aj):mem e (d::l)=true↔d=e\/mem e l=true:=by
 by_cases h:d=e
 ·subst h;simp[mem,H3]
 ·simp[mem,K0 h,h]
theorem D3Q(fr:List (Nat×Ent Ty den))(i j:Nat)(e:Ent Ty den):look (ins fr i e) j=if i=j then e else look fr j:=by
 induction fr with
 |nil=>
  by_cases h:i=j
  ·simp[ins,look,h,H3]
  ·simp[ins,look,K0 h,h]
 |cons p r ih=>
  obtain⟨k,x⟩:=p;by_cases hk:k=i
  ·subst hk;simp only[ins,H3,Ap,look];by_cases h:k=j
   ·simp[h,H3]
   ·simp[K0 h,h]
  ·simp only[ins,K0 hk,Aq];cases hb:Ay i k with
   |true=>
    simp only[Ap,look];by_cases h:i=j
    ·simp[h,H3]
    ·simp[K0 h,h]
   |false=>
    simp only[Aq,look,ih];by_cases h:k=j
    ·subst h;simp[H3,Bo hk]
    ·simp[K0 h]
theorem D4H(fr:List (Nat×Ent Ty den))(ds:Aj)(i:Nat):look (del fr ds) i=.one .any\/look (del fr ds) i=look fr i:=by
 induction fr with
 |nil=>exact .inl rfl
 |cons p r ih=>
  obtain⟨k,x⟩:=p;simp only[del];cases hm:mem k ds with
  |true=>
   simp only[Ap,look];by_cases h:k=i
   ·subst h
    left
    clear ih
    induction r with
    |nil=>rfl
    |cons q r uZ=>
     obtain⟨k2,x2⟩:=q;simp only[del];cases dW:mem k2 ds with
     |true=>simpa using uZ
     |false=>
      simp only[Aq,look];by_cases h2:k2=k
      ·subst h2;rw[hm]at dW;cases dW
      ·simp only[K0 h2,Aq];exact uZ
   ·simp only[K0 h,Aq];exact ih
  |false=>
   simp only[Aq,look];by_cases h:k=i
   ·simp[h,H3]
   ·simp only[K0 h,Aq];exact ih
theorem C3y(d:Nat)(fr:List (Nat×Ent Ty den))(i:Nat):look (A7G d fr) i=(look fr i).strip d:=by
 induction fr with
 |nil=>rfl
 |cons p r ih=>
  obtain⟨k,x⟩:=p;simp only[A7G,look];by_cases h:k=i
  ·simp[h,H3]
  ·simp only[K0 h,Aq];exact ih
theorem C0m{d e:Nat}:∀{l:Aj},mem e (A3W d l)=true->d=e\/mem e l=true
 |[],h=>by
  simp only[A3W]at h;rw[mem_cons]at h;exact h
 |x::r,h=>by
  simp only[A3W]at h;cases hb:Ay d x with
  |true=>
   rw[hb]at h;simp only[Ap]at h;rw[mem_cons]at h;exact h
  |false=>
   rw[hb]at h;simp only[Aq]at h;rw[mem_cons]at h ⊢;rcases h with h|h
   ·exact .inr (.inl h)
   ·exact(C0m h).imp id .inr
theorem B3U{fr:List (Nat×Ent Ty den)}{d:Nat}:∀{l:Aj},mem d (gcN fr l)=true->mem d l=true
 |[],h=>h
 |e::r,h=>by
  simp only[gcN]at h;cases hh:A1e e fr with
  |true=>
   rw[hh]at h;simp only[Ap]at h;rw[mem_cons];exact(C0m h).imp id B3U
  |false=>
   rw[hh]at h;simp only[Aq]at h;rw[mem_cons];exact .inr (B3U h)
theorem K5(s:St Ty den)(i j:Nat)(e:Ent Ty den):(s.set i e).get j=if i=j then e else s.get j:=D3Q _ _ _ _
theorem A81(s:St Ty den)(d i:Nat):(s.kill d).get i=(s.get i).strip d:=C3y _ _ _
theorem A3I(s:St Ty den)(d i:Nat):(s.fresh d).get i=(s.get i).strip d:=C3y _ _ _
theorem B0Q(a:Act)(d i:Nat)(v:Value)(h:d<a.tmps.size):(a.put (some d) v).tmps.getD i undef=if d=i then v else a.tmps.getD i undef:=by
 simp only[Ei,Ef,Fk];by_cases hd:d=i
 ·subst hd;simp[h]
 ·simp[hd]
theorem Z6(a:Act)(d:Ak)(v:Value):(a.put d v).tmps.size=a.tmps.size:=by
 cases d<;>simp[Ei]
theorem B2F(a:Act)(d:Ak)(v:Value):(a.put d v).defers=a.defers:=by
 cases d<;>simp[Ei]
theorem Leaf.strip_cases(d:Nat)(lf:Leaf Ty den):lf.strip d=lf\/(∃t l,lf=.sl t l (some d)/\lf.strip d=.sl t l none)\/∃o,lf=.ptr d o/\lf.strip d=.any:=by
 cases lf with
 |sl t l o=>
  cases o with
  |none=>exact .inl rfl
  |some e=>
   by_cases h:e=d
   ·subst h;exact .inr (.inl ⟨t,l,rfl,by simp[Leaf.strip,H3]⟩)
   ·exact .inl (by simp[Leaf.strip,K0 h])
 |ptr e o=>
  by_cases h:e=d
  ·subst h;exact .inr (.inr ⟨o,rfl,by simp[Leaf.strip,H3]⟩)
  ·exact .inl (by simp[Leaf.strip,K0 h])
 |_=>exact .inl rfl
theorem Leaf.strip_ptr(d e o:Nat)(lf:Leaf Ty den)(h:lf.strip d=.ptr e o):e≠d/\lf=.ptr e o:=by
 cases lf with
 |sl t' l' o=>
  cases o<;>simp[Leaf.strip]at h
 |ptr x y=>
  by_cases hx:x=d
  ·subst hx;simp[Leaf.strip,H3]at h
  ·simp only[Leaf.strip,K0 hx,Aq]at h;have h2:=h;simp only[Leaf.ptr.injEq]at h2;exact⟨by rw[<-h2.1];exact hx,h⟩
 |_=>simp[Leaf.strip]at h
theorem Leaf.strip_own(d e:Nat)(lf:Leaf Ty den)(t:Ty)(l:List (den t))(h:lf.strip d=.sl t l (some e)):e≠d/\lf=.sl t l (some e):=by
 cases lf with
 |sl t' l' o=>
  cases o with
  |none=>simp[Leaf.strip]at h
  |some x=>
   by_cases hx:x=d
   ·subst hx;simp[Leaf.strip,H3]at h
   ·simp only[Leaf.strip,K0 hx,Aq]at h;have h2:=h;simp only[Leaf.sl.injEq,Be]at h2;obtain⟨_,_,rfl⟩:=h2;exact⟨hx,h⟩
 |ptr x y=>
  by_cases hx:x=d
  ·subst hx;simp[Leaf.strip,H3]at h
  ·simp[Leaf.strip,K0 hx]at h
 |_=>simp[Leaf.strip]at h
variable {U:UO Ty den}
theorem CRep.strip{w:World}{wm:Nat->Nat}{lf:Leaf Ty den}{v:Value}(h:CRep U w wm lf v)(d:Nat):CRep U w wm (lf.strip d) v:=by
 rcases lf.strip_cases d with e|⟨t,l,rfl,e⟩|⟨o,rfl,e⟩
 ·rw[e];exact h
 ·rw[e];exact h.own none
 ·rw[e];exact .any v
structure Gh.off(g g':Gh)(d:Nat):Prop where
 G:∀e,e≠d->g'.G e=g.G e
 Gs:∀e,e≠d->g'.Gs e=g.Gs e
theorem LRep.step(hU:U.Ok){w w':World}{g g':Gh}{d:Nat}(hx:Ext w g.wm w' g'.wm)(ho:g.off g' d){lf:Leaf Ty den}{v:Value}(h:LRep U w g lf v):LRep U w' g' (lf.strip d) v:=by
 refine⟨(h.1.strip d).mono hU hx,λt l e he=>?_,λe o he=>?_⟩
 ·obtain⟨h1,h2⟩:=Leaf.strip_own d e lf t l he;rw[ho.G e h1,ho.Gs e h1];have:=h.2.1 t l e h2;exact⟨this.1,this.2.1,this.2.2.ext hx⟩
 ·obtain⟨h1,h2⟩:=Leaf.strip_ptr d e o lf he;rw[ho.G e h1];obtain⟨b,n,h3,h4⟩:=h.2.2 e o h2;exact⟨b,n,h3,h4.mono hx⟩
theorem LsRep.step(hU:U.Ok){w w':World}{g g':Gh}{d:Nat}(hx:Ext w g.wm w' g'.wm)(ho:g.off g' d):∀{ls:List (Leaf Ty den)}{vs:Ai},LsRep U w g ls vs->LsRep U w' g' (ls.map (·.strip d)) vs
 |[],[],_=>trivial
 |_::_,_::_,h=>⟨h.1.step hU hx ho,LsRep.step hU hx ho h.2⟩
theorem BoxOk.ex{w:World}{g:Gh}{d:Nat}{ls:List (Leaf Ty den)}(b:Nat)(h1:g.G d=.slice (some ⟨b,0,none⟩) 0 ls.length)(h2:0<ls.length)(h3:g.Gs d=1)(h4:∀(j:Nat) lf,ls[j]?=some lf->∃u,w.cell? ⟨b,j,none⟩=some u/\u.oneCell'=true/\u.cells= #[u]/\LRep U w g lf u):BoxOk U w g d ls:=
 ⟨b,_,h1,⟨h2,Bf _,λ_=>rfl⟩,h3,h4⟩
theorem BoxOk.spare{w:World}{g:Gh}{d:Nat}{ls:List (Leaf Ty den)}(h:BoxOk U w g d ls):∃b n,g.G d=.slice (some ⟨b,0,none⟩) 0 n/\Go.Aev.spare (g.G d)=some b:=by
 obtain⟨b,n,h1,⟨h2,h3,_⟩,_⟩:=h;refine⟨b,n,h1,?_⟩;rw[h1];simp only[Go.Aev.spare];rw[At (by omega)]
theorem BoxOk.step(hU:U.Ok){w w':World}{g g':Gh}{d d':Nat}{ls:List (Leaf Ty den)}(hx:Ext w g.wm w' g'.wm)(ho:g.off g' d)(h:BoxOk U w g d' ls)(hd:d'≠d)(hb:∀b,Go.Aev.spare (g.G d')=some b->w'.heap[b]?=w.heap[b]?):BoxOk U w' g' d' (ls.map (·.strip d)):=by
 obtain⟨b0,n0,e1,e2⟩:=h.spare;obtain⟨b,n,h1,h2,h3,h4⟩:=h;rw[h1]at e1;cases e1;refine⟨b0,n0,by rw[ho.G d' hd,h1],by rw[Fe];exact h2,by rw[ho.Gs d' hd,h3],λj lf hj=>?_⟩;rw[Bn]at hj;obtain⟨l0,cH,rfl⟩:=Cj.1 hj;obtain⟨u,u1,u2,u3,u4⟩:=h4 j l0 cH;exact⟨u,by rw[<-u1];exact Bq (a:=⟨b0,j,none⟩) (hb b0 e2),u2,u3,u4.step hU hx ho⟩
theorem ERep.step(hU:U.Ok){w w':World}{g g':Gh}{d:Nat}(hx:Ext w g.wm w' g'.wm)(ho:g.off g' d){e:Ent Ty den}{v:Value}(h:ERep U w g e v)
  (hi:∀c pos,e=.iter c pos->∀b,v=.pointer (some ⟨b,0,none⟩)->w'.heap[b]?=w.heap[b]?)
  (hb:∀d' ls,e=.bx d' ls->d'≠d->∀b,spare (g.G d')=some b->w'.heap[b]?=w.heap[b]?):ERep U w' g' (e.strip d) v:=by
 cases e with
 |bx d' ls=>
  simp only[Ent.strip];by_cases hd:d'=d
  ·subst hd;rw[H3];exact⟨.any v,λt l d h=>by(cases h),λ_ _ h=>by(cases h)⟩
  ·rw[K0 hd];exact BoxOk.step hU hx ho h hd (hb d' ls rfl hd)
 |one l=>exact LRep.step hU hx ho h
 |tup ls=>obtain⟨vs,hv,hr⟩:=h;exact⟨vs,hv,LsRep.step hU hx ho hr⟩
 |st ls=>obtain⟨vs,hv,hr,h1⟩:=h;exact⟨vs,hv,LsRep.step hU hx ho hr,h1⟩
 |iter c pos=>
  obtain⟨b,hv,hb⟩:=h;exact⟨b,hv,(hi c pos rfl b hv).trans hb⟩
theorem LRep.same(hU:U.Ok){w w':World}{g g':Gh}(hx:Ext w g.wm w' g'.wm)(hG:g'.G=g.G)(cW:g'.Gs=g.Gs){lf:Leaf Ty den}{v:Value}(h:LRep U w g lf v):LRep U w' g' lf v:=
 ⟨h.1.mono hU hx,λt l e he=>by rw[hG,cW];have:=h.2.1 t l e he;exact⟨this.1,this.2.1,this.2.2.ext hx⟩,λe o he=>by rw[hG];obtain⟨b,n,h3,h4⟩:=h.2.2 e o he;exact⟨b,n,h3,h4.mono hx⟩⟩
theorem BoxOk.same(hU:U.Ok){w w':World}{g g':Gh}{d:Nat}{ls:List (Leaf Ty den)}(hx:Ext w g.wm w' g'.wm)(hG:g'.G=g.G)(cW:g'.Gs=g.Gs)(h:BoxOk U w g d ls)(hb:∀b,Go.Aev.spare (g.G d)=some b->w'.heap[b]?=w.heap[b]?):BoxOk U w' g' d ls:=by
 obtain⟨b0,n0,e1,e2⟩:=h.spare;obtain⟨b,n,h1,h2,h3,h4⟩:=h;rw[h1]at e1;cases e1;refine⟨b0,n0,by rw[hG,h1],h2,by rw[cW,h3],λj lf hj=>?_⟩;obtain⟨u,u1,u2,u3,u4⟩:=h4 j lf hj;exact⟨u,by rw[<-u1];exact Bq (a:=⟨b0,j,none⟩) (hb b0 e2),u2,u3,u4.same hU hx hG cW⟩
theorem LsRep.same(hU:U.Ok){w w':World}{g g':Gh}(hx:Ext w g.wm w' g'.wm)(hG:g'.G=g.G)(cW:g'.Gs=g.Gs):∀{ls:List (Leaf Ty den)}{vs:Ai},LsRep U w g ls vs->LsRep U w' g' ls vs
 |[],[],_=>trivial
 |_::_,_::_,h=>⟨h.1.same hU hx hG cW,LsRep.same hU hx hG cW h.2⟩
theorem ERep.same(hU:U.Ok){w w':World}{g g':Gh}(hx:Ext w g.wm w' g'.wm)(hG:g'.G=g.G)(cW:g'.Gs=g.Gs){e:Ent Ty den}{v:Value}(h:ERep U w g e v)
  (hi:∀c pos,e=.iter c pos->∀b,v=.pointer (some ⟨b,0,none⟩)->w'.heap[b]?=w.heap[b]?)
  (hb:∀d' ls,e=.bx d' ls->∀b,spare (g.G d')=some b->w'.heap[b]?=w.heap[b]?):ERep U w' g' e v:=by
 cases e with
 |bx d' ls=>exact BoxOk.same hU hx hG cW h (hb d' ls rfl)
 |one l=>exact LRep.same hU hx hG cW h
 |tup ls=>obtain⟨vs,hv,hr⟩:=h;exact⟨vs,hv,LsRep.same hU hx hG cW hr⟩
 |st ls=>obtain⟨vs,hv,hr,h1⟩:=h;exact⟨vs,hv,LsRep.same hU hx hG cW hr,h1⟩
 |iter c pos=>
  obtain⟨b,hv,hb⟩:=h;exact⟨b,hv,(hi c pos rfl b hv).trans hb⟩
theorem ERep.any(w:World)(g:Gh)(v:Value):ERep U w g (.one .any:Ent Ty den) v:=⟨.any v,λt l d h=>by(cases h),λ_ _ h=>by(cases h)⟩
def Ent.isIter:Ent Ty den->Bool
 | .iter _ _=>true
 | .bx _ _=>true
 |_=>false
variable {B:Bs}{g:Gh}{s:St Ty den}{a:Act}{w:World}
theorem Rel.set(h:Rel U B g s a w){e:Ent Ty den}{v:Value}(he:ERep U w g e v)(hi:e.isIter=false)(d:Nat)(hd:d<a.tmps.size/\B.np<=d):Rel U B g (s.set d e) (a.put (some d) v) w:=by
 have rX:=hd.2;have hd:=hd.1;have aL:=B0Q a d;refine{h with ent:=λi=>?_,iter:=λi c pos hc=>?_,idis:=λi j c p c' p' cn h1 h2=>?_,defers:=by rw[B2F];exact h.defers,bxl:=λi e ls hc=>?_,pin:=λi hi=>by rw[aL i v hd,At (by omega)];exact h.pin i hi}
 ·rw[K5,aL i v hd];by_cases cC:d=i
  ·simp only[Au cC];exact he
  ·simp only[At cC];exact h.ent i
 ·rw[K5]at hc;rw[aL i v hd];by_cases cC:d=i
  ·rw[Au cC]at hc;subst hc;cases hi
  ·rw[At cC]at hc ⊢;exact h.iter i c pos hc
 ·rw[K5]at h1 h2;by_cases cC:d=i
  ·rw[Au cC]at h1;subst h1;cases hi
  ·by_cases jp:d=j
   ·rw[Au jp]at h2;subst h2;cases hi
   ·rw[At cC]at h1;rw[At jp]at h2;exact h.idis i j c p c' p' cn h1 h2
 ·rw[K5]at hc;by_cases cC:d=i
  ·rw[Au cC]at hc;subst hc;cases hi
  ·rw[At cC]at hc;exact h.bxl i e ls hc
theorem Rel.weaken{s':St Ty den}(h:Rel U B g s a w)(he:∀i,s'.get i=.one .any\/s'.get i=s.get i)(hl:∀d,mem d s'.live=true->mem d s.live=true)(oP:∀i d ls,s'.get i=.bx d ls->mem d s.live=true->mem d s'.live=true):Rel U B g s' a w:=by
 refine{h with ent:=λi=>?_,tip:=λd hd=>h.tip d (hl d hd),disj:=λd e b hd lr=>h.disj d e b (hl d hd) (hl e lr),mine:=λd b hd=>h.mine d b (hl d hd),iter:=λi c pos hc=>?_,idis:=λi j c p c' p' cn h1 h2=>?_,bxl:=λi d ls hc=>?_}
 ·rcases he i with h1|h1
  ·rw[h1];exact .any _ _ _
  ·rw[h1];exact h.ent i
 ·rcases he i with h1|h1
  ·rw[h1]at hc;cases hc
  ·rw[h1]at hc;exact h.iter i c pos hc
 ·rcases he i with e1|e1
  ·rw[e1]at h1;cases h1
  ·rcases he j with e2|e2
   ·rw[e2]at h2;cases h2
   ·rw[e1]at h1;rw[e2]at h2;exact h.idis i j c p c' p' cn h1 h2
 ·have eT:=hc;rcases he i with e1|e1
  ·rw[e1]at hc;cases hc
  ·rw[e1]at hc;obtain⟨h1,h2⟩:=h.bxl i d ls hc;exact⟨oP i d ls eT h1,h2⟩
theorem D8Z{fr:List (Nat×Ent Ty den)}{d:Nat}:∀{i:Nat}{e:Ent Ty den},look fr i=e->e.has d=true->A1e d fr=true:=by
 induction fr with
 |nil=>intro i e h1 h2;simp only[look]at h1;subst h1;cases h2
 |cons p r ih=>
  obtain⟨k,x⟩:=p;intro i e h1 h2;simp only[look]at h1;simp only[A1e];cases hx:x.has d with
  |true=>rfl
  |false=>
   cases hk:Aw k i with
   |true=>rw[hk]at h1;simp only[Ap]at h1;subst h1;rw[hx]at h2;cases h2
   |false=>rw[hk]at h1;exact ih h1 h2
theorem A9Z{d e:Nat}:∀{l:Aj},d=e\/mem e l=true->mem e (A3W d l)=true
 |[],h=>by
  simp only[A3W];rw[mem_cons];exact h
 |x::r,h=>by
  simp only[A3W];cases hb:Ay d x with
  |true=>simp only[Ap];rw[mem_cons];exact h
  |false=>
   simp only[Aq];rw[mem_cons];rcases h with h|h
   ·exact .inr (A9Z (.inl h))
   ·rw[mem_cons]at h;exact h.imp id λh=>A9Z (.inr h)
theorem B3B{fr:List (Nat×Ent Ty den)}{d:Nat}(hd:A1e d fr=true):∀{l:Aj},mem d l=true->mem d (gcN fr l)=true
 |[],h=>h
 |e::r,h=>by
  simp only[gcN];rw[mem_cons]at h;rcases h with h|h
  ·subst h;rw[hd];exact A9Z (.inl rfl)
  ·cases A1e e fr with
   |true=>exact A9Z (.inr (B3B hd h))
   |false=>exact B3B hd h
theorem Rel.clean(h:Rel U B g s a w)(ds:Aj):Rel U B g (s.dels ds).gc a w:=
 h.weaken (λi=>D4H _ _ _) (λ_ hd=>B3U hd) (λi d ls hi hd=>B3B (D8Z hi (by simp[Ent.has,H3])) hd)
theorem Rel.world(hU:U.Ok)(h:Rel U B g s a w){w':World}{wm':Nat->Nat}(iW:w'.os=w.os)(cJ:w'.tape=w.tape)(dC:w'.output=w.output)(ao:w.heap.size<=w'.heap.size)
  (hx:Ext w g.wm w' wm')(M:Nat->Prop)(wH:∀b,M b->∃c e fz,w.heap[b]?=some (.cells c e fz))(u6:∀d b,mem d s.live=true->spare (g.G d)=some b->¬M b\/(Tip w' wm' (g.G d) (g.Gs d)/\∀i ls,s.get i≠ .bx d ls))
  (wI:∀b,M b->B.w.heap.size<=b\/B.M b)
  (oq:∀b,b<w.heap.size->¬M b->w'.heap[b]?=w.heap[b]? /\wm' b=g.wm b)(hz:∀b,w'.heap.size<=b->wm' b=0):Rel U B {g with wm:=wm'} s a w':=by
 have ap:∀{b:Nat}{o:Obj},w.heap[b]?=some o->b<w.heap.size:=λhb=>(Bw.1 hb).1;refine{os:=iW.trans h.os,tape:=cJ.trans h.tape,output:=dC.trans h.output,size:=Cv h.size ao,frame:=λb hb hM=>?_,ext:=h.ext.trans hx,zero:=hz,ent:=λi=>ERep.same (g':={g with wm:=wm'}) hU hx rfl rfl (h.ent i) (λc pos hc b hv=>?_) (λd ls hc b hs=>?_),tip:=λd hd=>?_,disj:=h.disj,mine:=h.mine,iter:=h.iter,idis:=h.idis,defers:=h.defers,bxl:=h.bxl,pin:=h.pin}
 ·have h1:=h.frame b hb hM;have h2:=oq b (Ge hb h.size) (λe=>by
   rcases wI b e with h3|h3
   ·omega
   ·exact hM h3)
  exact⟨h2.1.trans h1.1,h2.2.trans h1.2⟩
 ·have he:=h.ent i;rw[hc]at he;obtain⟨b',da,aY⟩:=he;rw[hv]at da;cases da;exact(oq b (ap aY) (λe=>by obtain⟨_,_,_,h3⟩:=wH b e;rw[aY]at h3;cases h3)).1
 ·obtain⟨hl,_⟩:=h.bxl i d ls hc;refine(oq b ?_ ((u6 d b hl hs).resolve_right (λh2=>h2.2 i ls hc))).1;obtain⟨a0,len,cap,hv,aZ,cq⟩:=h.tip d hl;rw[hv]at hs;cases a0 with
  |none=>simp[spare]at hs
  |some a1=>
   by_cases cX:cap=0
   ·simp[spare,cX]at hs
   ·obtain⟨b',off,c,e,fz,ha,hb,_⟩:=cq.resolve_left cX;cases ha;simp[spare,cX]at hs;subst hs;exact ap hb
 ·obtain⟨a0,len,cap,hv,aZ,hc⟩:=h.tip d hd;by_cases cX:cap=0
  ·exact⟨a0,len,cap,hv,aZ,.inl cX⟩
  refine(hc.resolve_left cX).elim λb cq=>?_;obtain⟨off,c,e,fz,ha,hb,ct,aX,lX⟩:=cq;rcases u6 d b hd (by rw[hv,ha];simp[spare,cX])with wJ|⟨hT,_⟩
  case inr=>exact hT
  refine⟨a0,len,cap,hv,aZ,.inr ?_⟩;have:=oq b (ap hb) wJ;exact⟨b,off,c,e,fz,ha,this.1.trans hb,ct,this.2.trans aX,by show fz.2<=wm' b;rw[this.2];exact lX⟩
def Gh.put(g:Gh)(d:Nat)(v:Value)(sz:Nat):Gh:={g with G:=λe=>if e=d then v else g.G e,Gs:=λe=>if e=d then sz else g.Gs e}
theorem Gh.put_off(g:Gh)(d:Nat)(v:Value)(sz:Nat):g.off (g.put d v sz) d:=
 ⟨λe he=>by simp[Gh.put,he],λe he=>by simp[Gh.put,he]⟩
theorem Ent.strip_iter{d:Nat}{e:Ent Ty den}{c:Ab}{pos:Nat}(h:e.strip d=.iter c pos):e=.iter c pos:=by
 cases e with
 |iter c' p'=>simpa [Ent.strip]using h
 |one l=>simp[Ent.strip]at h
 |tup ls=>simp[Ent.strip]at h
 |st ls=>simp[Ent.strip]at h
 |bx d' ls=>
  simp only[Ent.strip]at h;cases hb:Aw d' d<;>rw[hb]at h<;>cases h
theorem Ent.strip_bx{d d':Nat}{e:Ent Ty den}{ls:List (Leaf Ty den)}(h:e.strip d=.bx d' ls):d'≠d/\∃bL,e=.bx d' bL:=by
 cases e with
 |iter c' p'=>simp[Ent.strip]at h
 |one l=>simp[Ent.strip]at h
 |tup ls=>simp[Ent.strip]at h
 |st ls=>simp[Ent.strip]at h
 |bx x y=>
  simp only[Ent.strip]at h;by_cases hx:x=d
  ·subst hx;rw[H3]at h;cases h
  ·rw[K0 hx]at h;simp only[Aq,Ent.bx.injEq]at h;obtain⟨rfl,_⟩:=h;exact⟨hx,y,rfl⟩
theorem Rel.fresh(hU:U.Ok)(h:Rel U B g s a w)(d:Nat)(v:Value)(sz:Nat)(ht:Tip w g.wm v sz)
  (hd:∀e b,mem e s.live=true->e≠d->spare v=some b->spare (g.G e)≠some b)(hm:∀b,spare v=some b->B.w.heap.size<=b\/B.M b):
  Rel U B (g.put d v sz) (s.fresh d) a w:=by
 have hG:∀e,e≠d->(g.put d v sz).G e=g.G e:=λe he=>by simp[Gh.put,he]
 have cW:∀e,e≠d->(g.put d v sz).Gs e=g.Gs e:=λe he=>by simp[Gh.put,he]
 have jE:(g.put d v sz).G d=v:=by simp[Gh.put]
 have rY:(g.put d v sz).Gs d=sz:=by simp[Gh.put]
 have aw:∀e,mem e (s.fresh d).live=true->e=d\/(e≠d/\mem e s.live=true):=λe he=>by
  simp only[St.fresh]at he;rw[mem_cons,O1]at he;rcases he with rfl|⟨h1,h2⟩
  ·exact .inl rfl
  ·exact .inr ⟨h2,h1⟩
 refine{os:=h.os,tape:=h.tape,output:=h.output,size:=h.size,frame:=h.frame,ext:=h.ext,zero:=h.zero,ent:=λi=>?_,tip:=λe he=>?_,disj:=λe f b he hf av h1=>?_,mine:=λe b he h1=>?_,iter:=λi c pos hc=>?_,idis:=λi j c p c' p' cn h1 h2=>?_,defers:=h.defers,bxl:=λi e ls hc=>?_,pin:=h.pin}
 ·rw[A3I];exact ERep.step (g':=g.put d v sz) (w':=w) hU (Ext.refl w g.wm) (g.put_off d v sz) (h.ent i) (λ_ _ _ _ _=>rfl) (λ_ _ _ _ _ _=>rfl)
 ·rcases aw e he with rfl|⟨h1,h2⟩
  ·rw[jE,rY];exact ht
  ·rw[hG e h1,cW e h1];exact h.tip e h2
 ·rcases aw e he with rfl|⟨e1,e2⟩
  ·rcases aw f hf with rfl|⟨f1,f2⟩
   ·exact absurd rfl av
   ·rw[jE]at h1;rw[hG f f1];exact hd f b f2 f1 h1
  ·rw[hG e e1]at h1;rcases aw f hf with rfl|⟨f1,f2⟩
   ·rw[jE];exact λh2=>hd e b e2 e1 h2 h1
   ·rw[hG f f1];exact h.disj e f b e2 f2 av h1
 ·rcases aw e he with rfl|⟨e1,e2⟩
  ·rw[jE]at h1;exact hm b h1
  ·rw[hG e e1]at h1;exact h.mine e b e2 h1
 ·rw[A3I]at hc;exact h.iter i c pos (Ent.strip_iter hc)
 ·rw[A3I]at h1 h2;exact h.idis i j c p c' p' cn (Ent.strip_iter h1) (Ent.strip_iter h2)
 ·rw[A3I]at hc;obtain⟨h1,bL,h2⟩:=Ent.strip_bx hc;obtain⟨h3,h4⟩:=h.bxl i e bL h2;refine⟨?_,h4⟩;simp only[St.fresh];rw[mem_cons,O1];exact .inr ⟨h3,h1⟩
theorem Rel.kill(hU:U.Ok)(h:Rel U B g s a w)(d:Nat):Rel U B g (s.kill d) a w:=by
 have aw:∀e,mem e (s.kill d).live=true->mem e s.live=true:=λe he=>((O1 d e s.live).1 he).1;refine{h with ent:=λi=>?_,tip:=λe he=>h.tip e (aw e he),disj:=λe f b he hf=>h.disj e f b (aw e he) (aw f hf),mine:=λe b he=>h.mine e b (aw e he),iter:=λi c pos hc=>?_,idis:=λi j c p c' p' cn h1 h2=>?_,bxl:=λi e ls hc=>?_}
 ·rw[A81];exact(h.ent i).step hU (Ext.refl _ _) ⟨λ_ _=>rfl,λ_ _=>rfl⟩ (λ_ _ _ _ _=>rfl) (λ_ _ _ _ _ _=>rfl)
 ·rw[A81]at hc;exact h.iter i c pos (Ent.strip_iter hc)
 ·rw[A81]at h1 h2;exact h.idis i j c p c' p' cn (Ent.strip_iter h1) (Ent.strip_iter h2)
 ·rw[A81]at hc;obtain⟨h1,bL,h2⟩:=Ent.strip_bx hc;obtain⟨h3,h4⟩:=h.bxl i e bL h2;exact⟨(O1 d e s.live).2 ⟨h3,h1⟩,h4⟩
theorem A5y{w:World}{wm:Nat->Nat}{v:Value}{sz b:Nat}(h:Tip w wm v sz)(hs:spare v=some b):∃c e fz,w.heap[b]?=some (.cells c e fz):=by
 obtain⟨a0,len,cap,rfl,aZ,cq⟩:=h;cases a0 with
 |none=>simp[spare]at hs
 |some a1=>
  by_cases cX:cap=0
  ·simp[spare,cX]at hs
  ·obtain⟨b',off,c,e,fz,ha,hb,_⟩:=cq.resolve_left cX;cases ha;simp[spare,cX]at hs;subst hs;exact⟨c,e,fz,hb⟩
theorem C0x{w:World}{wm:Nat->Nat}{v:Value}{sz b:Nat}(h:Tip w wm v sz)(hs:spare v=some b):b<w.heap.size:=by
 obtain⟨a0,len,cap,hv,_,cq⟩:=h;rw[hv]at hs;simp only[spare]at hs;split at hs
 ·rename_i a1 l1 c1 bN;cases bN;split at hs
  ·cases hs
  ·rename_i cX;rcases cq with h3|⟨b',off,c,e,fz,ha,hb,_⟩
   ·exact absurd h3 cX
   ·cases ha;simp at hs;subst hs;exact(Bw.1 hb).1
 ·cases hs
theorem Rel.redo{U:UO Ty den}{B:Bs}{g:Gh}{s:St Ty den}{a:Act}{w:World}(hU:U.Ok)(hr:Rel U B g s a w){d b:Nat}(dl:mem d s.live=true)(bf:Go.Aev.spare (g.G d)=some b){c c':Array Value}{e:Ax}{fz:Nat×Nat}(hb:w.heap[b]?=some (.cells c e fz))
  {w':World}(aY:w'.heap[b]?=some (.cells c' e fz))(ci:∀k,k≠b->w'.heap[k]?=w.heap[k]?)(ao:w'.heap.size=w.heap.size)(iW:w'.os=w.os)(cJ:w'.tape=w.tape)(dC:w'.output=w.output)
  {wm':Nat->Nat}(hx:Ext w g.wm w' wm')(aX:∀k,k≠b->wm' k=g.wm k)(v:Value)(sz:Nat)(ht:Tip w' wm' v sz)(iF:∀k,Go.Aev.spare v=some k->k=b):
  Rel U B (({g with wm:=wm'}:Gh).put d v sz) (s.fresh d) a w':=by
 have oQ:=(Bw.1 hb).1;have h1:=(hr.kill hU d).world hU (w':=w') (wm':=wm') iW cJ dC (Nat.le_of_eq ao.symm) hx (λb'=>b'=b) (λb' aY=>by cases aY;exact⟨c,e,fz,hb⟩)
  (λe1 b' gG dX=>.inl λaY=>by
   cases aY;have dN:=(O1 d e1 s.live).1 gG;exact hr.disj d e1 b dl dN.1 (Bo dN.2) bf dX)
  (λb' aY=>by cases aY;exact hr.mine d b dl bf)
  (λb' aY av=>⟨ci b' av,aX b' av⟩)
  (λb' aY=>by rw[ao]at aY;rw[aX b' (by omega)];exact hr.zero b' aY)
 have h2:=h1.fresh hU d v sz ht
  (λe1 b' gG av dX er=>by
   cases iF b' dX;have dN:=(O1 d e1 s.live).1 gG;exact hr.disj d e1 b dl dN.1 (Bo av) bf er)
  (λb' dX=>by cases iF b' dX;exact hr.mine d b dl bf)
 have cO:∀lf:Leaf Ty den,(lf.strip d).strip d=lf.strip d:=λlf=>by
  cases lf with
  |sl t l o=>
   cases o with
   |none=>rfl
   |some e=>
    simp only[Leaf.strip];cases hb:Aw e d<;>simp[hb]
  |ptr e o=>
   simp only[Leaf.strip];cases hb:Aw e d with
   |true=>rfl
   |false=>simp[hb,Leaf.strip]
  |_=>rfl
 refine h2.weaken (λi=>.inr ?_) (λe1 gG=>?_) (λi d' ls _ hl=>?_)
 ·rw[A3I,A3I,A81];cases db:s.get i with
  |one lf=>simp only[Ent.strip];rw[cO]
  |st ls=>simp only[Ent.strip,Fb];congr 1;exact Fc λlf _=>(cO lf).symm
  |tup ls=>simp only[Ent.strip,Fb];congr 1;exact Fc λlf _=>(cO lf).symm
  |iter c p=>rfl
  |bx d' ls=>
   simp only[Ent.strip];cases hb:Aw d' d with
   |true=>rfl
   |false=>simp only[Aq,Ent.strip,hb,Fb];congr 1;exact Fc λlf _=>(cO lf).symm
 ·simp only[St.fresh,St.kill]at gG ⊢;rw[mem_cons,O1]at gG ⊢;exact gG.imp id λh3=>⟨(O1 d e1 _).2 h3,h3.2⟩
 ·simp only[St.fresh,St.kill]at hl ⊢;rw[mem_cons,O1]at hl ⊢;exact hl.imp id λh3=>⟨((O1 d d' _).1 h3.1).1,h3.2⟩
end Go.Aev
namespace Go.Aev
variable {Ty:Type}{den:Ty->Type}
def P8(P:Bg)(U:UO Ty den)(t:Ax):TK Ty->Prop
 | .int k=>P.underlying t=some (.int k)
 | .str=>P.underlying t=some .string
 | .bool=>P.underlying t=some .bool
 | .slice u e=>(P.underlying t=some (.slice e)/\∃i z,P.info? e=some i/\i.size=U.size u/\i.bytes=U.bytes u/\i.zero=some z/\z.cells.size=U.size u)/\∀e',U.ety u=some e'->e'=e
 | .struct u pl=>∃fs i z,P.underlying t=some (.struct fs)/\fs.toList.mapM (λf=>(P.info? f.type).map λi=>(f.offset,i.size))=some pl/\
  P.info? t=some i/\i.size=U.size u/\i.zero=some z/\z.cells.size=U.size u
 | .iface u=>(∃m,P.underlying t=some (.interface m))/\U.size u=1
 | .other=>True
section
variable {U:UO Ty den}{w:World}{g:Gh}{wm:Nat->Nat}
theorem CRep.int_inv{k:Cd}{n:Int}{v:Value}(h:CRep U w wm (.int k n) v):v=.int k n:=by cases h;rfl
theorem CRep.bool_inv{b:Bool}{v:Value}(h:CRep U w wm (.bool b) v):v=.bool b:=by cases h;rfl
theorem CRep.str_inv{s:Ab}{v:Value}(h:CRep U w wm (.str s) v):v=.string ⟨s.toArray⟩:=by cases h;rfl
theorem CRep.sl_inv{t:Ty}{l:List (den t)}{o:Ak}{v:Value}(h:CRep U w wm (.sl t l o) v):∃a cap,v=.slice a l.length cap:=by
 cases h with
 |nil t o a cap=>exact⟨a,cap,rfl⟩
 |sl t l o b off cap=>exact⟨_,cap,rfl⟩
theorem LRep.int(k:Cd)(n:Int):LRep U w g (.int k n) (.int k n):=⟨.int k n,λ_ _ _ h=>by(cases h),λ_ _ h=>by(cases h)⟩
theorem LRep.bool(b:Bool):LRep U w g (.bool b) (.bool b):=⟨.bool b,λ_ _ _ h=>by(cases h),λ_ _ h=>by(cases h)⟩
theorem LRep.str(s:Ab):LRep U w g (.str s) (.string ⟨s.toArray⟩):=⟨.str s,λ_ _ _ h=>by(cases h),λ_ _ h=>by(cases h)⟩
theorem LRep.any(v:Value):LRep U w g .any v:=⟨.any v,λ_ _ _ h=>by(cases h),λ_ _ h=>by(cases h)⟩
theorem LRep.closed{lf:Leaf Ty den}{v:Value}(h:CRep U w g.wm lf v):LRep U w g lf.close v:=
 ⟨h.close,λt l d e=>by(cases lf<;>simp[Leaf.close]at e),λd o e=>by(cases lf<;>simp[Leaf.close]at e)⟩
theorem C1L(s:ByteArray):(⟨s.data.toList.toArray⟩:ByteArray)=s:=by cases s;simp
theorem C9f(v:Value):LRep U w g (C1t v) v:=by
 cases v<;>first
  |exact LRep.int _ _
  |exact LRep.bool _
  |exact LRep.any _
  |(rename_i s;have:=LRep.str (U:=U) (w:=w) (g:=g) s.data.toList;rw[C1L]at this;exact this)
end
section
variable {E:Env Ty den}{B:Bs}{g:Gh}{s:St Ty den}{a:Act}{w:World}
theorem A3J(h:Rel E.U B g s a w)(ty:Ax)(x:Ba):ERep E.U w g (opd E s ty x) (a.eval x):=by
 cases x with
 |tmp t=>
  have he:=h.ent t;simp only[opd,Ds];cases hg:s.get t with
  |iter c p=>exact ERep.any _ _ _
  |one l=>rw[hg]at he;exact he
  |tup ls=>rw[hg]at he;exact he
  |st ls=>rw[hg]at he;exact he
  |bx d ls=>exact ERep.any _ _ _
 |const v=>
  simp only[opd,Ds];split
  ·split
   ·exact⟨.nil _ _ _ _,λt l d e=>by(simp at e),λ_ _ e=>by(cases e)⟩
   ·exact ERep.any _ _ _
  ·exact C9f v
 |global g'=>exact ERep.any _ _ _
 |func f=>exact ERep.any _ _ _
theorem H7(h:Rel E.U B g s a w)(ty:Ax)(x:Ba):LRep E.U w g (opl E s ty x) (a.eval x):=by
 have he:=A3J h ty x;unfold opl;cases hd:opd E s ty x with
 |one l=>rw[hd]at he;exact he
 |tup ls=>exact LRep.any _
 |st ls=>exact LRep.any _
 |iter c p=>exact LRep.any _
 |bx d ls=>exact LRep.any _
theorem B3C(s:St Ty den)(ty:Ax)(x:Ba):(opd E s ty x).isIter=false:=by
 cases x with
 |tmp t=>
  simp only[opd];cases hg:s.get t<;>rfl
 |const v=>
  simp only[opd];split
  ·split<;>rfl
  ·rfl
 |_=>rfl
theorem U5{ty:Ax}{x:Ba}{k:Cd}{n:Int}(h:Rel E.U B g s a w)(he:opl E s ty x=.int k n):a.eval x=.int k n:=by
 have:=H7 h ty x;rw[he]at this;exact this.1.int_inv
theorem A7b{ty:Ax}{x:Ba}{b:Bool}(h:Rel E.U B g s a w)(he:opl E s ty x=.bool b):a.eval x=.bool b:=by
 have:=H7 h ty x;rw[he]at this;exact this.1.bool_inv
theorem A50{ty:Ax}{x:Ba}{c:Ab}(h:Rel E.U B g s a w)(he:opl E s ty x=.str c):a.eval x=.string ⟨c.toArray⟩:=by
 have:=H7 h ty x;rw[he]at this;exact this.1.str_inv
theorem REL.setO(h:Rel E.U B g s a w){e:Ent Ty den}{v:Value}(he:ERep E.U w g e v)(hi:e.isIter=false)(d:Ak)(hd:∀i,d=some i->i<a.tmps.size/\B.np<=i):REL E.U B (s.setO d e) (a.put d v) w:=by
 cases d with
 |none=>exact⟨g,h⟩
 |some i=>exact⟨g,h.set he hi i (hd i rfl)⟩
def H4(E:Env Ty den)(B:Bs){R:Type}(o:Oper)(a:Act)(k:Ent Ty den->St Ty den->Option R)(r:R)(next:Act->World->Prop):Prop:=
 ∀e s' v w',k e s'=some r->REL E.U B (s'.setO o.dst e) (a.put o.dst v) w'->next (a.put o.dst v) w'
variable {P:Bg}{R:Type}{o:Oper}{k:Ent Ty den->St Ty den->Option R}{r:R}{next:Act->World->Prop}{Q:Exit->Act->World->Prop}
theorem N4{v:Value}{w':World}(af:(Az a.eval o).run P w=.ok (.value v) w')(hn:next (a.put o.dst v) w'):o.wp P a w next Q:=by
 unfold Er;rw[af];exact hn
theorem G7(h:Rel E.U B g s a w)(hd:∀i,o.dst=some i->i<a.tmps.size/\B.np<=i)(hn:H4 E B o a k r next){e:Ent Ty den}{v:Value}(hk:k e s=some r)
  (he:ERep E.U w g e v)(hi:e.isIter=false)(af:(Az a.eval o).run P w=.ok (.value v) w):o.wp P a w next Q:=
 N4 af (hn e s v w hk (REL.setO h he hi _ hd))
end
section
variable {E:Env Ty den}{B:Bs}{g:Gh}{s:St Ty den}{a:Act}{w:World}
variable {P:Bg}{R:Type}{o:Oper}{k:Ent Ty den->St Ty den->Option R}{r:R}{next:Act->World->Prop}{Q:Exit->Act->World->Prop}
variable (hT:∀t,P8 P E.U t (E.tb t))(hU:E.U.Ok)
theorem D1u{x:Ba}(ag:o.op=.move x)(h:A8 E o s k=some r)(hr:Rel E.U B g s a w)(hd:∀i,o.dst=some i->i<a.tmps.size/\B.np<=i)(hn:H4 E B o a k r next):o.wp P a w next Q:=by
 simp only[A8,ag]at h;exact G7 hr hd hn h (A3J hr _ _) (B3C _ _ _) (by simp[Az,ag])
theorem D80{c x y:Ba}(ag:o.op=.pick c x y)(h:A8 E o s k=some r)(hr:Rel E.U B g s a w)(hd:∀i,o.dst=some i->i<a.tmps.size/\B.np<=i)(hn:H4 E B o a k r next):o.wp P a w next Q:=by
 simp only[A8,ag]at h;split at h
 ·rename_i hc;exact G7 (v:=a.eval x) hr hd hn h (show ERep _ _ _ (.one _) _ from H7 hr _ _) rfl (by simp[Az,ag,A7b hr hc,asBool])
 ·rename_i hc;exact G7 (v:=a.eval y) hr hd hn h (show ERep _ _ _ (.one _) _ from H7 hr _ _) rfl (by simp[Az,ag,A7b hr hc,asBool])
 ·cases h
theorem LsRep.get{U:UO Ty den}{w:World}{g:Gh}:∀{ls:List (Leaf Ty den)}{vs:Ai},LsRep U w g ls vs->∀{i:Nat}{l:Leaf Ty den},ls[i]?=some l->∃v,vs[i]?=some v/\LRep U w g l v
 |_::_,_::_,h,0,l,hl=>by simp at hl;subst hl;exact⟨_,rfl,h.1⟩
 |_::_,_::_,h,i+1,l,hl=>by simpa using LsRep.get h.2 (i:=i) (by simpa using hl)
 |[],_,_,i,l,hl=>by simp at hl
theorem D0y{x:Ba}{i:Nat}(ag:o.op=.extract x i)(h:A8 E o s k=some r)(hr:Rel E.U B g s a w)(hd:∀i,o.dst=some i->i<a.tmps.size/\B.np<=i)(hn:H4 E B o a k r next):o.wp P a w next Q:=by
 simp only[A8,ag]at h;split at h
 ·rename_i ls hx;split at h
  ·rename_i l hl;have he:=A3J hr 0 x;rw[hx]at he;obtain⟨vs,hv,mN⟩:=he;obtain⟨v,e8,ak⟩:=mN.get hl;exact G7 hr hd hn h ak rfl (by simp[Az,ag,hv,Instr.extract,e8])
  ·cases h
 ·cases h
theorem D4c(P:Bg)(w:World)(t:Ax)(a b:Int)(k':Cd)(h0:0<=b)(h1:b<=31):(binOp .shr t (.int .i32 a) (.int k' b)).run P w=.ok (.int .i32 (a / 2^b.toNat)) w:=by
 rw[binOp_shr,shift_shr_i32 _ _ _ h0 (by omega)];rfl
theorem C76(P:Bg)(w:World)(t:Ax)(a b:Int)(k':Cd)(h0:0<=b)(h1:b<=31):(binOp .shl t (.int .i32 a) (.int k' b)).run P w=.ok (.int .i32 (IntKind.i32.wrap (a*2^b.toNat))) w:=by
 rw[binOp_shl,shift_shl_i32 _ _ _ h0 (by omega)];rfl
theorem B8{α:Type}{c:Bool}{x:Option α}{y:α}(h:(bif c then x else none)=some y):c=true/\x=some y:=by
 cases c with
 |true=>exact⟨rfl,h⟩
 |false=>cases h
theorem D2s(op:BinOp)(k0:Cd)(x y:Int)(l:Leaf Ty den)(t:Ax)(h:B5W op k0 x y=some l):
  ∃v,(binOp op t (.int k0 x) (.int k0 y)).run P w=.ok v w/\LRep E.U w g l v:=by
 cases op<;>simp only[B5W,Be,reduceCtorEq]at h<;>subst h<;>
  first
  |(refine⟨_,?_,LRep.int _ _⟩;simp[binOp,Op.intArith];done)
  |(refine⟨_,?_,LRep.bool _⟩;simp[binOp,Op.intCmp];done)
  |(refine⟨_,?_,LRep.int _ _⟩;first|(rw[binOp_and,intBits_and];rfl)|(rw[binOp_or,intBits_or];rfl))
include hT in
theorem C9p{op:BinOp}{t yt:Ax}{x y:Ba}(ag:o.op=.binOp op t x y yt)(h:A8 E o s k=some r)(hr:Rel E.U B g s a w)(hd:∀i,o.dst=some i->i<a.tmps.size/\B.np<=i)(hn:H4 E B o a k r next):o.wp P a w next Q:=by
 simp only[A8,ag]at h;split at h
 ·rename_i k0 x' k1 y' hx hy;have ex:=U5 hr hx;have ey:=U5 hr hy;have cj:∀(l:Leaf Ty den)(v:Value),k (.one l) s=some r->(binOp op t (.int k0 x') (.int k1 y')).run P w=.ok v w->LRep E.U w g l v->o.wp P a w next Q:=λl v hk af hl=>
   G7 hr hd hn hk (show ERep _ _ _ (.one l) _ from hl) rfl (by simp[Az,ag,ex,ey,eqGuard_at_int,af])
  split at h
  ·obtain⟨hc,h'⟩:=B8 h;clear h;simp only[Bm,decide_eq_true_eq]at hc;obtain⟨⟨h0,h1⟩,rfl⟩:=hc;exact cj _ _ h' (D4c P w t x' y' k1 h0 h1) (LRep.int _ _)
  ·obtain⟨hc,h'⟩:=B8 h;clear h;simp only[Bm,decide_eq_true_eq]at hc;obtain⟨⟨h0,h1⟩,rfl⟩:=hc;exact cj _ _ h' (C76 P w t x' y' k1 h0 h1) (LRep.int _ _)
  ·obtain⟨hc,h'⟩:=B8 h;clear h;simp only[Bm,decide_eq_true_eq,He,decide_eq_false_iff_not]at hc;obtain⟨rfl,h0⟩:=hc;exact cj _ _ h' (by simp[binOp,Op.intDiv,h0]) (LRep.int _ _)
  ·obtain⟨hc,h'⟩:=B8 h;clear h;simp only[Bm,decide_eq_true_eq,He,decide_eq_false_iff_not]at hc;obtain⟨rfl,h0⟩:=hc;exact cj _ _ h' (by simp[binOp,Op.intDiv,h0]) (LRep.int _ _)
  ·obtain⟨hc,h'⟩:=B8 h;clear h;simp only[decide_eq_true_eq]at hc;subst hc;split at h'
   ·rename_i l hl;obtain⟨v,hv,ak⟩:=D2s (P:=P) (w:=w) (g:=g) (E:=E) op k0 x' y' l t hl;exact cj l v h' hv ak
   ·cases h'
 ·rename_i x' y' hx hy;have ex:=A50 hr hx;have ey:=A50 hr hy;have cj:∀(l:Leaf Ty den)(v:Value),k (.one l) s=some r->(binOp op t (.string ⟨x'.toArray⟩) (.string ⟨y'.toArray⟩)).run P w=.ok v w->LRep E.U w g l v->o.wp P a w next Q:=λl v hk af hl=>
   G7 hr hd hn hk (show ERep _ _ _ (.one l) _ from hl) rfl (by simp[Az,ag,ex,ey,eqGuard_at_string,af])
  split at h
  ·obtain⟨hc,h'⟩:=B8 h;clear h;simp only[decide_eq_true_eq]at hc;refine cj _ (.string ⟨(x'++y').toArray⟩) h' ?_ (LRep.str _);have e1:(⟨x'.toArray⟩:ByteArray)++⟨y'.toArray⟩=⟨(x'++y').toArray⟩:=by
    apply ByteArray.ext;simp
   have e2:(Cz x'.toArray).size=x'.length:=by simp[Fh]
   have e3:(Cz y'.toArray).size=y'.length:=by simp[Fh]
   have aZ:¬(9223372036854775807<(x'.length:Int)+(y'.length:Int)):=by omega
   simp[binOp,Es,e1,e2,e3,aZ]
  ·exact cj _ _ h (by simp[binOp,Es]) (LRep.bool _)
  ·exact cj _ _ h (by simp[binOp,Es]) (LRep.bool _)
  ·cases h
 ·rename_i x' y' hx hy;have ex:=A7b hr hx;have ey:=A7b hr hy;split at h
  ·rename_i ht;have eE:=hT t;rw[ht]at eE;split at h
   ·exact G7 hr hd hn h (show ERep _ _ _ (.one _) _ from LRep.bool _) rfl (by simp[Az,ag,ex,ey,Fq,run_eql_bool w t x' y' eE])
   ·exact G7 hr hd hn h (show ERep _ _ _ (.one _) _ from LRep.bool _) rfl (by simp[Az,ag,ex,ey,Fq,run_neq_bool w t x' y' eE])
   ·cases h
  ·cases h
 ·cases h
theorem D8c{op:UnOp}{t:Ax}{x:Ba}(ag:o.op=.unOp op t x)(h:A8 E o s k=some r)(hr:Rel E.U B g s a w)(hd:∀i,o.dst=some i->i<a.tmps.size/\B.np<=i)(hn:H4 E B o a k r next):o.wp P a w next Q:=by
 simp only[A8,ag]at h;split at h
 ·rename_i b hx;exact G7 hr hd hn h (show ERep _ _ _ (.one _) _ from LRep.bool _) rfl (by simp[Az,ag,A7b hr hx,Op.unary])
 ·rename_i k0 n hx;exact G7 hr hd hn h (show ERep _ _ _ (.one _) _ from LRep.int _ _) rfl (by simp[Az,ag,U5 hr hx,Op.unary,Op.intArith])
 ·cases h
end
end Go.Aev
namespace Go.Aev
variable {Ty:Type}{den:Ty->Type}
section
variable {U:UO Ty den}
theorem A6g(t:Ty)(x:den t)(l:List (den t)):flat U t (x::l)=U.cells t x++flat U t l:=rfl
theorem C43(t:Ty)(l m:List (den t)):flat U t (l++m)=flat U t l++flat U t m:=by simp[flat]
theorem flat_get(hU:U.Ok)(t:Ty):∀(l:List (den t))(i:Nat)(x:den t)(j:Nat),l[i]?=some x->j<U.size t->(flat U t l)[i*U.size t+j]?=(U.cells t x)[j]?
 |[],i,x,j,h,_=>by simp at h
 |y::l,0,x,j,h,hj=>by
  simp at h;subst h;rw[A6g,Nat.zero_mul,Et,Cq (by rw[hU.len];exact hj)]
 |y::l,i+1,x,j,h,hj=>by
  have:=flat_get hU t l i x j (by simpa using h) hj;rw[A6g,Cx (by rw[hU.len,Cc];omega),hU.len];rw[<-this];congr 1;rw[Cc];omega
theorem B80(hU:U.Ok)(t:Ty):∀(l:List (den t))(i:Nat),flat U t (l.drop i)=(flat U t l).drop (i*U.size t)
 |l,0=>by simp
 |[],i+1=>by simp[flat]
 |x::l,i+1=>by
  have:=B80 hU t l i;rw[List.drop_succ_cons,this,A6g,Cc,Ev,Gg];rw[<-List.drop_drop]
  congr 1
  rw[<-hU.len t x];simp
theorem B8R(hU:U.Ok)(t:Ty):∀(l:List (den t))(i:Nat),flat U t (l.take i)=(flat U t l).take (i*U.size t)
 |l,0=>by simp[flat]
 |[],i+1=>by simp[flat]
 |x::l,i+1=>by
  have:=B8R hU t l i;rw[List.take_succ_cons,A6g,this,A6g,Cc,Ev,Gg];rw[List.take_append,hU.len]
  congr 1
  ·rw[List.take_of_length_le (by rw[hU.len];omega)]
  ·congr 1;omega
theorem I7{α:Type}{l:List α}{i:Nat}{x:α}(h:l[i]?=some x):i<l.length:=by
 rcases Bu i l.length with h'|h'
 ·exact h'
 ·rw[Do h']at h;cases h
variable {w:World}{g:Gh}{wm:Nat->Nat}
theorem CRep.sl_cells{t:Ty}{l:List (den t)}{o:Ak}{v:Value}(hU:U.Ok)(h:CRep U w wm (.sl t l o) v):
  (l=[]/\∃a cap,v=.slice a 0 cap)\/∃(b off cap:Nat)(cs:Nat->Value),v=.slice (some ⟨b,off,none⟩) l.length cap/\l.length<=cap/\off+l.length*U.size t<=wm b/\
   (∀j lf,(flat U t l)[j]?=some lf->w.cell? ⟨b,off+j,none⟩=some (cs j))/\(∀j lf,(flat U t l)[j]?=some lf->CRep U w wm lf (cs j)):=by
 cases h with
 |nil t o a cap=>exact .inl ⟨rfl,a,cap,rfl⟩
 |sl t l o b off cap cs aT aX hc hr=>exact .inr ⟨b,off,cap,cs,rfl,aT,aX,hc,hr⟩
def B5X(lf:Leaf Ty den):Prop:=lf≠ .any/\(∀v,lf≠ .val v)/\∀u y,lf≠ .agg u y
theorem CRep.one(hU:U.Ok){lf:Leaf Ty den}{v:Value}(h:CRep U w wm lf v)(hs:B5X lf):v.oneCell'=true/\v.cells= #[v]:=by
 induction h with
 |any v=>exact absurd rfl hs.1
 |val v=>exact absurd rfl (hs.2.1 v)
 |agg t x vs hl cs hc hr=>exact absurd rfl (hs.2.2 t x)
 |one1 t x lf v hl h ih=>exact ih (hU.solid t x lf (by rw[hl];simp))
 |ptr d off v h=>rcases h with⟨p,rfl⟩|⟨a,l,c,rfl⟩<;>exact⟨rfl,rfl⟩
 |_=>exact⟨rfl,rfl⟩
theorem B1R(hU:U.Ok){t:Ty}{l:List (den t)}{j:Nat}{lf:Leaf Ty den}(h:(flat U t l)[j]?=some lf):B5X lf:=by
 have hm:=Cw h;unfold flat at hm;obtain⟨x,_,hx⟩:=List.mem_flatMap.1 hm;exact hU.solid t x lf hx
end
section
variable {U:UO Ty den}{B:Bs}{g:Gh}{s:St Ty den}{a:Act}{w:World}
def C7(wm:Nat->Nat)(b n:Nat):Nat->Nat:=λk=>if k=b then n else wm k
theorem Rel.alloc(hU:U.Ok)(h:Rel U B g s a w)(o:Obj)(n:Nat)(w':World)(hw:w'.heap=w.heap.push o)(iW:w'.os=w.os)(cJ:w'.tape=w.tape)(dC:w'.output=w.output):
  Rel U B {g with wm:=C7 g.wm w.heap.size n} s a w':=by
 have dq:∀b,b<w.heap.size->w'.heap[b]?=w.heap[b]? :=λb hb=>by rw[hw,Cm,At (by omega)]
 refine h.world hU iW cJ dC (by rw[hw];simp) ⟨A0Y hw,λb off ho=>?_,λb=>?_⟩ (λ_=>False) (λb e=>e.elim) (λ_ _ _ _=>.inl λe=>e) (λb e=>e.elim) (λb hb _=>⟨dq b hb,?_⟩) (λb hb=>?_)
 ·rcases Bu b w.heap.size with h1|h1
  ·exact Bq (a:=⟨b,off,none⟩) (dq b h1)
  ·rw[h.zero b h1]at ho;omega
 ·unfold C7;by_cases hb:b=w.heap.size
  ·subst hb;rw[Au rfl,h.zero _ (Bf _)];exact Bj _
  ·rw[At hb];exact Bf _
 ·simp only[C7];rw[At (by omega)]
 ·rw[hw]at hb;simp at hb;simp only[C7];rw[At (by omega)];exact h.zero b (by omega)
theorem Rel.drew(hU:U.Ok)(h:Rel U B g s a w):Rel U B g s a w.drew:=
 h.world hU (w':=w.drew) (wm':=g.wm) rfl rfl rfl (Bf _) ⟨A6X rfl,λ_ _ _=>rfl,λ_=>Bf _⟩ (λ_=>False) (λb e=>e.elim) (λ_ _ _ _=>.inl λe=>e) (λb e=>e.elim) (λb _ _=>⟨rfl,rfl⟩) h.zero
theorem B9k(hU:U.Ok){t:Ty}{l:List (den t)}{w':World}{wm':Nat->Nat}{b:Nat}{c:Array Value}{e:Ax}{fz:Nat×Nat}(hb:w'.heap[b]?=some (.cells c e fz))(cap:Nat)(aT:l.length<=cap)
  (aX:l.length*U.size t<=wm' b)(hr:∀(j:Nat)(lf:Leaf Ty den),(flat U t l)[j]?=some lf->∃v:Value,c[j]?=some v/\CRep U w' wm' lf v)(o:Ak):CRep U w' wm' (.sl t l o) (.slice (some ⟨b,0,none⟩) l.length cap):=by
 refine .sl t l o b 0 cap (λj=>c.getD j undef) aT (by omega) (λj lf hj=>?_) (λj lf hj=>?_)
 ·obtain⟨v,hv,_⟩:=hr j lf hj;simp[Br,hb,hv,Ef]
 ·obtain⟨v,hv,ak⟩:=hr j lf hj;simpa [Ef,hv]using ak
end
section
variable {E:Env Ty den}{B:Bs}{g:Gh}{s:St Ty den}{a:Act}{w:World}
variable {P:Bg}{R:Type}{o:Oper}{k:Ent Ty den->St Ty den->Option R}{r:R}{next:Act->World->Prop}{Q:Exit->Act->World->Prop}
variable (hT:∀t,P8 P E.U t (E.tb t))(hU:E.U.Ok)
include hT in
theorem R9{t:Ax}{u:Ty}{e:Ax}(h:E.tb t=.slice u e):P.underlying t=some (.slice e)/\∃i z,P.info? e=some i/\i.size=E.U.size u/\i.bytes=E.U.bytes u/\i.zero=some z/\z.cells.size=E.U.size u:=by
 have:=hT t;rw[h]at this;exact this.1
include hT in
theorem A8d{t:Ax}{u:Ty}{e:Ax}(h:E.tb t=.slice u e):∀e',E.U.ety u=some e'->e'=e:=by
 have:=hT t;rw[h]at this;exact this.2
include hT in
theorem A2Z{t:Ax}(h:E.tb t=.str):P.underlying t=some .string:=by
 have:=hT t;rw[h]at this;exact this
include hT in
theorem A4z{t:Ax}{k:Cd}(h:E.tb t=.int k):P.underlying t=some (.int k):=by
 have:=hT t;rw[h]at this;exact this
theorem B2q{U:UO Ty den}{t u:Ty}{l:List (den u)}{l':List (den t)}(h:R2 U t u l=some l'):∃e:u=t,e ▸ l=l':=by
 unfold R2 at h;split at h
 ·rename_i e _;exact⟨e,by simpa using h⟩
 ·cases h
theorem A4A{U:UO Ty den}{t u:Ty}{l:List (den u)}{l':List (den t)}(h:R2 U t u l=some l'){w:World}{wm:Nat->Nat}{o:Ak}{v:Value}(hr:CRep U w wm (.sl u l o) v):CRep U w wm (.sl t l' o) v/\l.length=l'.length:=by
 obtain⟨e,he⟩:=B2q h;subst e;subst he;exact⟨hr,rfl⟩
theorem C3E{α:Type}{l:List α}{i:Int}{x:α}(h:idx l i=some x):0<=i/\l[i.toNat]?=some x:=by
 unfold idx at h;obtain⟨h1,h2⟩:=B8 h;exact⟨by simpa using h1,h2⟩
theorem B4g{α:Type}{l r:List α}{lo hi:Int}(h:sub l lo hi=some r):0<=lo/\lo<=hi/\hi<=(l.length:Int)/\r=(l.drop lo.toNat).take (hi.toNat - lo.toNat):=by
 unfold sub at h;obtain⟨h1,h2⟩:=B8 h;simp only[Bm,decide_eq_true_eq]at h1;exact⟨h1.1,h1.2.1,h1.2.2,by simpa using h2.symm⟩
include hT hU in
theorem C8C{t:Ax}{x i:Ba}(ag:o.op=.indexAddr t x i)(h:A8 E o s k=some r)(hr:Rel E.U B g s a w)(hd:∀i,o.dst=some i->i<a.tmps.size/\B.np<=i)(hn:H4 E B o a k r next):o.wp P a w next Q:=by
 simp only[A8,ag]at h;split at h
 ·rename_i u e u0 l0 own k0 n ht hx hi;split at h
  ·rename_i l cy;split at h
   ·rename_i y hy;obtain⟨h0,gH⟩:=C3E hy;obtain⟨cD,ie,z,bJ,ao,_,_,_⟩:=R9 hT ht;have ei:=U5 hr hi;have bK:=H7 hr t x;rw[hx]at bK;have ak:=(A4A cy bK.1).1;have ap:=I7 gH;rcases ak.sl_cells hU with⟨rfl,_⟩|⟨b,off,cap,cs,hv,aT,aX,hc,eF⟩
    ·simp at gH
    ·have cE:0<=n/\n<(l.length:Int):=⟨h0,by omega⟩;have dO:(n.toNat+1)*E.U.size u<=l.length*E.U.size u:=Dx _ (by omega);rw[Cc,Ev]at dO;refine G7 (e:=.one (.elem u y 0)) (v:=.pointer (some ⟨b,(off+n.toNat*E.U.size u)+0,none⟩)) hr hd hn h ?_ rfl ?_
     ·refine⟨.elem u y 0 b (off+n.toNat*E.U.size u) (λj=>cs (n.toNat*E.U.size u+j)) (by omega) (λj lf hj=>?_) (λj lf hj=>?_),λ_ _ _ e=>by(cases e),λ_ _ e=>by(cases e)⟩
      ·have bA:=I7 hj;rw[hU.len]at bA;have:=hc (n.toNat*E.U.size u+j) lf (by rw[flat_get hU u l n.toNat y j gH bA];exact hj);rw[Dy];exact this
      ·have bA:=I7 hj;rw[hU.len]at bA;exact eF (n.toNat*E.U.size u+j) lf (by rw[flat_get hU u l n.toNat y j gH bA];exact hj)
     ·have cB:(Eh b off none).add (n.toNat*E.U.size u)=⟨b,off+n.toNat*E.U.size u,none⟩:=Ci _ _ _;simp[Az,ag,hv,ei,Instr.indexAt,asIntOf,Bb cD,cE.1,cE.2,Ce,Bp,bJ,ao,cB]
   ·cases h
  ·cases h
 ·cases h
theorem A3G(b:Ab):(Cz b.toArray).size=b.length:=by simp[Fh]
include hT in
theorem C9o{t:Ax}{x i:Ba}(ag:o.op=.index t x i)(h:A8 E o s k=some r)(hr:Rel E.U B g s a w)(hd:∀i,o.dst=some i->i<a.tmps.size/\B.np<=i)(hn:H4 E B o a k r next):o.wp P a w next Q:=by
 simp only[A8,ag]at h;split at h
 ·rename_i b k0 n ht hx hi;split at h
  ·rename_i y hy;obtain⟨h0,gH⟩:=C3E hy;have cD:=A2Z hT ht;have ei:=U5 hr hi;have ex:=A50 hr hx;have ap:=I7 gH;have hg:(Cz b.toArray)[n.toNat]?=some y:=by
    rw[ByteArray.getElem?_lt' _ _ (by rw[A3G];exact ap)]
    congr 1
    rw[Bh ap]at gH;have:=Ca gH;rw[<-this];rfl
   exact G7 (e:=.one (.int .u8 (y.toNat:Int))) (v:=.int .u8 (y.toNat:Int)) hr hd hn h (LRep.int _ _) rfl (by simp[Az,ag,ex,ei,Instr.index,asIntOf,Bb cD,h0,hg])
  ·cases h
 ·cases h
theorem C7Z{t:Ax}{k:TK Ty}(h:P8 P E.U t k)(hk:∀(_:k=.other),False)(dy:∀u pl (_:k=.struct u pl),False)(w:World):(isAgg t).run P w=.ok false w:=by
 cases k with
 |int k=>simp[isAgg,Bb (show P.underlying t=some (.int k)from h)]
 |str=>simp[isAgg,Bb (show P.underlying t=some .string from h)]
 |bool=>simp[isAgg,Bb (show P.underlying t=some .bool from h)]
 |slice u e=>simp[isAgg,Bb h.1.1]
 |struct u pl=>exact(dy u pl rfl).elim
 |iface u=>obtain⟨⟨m,h⟩,_⟩:=h;simp[isAgg,Bb h]
 |other=>exact(hk rfl).elim
theorem B5p{t:Ax}{fs:Array Field}(h:P.underlying t=some (.struct fs))(w:World):(isAgg t).run P w=.ok true w:=by simp[isAgg,Bb h]
theorem B8F{α β:Type}{f:α->Option β}:∀{l:List α}{r:List β},l.mapM f=some r->r.length=l.length
 |[],r,h=>by simp at h;subst h;rfl
 |x::l,r,h=>by
  simp only[Dz,Gb,Ga,Fy,Be]at h;obtain⟨b,_,r',bD,rfl⟩:=h;simp[B8F bD]
theorem C09{α β:Type}{f:α->Option β}:∀{l:List α}{r:List β},l.mapM f=some r->∀(i:Nat)(x:α),l[i]?=some x->∃y,r[i]?=some y/\f x=some y
 |[],r,h,i,x,hx=>by simp at hx
 |a::l,r,h,i,x,hx=>by
  simp only[Dz,Gb,Ga,Fy,Be]at h;obtain⟨b,hb,r',bD,rfl⟩:=h;cases i with
  |zero=>simp at hx;subst hx;exact⟨b,by simp,hb⟩
  |succ i=>obtain⟨y,h1,h2⟩:=C09 bD i x (by simpa using hx);exact⟨y,by simpa using h1,h2⟩
include hT in
theorem A2S{t:Ax}{u:Ty}{pl:List (Nat×Nat)}(h:E.tb t=.struct u pl):∃fs i z,P.underlying t=some (.struct fs)/\fs.toList.mapM (λf=>(P.info? f.type).map λi=>(f.offset,i.size))=some pl/\
  P.info? t=some i/\i.size=E.U.size u/\i.zero=some z/\z.cells.size=E.U.size u:=by
 have:=hT t;rw[h]at this;exact this
theorem A9b{U:UO Ty den}{w:World}{wm:Nat->Nat}{t:Ty}{x:den t}{v:Value}(h:CRep U w wm (.agg t x) v):
  ∃vs:Ai,v=.agg vs.toArray/\vs.length=U.size t/\∃cs:Nat->Value,(∀j lf,(U.cells t x)[j]?=some lf->vs[j]?=some (cs j))/\∀j lf,(U.cells t x)[j]?=some lf->CRep U w wm lf (cs j):=by
 cases h with
 |agg t x vs hl cs hc hr=>exact⟨vs,rfl,hl,cs,hc,hr⟩
theorem B1w{U:UO Ty den}{t u:Ty}{y:den u}{y':den t}(h:R2 U t u [y]=some [y']):∃e:u=t,e ▸ y=y':=by
 unfold R2 at h;split at h
 ·rename_i e _;subst e;simp only[Be,Gu]at h;exact⟨rfl,h.1⟩
 ·cases h
theorem C4i{U:UO Ty den}{u u':Ty}{c:Bool}{y:den u'}{y':den u}{r:List (den u)}(h:(bif c then R2 U u u' [y]else none)=some [y']):c=true/\∃e:u'=u,e ▸ y=y':=by
 cases c with
 |true=>exact⟨rfl,B1w h⟩
 |false=>cases h
theorem A2I(hr:Rel E.U B g s a w){d:Nat}{ls:List (Leaf Ty den)}(h:O6 s d=some ls):BoxOk E.U w g d ls/\mem d s.live=true/\s.get (bxi d)=.bx d ls:=by
 unfold O6 at h;split at h
 ·rename_i e bL he;obtain⟨h1,h2⟩:=B8 h;have:=(F6 _ _).1 h1;subst this;cases h2;have h3:=hr.ent (bxi e);rw[he]at h3;exact⟨h3,(hr.bxl _ _ _ he).1,he⟩
 ·cases h
theorem A64{d off:Nat}{ls:List (Leaf Ty den)}{v:Value}(ho:Ay off 1000000=true)(hx:LRep E.U w g (.ptr d off) v)(hb:BoxOk E.U w g d ls):∃b n,g.G d=.slice (some ⟨b,0,none⟩) 0 n/\v=.pointer (some ⟨b,off,none⟩)/\(0<ls.length/\ls.length<=n/\(Ay d 1000000=true->n=ls.length))/\g.Gs d=1/\∀(j:Nat) lf,ls[j]?=some lf->∃u,w.cell? ⟨b,j,none⟩=some u/\u.oneCell'=true/\u.cells= #[u]/\LRep E.U w g lf u:=by
 obtain⟨b,n,h1,h2⟩:=hx.2.2 d off rfl;obtain⟨b',n',h3,h4,h5,h6⟩:=hb;rw[h1]at h3;cases h3;exact⟨b,n,h1,h2.at ho,h4,h5,h6⟩
theorem A9C:∀(ls:List (Leaf Ty den))(j:Nat),(F8 ls)[j]?=(ls[j]?).map Leaf.close
 |[],j=>by simp[F8]
 |l::r,0=>by simp[F8]
 |l::r,j+1=>by simp only[F8,Gq];exact A9C r j
include hT hU in
theorem D8w{t:Ax}{x:Ba}(ag:o.op=.load t x)(h:A8 E o s k=some r)(hr:Rel E.U B g s a w)(hd:∀i,o.dst=some i->i<a.tmps.size/\B.np<=i)(hn:H4 E B o a k r next):o.wp P a w next Q:=by
 simp only[A8,ag]at h;split at h
 ·cases h
 ·rename_i u ht;obtain⟨⟨mm,h1⟩,dX⟩:(∃m,P.underlying t=some (.interface m))/\E.U.size u=1:=by have:=hT t;rw[ht]at this;exact this
  have fT:(isAgg t).run P w=.ok false w:=by simp[isAgg,Bb h1]
  split at h
  ·rename_i u' y off hx;split at h
   ·rename_i y' hy;obtain⟨h0,e0,he⟩:=C4i (r:=[]) hy;have h0:=(F6 _ _).1 h0;subst h0;subst e0;simp only at he;subst he;have bK:=H7 hr 0 x;rw[hx]at bK;obtain⟨hc,_⟩:=bK;generalize hv:a.eval x=v at hc;cases hc with
    |elem _ _ _ b o' cs aX aJ ak=>
     have aj:=hU.len u' y;rw[dX]at aj;obtain⟨lf,dc⟩:∃lf,E.U.cells u' y=[lf]:=by
      match ct:E.U.cells u' y,aj with
      |[lf],_=>exact⟨lf,rfl⟩
     have hj:(E.U.cells u' y)[0]?=some lf:=by rw[dc];rfl
     refine G7 (e:=.one (.one1 u' y)) (v:=cs 0) hr hd hn h ⟨.one1 u' y lf _ dc (ak 0 lf hj),λ_ _ _ he=>by(cases he),λ_ _ he=>by(cases he)⟩ rfl ?_;have:=aJ 0 lf hj;rw[Ez]at this;simp[Az,ag,hv,Dp,Cy,Cf,fT,this]
   ·cases h
  ·cases h
 ·rename_i u pl ht;obtain⟨fs,ie,z,h1,_,h3,h4,_⟩:=A2S hT ht;have fT:=B5p (P:=P) h1 w;split at h
  ·rename_i u' y off hx;have bK:=H7 hr 0 x;rw[hx]at bK;obtain⟨hc,_⟩:=bK;generalize hv:a.eval x=v at hc;cases hc with
   |elem _ _ _ b o' cs aX aJ ak=>
    have aj:=hU.len u' y;have cj:∀(z:den u),E.U.cells u z=((E.U.cells u' y).drop off).take (E.U.size u)->k (.one (.agg u z)) s=some r->o.wp P a w next Q:=λz hz hk=>by
     have wK:=hU.len u z;have aL:∀j lf,(E.U.cells u z)[j]?=some lf->(E.U.cells u' y)[off+j]?=some lf/\j<E.U.size u:=λj lf hj=>by
      have bA:=I7 hj;rw[hz,De,Dg]at hj;split at hj
      ·exact⟨hj,by omega⟩
      ·cases hj
     have cK:(Co ⟨b,o'+off,none⟩ (E.U.size u)).run P w=.ok ((Ch (E.U.size u)).map λj=>cs (off+j)).toArray w:=
      Ek w _ _ _ λj hj=>by
       obtain⟨h5,_⟩:=aL j _ (Bh (by omega));have:=aJ (off+j) _ h5;rw[Ci,Dy];exact this
     refine G7 (e:=.one (.agg u z)) (v:=.agg ((Ch (E.U.size u)).map λj=>cs (off+j)).toArray) hr hd hn hk ⟨.agg u z _ (by simp) (λj=>cs (off+j)) (λj lf hj=>?_) (λj lf hj=>ak (off+j) lf (aL j lf hj).1),λ_ _ _ he=>by(cases he),λ_ _ he=>by(cases he)⟩ rfl ?_
     ·rw[Bn,Df (aL j lf hj).2];rfl
     ·simp[Az,ag,hv,Dp,Cy,Cf,fT,Ce,Bp,h3,h4,cK]
    split at h
    ·rename_i y' hy;obtain⟨h0,e0,he⟩:=C4i (r:=[]) hy;have h0:=(F6 _ _).1 h0;subst h0;subst e0;simp only at he;subst he;refine cj y ?_ h;rw[List.drop_zero, <-aj,List.take_length]
    ·split at h
     ·rename_i z hz;exact cj z (hU.dec _ _ _ hz) h
     ·cases h
  ·rename_i d off hx;split at h
   ·rename_i ls bc;obtain⟨bM,h⟩:=B8 h;split at h
    ·rename_i z hz;have bK:=H7 hr 0 x;rw[hx]at bK;obtain⟨bU,_,_⟩:=A2I hr bc;obtain⟨b,nb,hG,hv,bV,cW,aN⟩:=A64 bM bK bU;have rf:=hU.dec _ _ _ hz;have wK:=hU.len u z;have aL:∀j lf,(E.U.cells u z)[j]?=some lf->∃l0,ls[off+j]?=some l0/\lf=l0.close/\j<E.U.size u:=λj lf hj=>by
      have bA:=I7 hj;rw[rf,A9C,De,Dg]at hj;split at hj
      ·obtain⟨l0,h5,rfl⟩:=Cj.1 hj;exact⟨l0,h5,rfl,by omega⟩
      ·cases hj
     have ct:∀j,j<E.U.size u->∃uu,w.cell? ⟨b,off+j,none⟩=some uu/\∀lf,(E.U.cells u z)[j]?=some lf->CRep E.U w g.wm lf uu:=λj hj=>by
      obtain⟨l0,h5,h6,_⟩:=aL j _ (Bh (by omega));obtain⟨uu,u1,_,_,u4⟩:=aN _ _ h5;refine⟨uu,u1,λlf dc=>?_⟩;rw[Bh (by omega)]at dc;cases dc;rw[h6];exact u4.1.close
     have rZ:∃cs:Nat->Value,∀j,j<E.U.size u->w.cell? ⟨b,off+j,none⟩=some (cs j)/\∀lf,(E.U.cells u z)[j]?=some lf->CRep E.U w g.wm lf (cs j):=
      ⟨λj=>(w.cell? ⟨b,off+j,none⟩).getD undef,λj hj=>by
       obtain⟨uu,u1,u2⟩:=ct j hj;refine⟨?_,λlf dc=>?_⟩
       ·show _=some ((w.cell? ⟨b,off+j,none⟩).getD undef);rw[u1];rfl
       ·show CRep E.U w g.wm lf ((w.cell? ⟨b,off+j,none⟩).getD undef);rw[u1];exact u2 lf dc⟩
     obtain⟨cs,ct⟩:=rZ;have cK:(Co ⟨b,off,none⟩ (E.U.size u)).run P w=.ok ((Ch (E.U.size u)).map cs).toArray w:=
      Ek w _ _ cs λj hj=>by rw[Ci];exact(ct j hj).1
     refine G7 (e:=.one (.agg u z)) (v:=.agg ((Ch (E.U.size u)).map cs).toArray) hr hd hn h ⟨.agg u z _ (by simp) cs (λj lf hj=>?_) (λj lf hj=>?_),λ_ _ _ he=>by(cases he),λ_ _ he=>by(cases he)⟩ rfl ?_
     ·obtain⟨_,_,_,h7⟩:=aL j lf hj;rw[Bn,Df h7];rfl
     ·obtain⟨_,_,_,h7⟩:=aL j lf hj;exact(ct j h7).2 lf hj
     ·simp[Az,ag,hv,Dp,Cy,Cf,fT,Ce,Bp,h3,h4,cK]
    ·cases h
   ·cases h
  ·cases h
 ·rename_i hk _ dy;have fT:=C7Z (E:=E) (hT t) hk dy w;split at h
  ·rename_i u y off hx;split at h
   ·rename_i lf dc;have bK:=H7 hr 0 x;rw[hx]at bK;obtain⟨hc,_⟩:=bK;generalize hv:a.eval x=v at hc;cases hc with
    |elem _ _ _ b o' cs aX aJ ak=>
     refine G7 (e:=.one lf.close) (v:=cs off) hr hd hn h (LRep.closed (ak off lf dc)) rfl ?_;simp[Az,ag,hv,Dp,Cy,Cf,fT,aJ off lf dc]
   ·cases h
  ·rename_i d off hx;split at h
   ·rename_i ls bc;obtain⟨bM,h⟩:=B8 h;split at h
    ·rename_i l hl;have bK:=H7 hr 0 x;rw[hx]at bK;obtain⟨bU,_,_⟩:=A2I hr bc;obtain⟨b,nb,hG,hv,bV,cW,aN⟩:=A64 bM bK bU;obtain⟨uu,u1,_,_,u4⟩:=aN off l hl;refine G7 (e:=.one l) (v:=uu) hr hd hn h u4 rfl ?_;simp[Az,ag,hv,Dp,Cy,Cf,fT,u1]
    ·cases h
   ·cases h
  ·cases h
end
end Go.Aev
namespace Go.Aev
variable {Ty:Type}{den:Ty->Type}
section
variable {E:Env Ty den}{B:Bs}{g:Gh}{s:St Ty den}{a:Act}{w:World}
variable {P:Bg}{R:Type}{o:Oper}{k:Ent Ty den->St Ty den->Option R}{r:R}{next:Act->World->Prop}{Q:Exit->Act->World->Prop}
variable (hT:∀t,P8 P E.U t (E.tb t))(hU:E.U.Ok)
theorem REL.newOwn(hU:E.U.Ok)(hr:Rel E.U B g s a w)(hd:∀i,o.dst=some i->i<a.tmps.size/\B.np<=i)(d:Nat){t:Ty}{l:List (den t)}{c:Array Value}{e:Ax}{fz:Nat×Nat}{cap:Nat}(hety:∀e',E.U.ety t=some e'->e'=e)(w':World)
  (hw:w'.heap=w.heap.push (.cells c e fz))(iW:w'.os=w.os)(cJ:w'.tape=w.tape)(dC:w'.output=w.output)(aT:l.length<=cap)(ao:cap*E.U.size t<=c.size)
  (lX:fz.2=0)
  (hc:∀(j:Nat)(lf:Leaf Ty den),(flat E.U t l)[j]?=some lf->∃v:Value,c[j]?=some v/\CRep E.U w g.wm lf v):
  REL E.U B ((s.fresh d).setO o.dst (.one (.sl t l (some d)))) (a.put o.dst (.slice (some ⟨w.heap.size,0,none⟩) l.length cap)) w':=by
 have h1:=hr.alloc hU (.cells c e fz) (l.length*E.U.size t) w' hw iW cJ dC;have bE:w'.heap[w.heap.size]?=some (.cells c e fz):=by rw[hw];simp
 have dq:∀b,b<w.heap.size->w'.heap[b]?=w.heap[b]? :=λb hb=>by rw[hw,Cm,At (by omega)]
 have hx:Ext w g.wm w' (C7 g.wm w.heap.size (l.length*E.U.size t)):=by
  refine⟨A0Y hw,λb off ho=>?_,λb=>?_⟩
  ·rcases Bu b w.heap.size with h2|h2
   ·exact Bq (a:=⟨b,off,none⟩) (dq b h2)
   ·rw[hr.zero b h2]at ho;omega
  ·unfold C7;by_cases hb:b=w.heap.size
   ·subst hb;rw[Au rfl,hr.zero _ (Bf _)];exact Bj _
   ·rw[At hb];exact Bf _
 have eG:C7 g.wm w.heap.size (l.length*E.U.size t) w.heap.size=l.length*E.U.size t:=by simp[C7]
 have ak:CRep E.U w' (C7 g.wm w.heap.size (l.length*E.U.size t)) (.sl t l (some d)) (.slice (some ⟨w.heap.size,0,none⟩) l.length cap):=
  B9k hU bE cap aT (by rw[eG];exact Bf _) (λj lf hj=>by obtain⟨v,hv,e8⟩:=hc j lf hj;exact⟨v,hv,e8.mono hU hx⟩) _
 have h2:=h1.fresh hU d (.slice (some ⟨w.heap.size,0,none⟩) l.length cap) (E.U.size t)
  ⟨_,_,_,rfl,aT,.inr ⟨w.heap.size,0,c,e,fz,rfl,bE,by omega,by simp[C7],by rw[lX];exact Bj _⟩⟩
  (λe' b he av hs oR=>by
   have hb:b=w.heap.size:=by
    simp only[spare]at hs;split at hs
    ·cases hs
    ·exact(Ca hs).symm
   subst hb;obtain⟨a0,len,eZ,hv,_,cq⟩:=hr.tip e' he;have er:spare (g.G e')=some w.heap.size:=oR;rw[hv]at er;simp only[spare]at er;split at er
   ·rename_i a1 l1 c1 bN;cases bN;split at er
    ·cases er
    ·rename_i cX;rcases cq with h3|⟨b,off,c,e,fz,ha,hb,_⟩
     ·exact cX h3
     ·cases ha;simp at er;subst er;exact absurd (Bw.1 hb).1 (by omega)
   ·cases er)
  (λb hs=>by
   simp only[spare]at hs;split at hs
   ·cases hs
   ·left
    have:=Ca hs;rw[<-this];exact hr.size)
 refine REL.setO h2 (e:=.one (.sl t l (some d))) ⟨ak,λt' l' d' he=>?_,λ_ _ he=>by(cases he)⟩ rfl o.dst hd;simp only[Leaf.sl.injEq,Be]at he;obtain⟨rfl,_,rfl⟩:=he;exact⟨by simp[Gh.put],by simp[Gh.put],TyB.new hety bE⟩
theorem REL.newCl(hU:E.U.Ok)(hr:Rel E.U B g s a w)(hd:∀i,o.dst=some i->i<a.tmps.size/\B.np<=i){t:Ty}{l:List (den t)}{c:Array Value}{e:Ax}{fz:Nat×Nat}{cap:Nat}(w':World)
  (hw:w'.heap=w.heap.push (.cells c e fz))(iW:w'.os=w.os)(cJ:w'.tape=w.tape)(dC:w'.output=w.output)(aT:l.length<=cap)
  (hc:∀(j:Nat)(lf:Leaf Ty den),(flat E.U t l)[j]?=some lf->∃v:Value,c[j]?=some v/\CRep E.U w g.wm lf v):
  REL E.U B (s.setO o.dst (.one (.sl t l none))) (a.put o.dst (.slice (some ⟨w.heap.size,0,none⟩) l.length cap)) w':=by
 have h1:=hr.alloc hU (.cells c e fz) (l.length*E.U.size t) w' hw iW cJ dC;have bE:w'.heap[w.heap.size]?=some (.cells c e fz):=by rw[hw];simp
 have dq:∀b,b<w.heap.size->w'.heap[b]?=w.heap[b]? :=λb hb=>by rw[hw,Cm,At (by omega)]
 have hx:Ext w g.wm w' (C7 g.wm w.heap.size (l.length*E.U.size t)):=by
  refine⟨A0Y hw,λb off ho=>?_,λb=>?_⟩
  ·rcases Bu b w.heap.size with h2|h2
   ·exact Bq (a:=⟨b,off,none⟩) (dq b h2)
   ·rw[hr.zero b h2]at ho;omega
  ·unfold C7;by_cases hb:b=w.heap.size
   ·subst hb;rw[Au rfl,hr.zero _ (Bf _)];exact Bj _
   ·rw[At hb];exact Bf _
 have eG:C7 g.wm w.heap.size (l.length*E.U.size t) w.heap.size=l.length*E.U.size t:=by simp[C7]
 have ak:CRep E.U w' (C7 g.wm w.heap.size (l.length*E.U.size t)) (.sl t l none) (.slice (some ⟨w.heap.size,0,none⟩) l.length cap):=
  B9k hU bE cap aT (by rw[eG];exact Bf _) (λj lf hj=>by obtain⟨v,hv,e8⟩:=hc j lf hj;exact⟨v,hv,e8.mono hU hx⟩) _
 exact REL.setO h1 (e:=.one (.sl t l none)) ⟨ak,λ_ _ _ he=>by(cases he),λ_ _ he=>by(cases he)⟩ rfl o.dst hd
theorem A9l(hr:Rel E.U B g s a w){d n:Int}{x:Option Ba}(h:V6 E s d x=some n):(x=none/\n=d)\/∃y k0,x=some y/\a.eval y=.int k0 n:=by
 cases x with
 |none=>simp only[V6,Be]at h;exact .inl ⟨rfl,h.symm⟩
 |some y=>
  simp only[V6]at h;split at h
  ·rename_i k0 m hy;simp only[Be]at h;subst h;exact .inr ⟨y,k0,rfl,U5 hr hy⟩
  ·cases h
theorem B2i(P:Bg)(w:World)(sa:Bool)(len cap:Nat)(cX:len<=cap)(lo hi mx:Option Value)(l h m:Nat)(hl:(lo=none/\l=0)\/∃k,lo=some (.int k (l:Int)))(hh:(hi=none/\mx=none/\h=len)\/∃k,hi=some (.int k (h:Int)))
  (hm:(mx=none/\m=cap)\/∃k,mx=some (.int k (m:Int)))(h1:l<=h)(h2:h<=m)(h3:m<=cap):
  (Eb sa len cap lo hi mx).run P w=.ok (l,h,m) w:=by
 have a1:(l:Int)<=(h:Int):=by omega
 have a2:(h:Int)<=(m:Int):=by omega
 have a3:(m:Int)<=(cap:Int):=by omega
 have a0:(0:Int)<=(l:Int):=by omega
 have b0:(0:Int)<=(h:Int):=by omega
 have c0:(0:Int)<=(m:Int):=by omega
 rcases hm with⟨rfl,rfl⟩|⟨km,rfl⟩<;>rcases hh with⟨rfl,rh,rfl⟩|⟨kh,rfl⟩<;>rcases hl with⟨rfl,rfl⟩|⟨kl,rfl⟩<;>
  first
  |(cases rh;done)
  |(simp[Eb,Ej,a0,a1,a2,a3,b0,c0];done)
  |(simp[Eb,Ej,a0,a1,a2,a3,b0,c0];intros;omega)
  |(simp[Eb,Ej,a0,a1,a2,a3,b0,c0,h1,h2,h3,Ew.2 h1,Ew.2 h2,Ew.2 h3];done)
include hT hU in
theorem C9i{t:Ax}{x:Ba}{lo hi mx:Option Ba}(ag:o.op=.slice t x lo hi mx)(h:A8 E o s k=some r)(hr:Rel E.U B g s a w)(hd:∀i,o.dst=some i->i<a.tmps.size/\B.np<=i)(hn:H4 E B o a k r next):o.wp P a w next Q:=by
 simp only[A8,ag]at h;split at h
 ·rename_i b ht hx;have cD:=A2Z hT ht;have ex:=A50 hr hx;split at h
  ·rename_i va vc e9 jF;split at h
   ·rename_i rr bZ;obtain⟨h0,h1,h2,rfl⟩:=B4g bZ;have e1:((va.toNat:Nat):Int)=va:=by omega
    have e2:((vc.toNat:Nat):Int)=vc:=by omega
    have hb:=B2i P w false b.length b.length (Bf _) (lo.map a.eval) (hi.map a.eval) none va.toNat vc.toNat b.length
     (by
       rcases A9l hr e9 with⟨rfl,h3⟩|⟨y,k0,rfl,h3⟩
       ·left;exact⟨rfl,by omega⟩
       ·right;exact⟨k0,by rw[e1];simp[h3]⟩)
     (by
       rcases A9l hr jF with⟨rfl,h3⟩|⟨y,k0,rfl,h3⟩
       ·left;exact⟨rfl,rfl,by omega⟩
       ·right;exact⟨k0,by rw[e2];simp[h3]⟩)
     (.inl ⟨rfl,rfl⟩) (by omega) (by omega) (Bf _)
    refine G7 (e:=.one (.str _)) (v:=.string ⟨((b.drop va.toNat).take (vc.toNat - va.toNat)).toArray⟩) hr hd hn h (LRep.str _) rfl ?_;simp[Az,ag,ex,Gw,Gx,Bb cD,A3G,hb,Hb]
   ·cases h
  ·cases h
 ·rename_i u e u0 l0 own ht hx;split at h
  ·rename_i l cy;obtain⟨cD,ie,z,bJ,ao,_,_,_⟩:=R9 hT ht;have bK:=H7 hr t x;rw[hx]at bK;have ak:=(A4A cy bK.1).1;have cj:∀(va vc:Int)(mv:Option Value)(m:Nat->Nat),0<=va->va<=vc->vc<=(l.length:Int)->V6 E s 0 lo=some va->V6 E s (l.length:Int) hi=some vc->
     (∀cap,l.length<=cap->((mv=none/\m cap=cap)\/((∃k,mv=some (.int k ((m cap:Nat):Int)))/\hi≠none/\m cap=vc.toNat)))->mx.map a.eval=mv->
     k (.one (.sl u ((l.drop va.toNat).take (vc.toNat - va.toNat)) none)) s=some r->o.wp P a w next Q:=by
    intro va vc mv m h0 h1 h2 e9 jF hm mO hk;have e1:((va.toNat:Nat):Int)=va:=by omega
    have e2:((vc.toNat:Nat):Int)=vc:=by omega
    obtain⟨a0,wL,u7⟩:=ak.sl_inv;have aj:((l.drop va.toNat).take (vc.toNat - va.toNat)).length=vc.toNat - va.toNat:=by simp;omega
    have cL:∀(a0:Option Addr)(cap:Nat),a.eval x=.slice a0 l.length cap->l.length<=cap->
      (Az a.eval o).run P w=.ok (.value (.slice (if m cap=va.toNat then a0 else a0.map (·.add (va.toNat*E.U.size u))) (vc.toNat - va.toNat) (m cap - va.toNat))) w:=by
     intro a0 cap hv aT;have ri:=hm cap aT;have hb:=B2i P w true l.length cap aT (lo.map a.eval) (hi.map a.eval) mv va.toNat vc.toNat (m cap)
      (by
        rcases A9l hr e9 with⟨rfl,h3⟩|⟨y,k0,rfl,h3⟩
        ·left;exact⟨rfl,by omega⟩
        ·right;exact⟨k0,by rw[e1];simp[h3]⟩)
      (by
        rcases A9l hr jF with⟨rfl,h3⟩|⟨y,k0,rfl,h3⟩
        ·rcases ri with⟨h4,_⟩|⟨_,h4,_⟩
         ·left;exact⟨rfl,h4,by omega⟩
         ·exact absurd rfl h4
        ·right;exact⟨k0,by rw[e2];simp[h3]⟩)
      (by
        rcases ri with h4|⟨h4,_⟩
        ·exact .inl h4
        ·exact .inr h4)
      (by omega) (by rcases ri with⟨_,h4⟩|⟨_,_,h4⟩<;>omega) (by rcases ri with⟨_,h4⟩|⟨_,_,h4⟩<;>omega)
     simp[Az,ag,hv,Gw,Gx,Bb cD,mO,hb,Ce,Bp,bJ,ao]
    rcases ak.sl_cells hU with⟨rfl,a1,cap,hv⟩|⟨b,off,cap,cs,hv,aT,aX,hc,eF⟩
    ·have hz:vc.toNat - va.toNat=0:=by simp at h2;omega
     refine G7 (e:=.one (.sl u _ none)) hr hd hn hk ?_ rfl (cL a1 cap hv (Bj _));refine⟨?_,λ_ _ _ e=>by(simp at e),λ_ _ e=>by(cases e)⟩;rw[hz,Gi];exact .nil u none _ _
    ·refine G7 (e:=.one (.sl u _ none)) hr hd hn hk ?_ rfl (cL _ cap hv aT);refine⟨?_,λ_ _ _ e=>by(simp at e),λ_ _ e=>by(cases e)⟩;by_cases hz:vc.toNat - va.toNat=0
     ·rw[hz,Gi];exact .nil u none _ _
     ·have sc:m cap≠va.toNat:=by
       rcases hm cap aT with⟨_,h4⟩|⟨_,_,h4⟩<;>omega
      rw[At sc];have cB:(Eh b off none).add (va.toNat*E.U.size u)=⟨b,off+va.toNat*E.U.size u,none⟩:=Ci _ _ _;simp only[Cu,cB];have iG:∀(j:Nat)(lf:Leaf Ty den),(flat E.U u ((l.drop va.toNat).take (vc.toNat - va.toNat)))[j]?=some lf->(flat E.U u l)[va.toNat*E.U.size u+j]?=some lf:=by
       intro j lf hj;rw[B8R hU,B80 hU]at hj;rw[De]at hj;split at hj
       ·rw[Dg]at hj;exact hj
       ·cases hj
      have dO:(va.toNat+(vc.toNat - va.toNat))*E.U.size u<=l.length*E.U.size u:=Dx _ (by omega);rw[Cc]at dO;have:=CRep.sl (U:=E.U) (w:=w) (wm:=g.wm) u ((l.drop va.toNat).take (vc.toNat - va.toNat)) none b (off+va.toNat*E.U.size u) (m cap - va.toNat) (λj=>cs (va.toNat*E.U.size u+j))
       (by rw[aj];rcases hm cap aT with⟨_,h4⟩|⟨_,_,h4⟩<;>omega) (by rw[aj];omega)
       (λj lf hj=>by have:=hc _ lf (iG j lf hj);rw[Dy];exact this) (λj lf hj=>eF _ lf (iG j lf hj))
      rw[aj]at this;exact this
   split at h
   ·rename_i va vc e9 jF;split at h
    ·rename_i rr bZ;obtain⟨h0,h1,h2,rfl⟩:=B4g bZ;exact cj va vc none (λc=>c) h0 h1 h2 e9 jF (λcap _=>.inl ⟨rfl,rfl⟩) rfl h
    ·cases h
   ·rename_i va vc m e9 jF;split at h
    ·rename_i k0 mv hm;obtain⟨hc,h'⟩:=B8 h;simp only[Bm,decide_eq_true_eq]at hc;obtain⟨ve,hc⟩:=hc;split at h'
     ·rename_i rr bZ;obtain⟨h0,h1,h2,rfl⟩:=B4g bZ;have em:=U5 hr hm;have wM:hi≠none:=λe=>by rw[e]at ve;cases ve
      exact cj va vc (some (.int k0 vc)) (λ_=>vc.toNat) h0 h1 h2 e9 jF (λcap _=>.inr ⟨⟨k0,by congr 2;omega⟩,wM,rfl⟩) (by simp[em,hc]) h'
     ·cases h'
    ·cases h
   ·cases h
  ·cases h
 ·cases h
end
end Go.Aev
section
open Go.Lib
namespace Go.Aev
variable {Ty:Type}{den:Ty->Type}
section
variable {E:Env Ty den}{B:Bs}{g:Gh}{s:St Ty den}{a:Act}{w:World}
variable {P:Bg}{R:Type}{o:Oper}{k:Ent Ty den->St Ty den->Option R}{r:R}{next:Act->World->Prop}{Q:Exit->Act->World->Prop}
variable (hT:∀t,P8 P E.U t (E.tb t))(hU:E.U.Ok)
theorem C0g(hr:Rel E.U B g s a w)(ty:Ax):∀(ps:List (Nat×Ba))(i:Nat)(ls:List (Leaf Ty den)),A2r E s ty i ps=some ls->
  ls.length=ps.length/\(ps.map λ(j,x)=>(j,a.eval x))=((ps.map λp=>a.eval p.2).zipIdx i).map (λx=>(x.2,x.1))/\
   ∀(j:Nat)(lf:Leaf Ty den),ls[j]?=some lf->∃v,(ps.map λp=>a.eval p.2)[j]?=some v/\CRep E.U w g.wm lf v
 |[],i,ls,h=>by
  simp only[A2r,Be]at h;subst h;exact⟨rfl,rfl,λj lf hj=>by simp at hj⟩
 |(j0,x)::ps,i,ls,h=>by
  simp only[A2r]at h;obtain⟨hc,h'⟩:=B8 h;have ot:=(F6 i j0).1 hc;subst ot;cases hp:A2r E s ty (i+1) ps with
  |none=>rw[hp]at h';cases h'
  |some bL=>
   rw[hp]at h';simp only[Cu,Be]at h';subst h';obtain⟨h1,h2,h3⟩:=C0g hr ty ps (i+1) bL hp;refine⟨by simp[h1],by simp[h2,Fa],λj lf hj=>?_⟩;cases j with
   |zero=>
    simp at hj;subst hj;exact⟨a.eval x,by simp,(H7 hr ty x).1.close⟩
   |succ j=>
    obtain⟨v,hv,ak⟩:=h3 j lf (by simpa using hj);exact⟨v,by simpa using hv,ak⟩
theorem C5r{U:UO Ty den}(hU:U.Ok)(t:Ty):∀(ls:List (Leaf Ty den))(xs:List (den t)),A8p U t ls=some xs->xs.length=ls.length/\flat U t xs=ls
 |[],xs,h=>by simp only[A8p,Be]at h;subst h;exact⟨rfl,rfl⟩
 |l::ls,xs,h=>by
  simp only[A8p]at h;split at h
  ·rename_i x jG hx iH;simp only[Be]at h;subst h;obtain⟨h1,h2⟩:=C5r hU t ls jG iH;exact⟨by simp[h1],by rw[A6g,hU.dec t [l] x hx,h2];rfl⟩
  ·cases h
theorem B7h(hr:Rel E.U B g s a w)(u:Ty):∀(ps:List (Nat×Ba))(i:Nat)(xs:List (den u)),A3Z E u s i ps=some xs->
  xs.length=ps.length/\(ps.map λ(j,x)=>(j,a.eval x))=((ps.map λp=>a.eval p.2).zipIdx i).map (λx=>(x.2,x.1))/\
   ∀(j:Nat)(x:den u),xs[j]?=some x->∃v,(ps.map λp=>a.eval p.2)[j]?=some v/\CRep E.U w g.wm (.agg u x) v
 |[],i,xs,h=>by
  simp only[A3Z,Be]at h;subst h;exact⟨rfl,rfl,λj x hj=>by simp at hj⟩
 |(j0,x0)::ps,i,xs,h=>by
  simp only[A3Z]at h;obtain⟨hc,h'⟩:=B8 h;have ot:=(F6 i j0).1 hc;subst ot;split at h'
  ·rename_i u' y hy;split at h'
   ·rename_i y' l wN iI;simp only[Be]at h';subst h';obtain⟨rfl,e2⟩:=B1w wN;simp only at e2;subst e2;obtain⟨h1,h2,h3⟩:=B7h hr u' ps (i+1) l iI;refine⟨by simp[h1],by simp[h2,Fa],λj x hj=>?_⟩;cases j with
    |zero=>
     simp at hj;subst hj;have:=H7 hr 0 x0;rw[hy]at this;exact⟨a.eval x0,by simp,this.1⟩
    |succ j=>
     obtain⟨v,hv,ak⟩:=h3 j x (by simpa using hj);exact⟨v,by simpa using hv,ak⟩
   ·cases h'
  ·cases h'
theorem C4m{α β:Type}(f:α->List β)(c:Nat):∀(l:List α),(∀v∈l,(f v).length=c)->(l.flatMap f).length=l.length*c
 |[],_=>by simp
 |v::l,h=>by
  rw[Gt,Ff,h v Gl,C4m f c l λx hx=>h x (Gm _ hx),Ck,Nat.succ_mul];omega
def A2h(P:Bg)(U:UO Ty den)(t:Ax)(zs:List (Leaf Ty den)):Prop:=
 ∃i z,P.info? t=some i/\i.size=zs.length/\i.zero=some z/\z.cells.size=zs.length/\∀(j:Nat) lf,zs[j]?=some lf->∃u,z.cells[j]?=some u/\u.oneCell'=true/\u.cells= #[u]/\(∀(w:World)(g:Gh),LRep U w g lf u)/\∀t,lf=.sl t [] none->u=.slice none 0 0
theorem C1B:∀(l:Ai)(k off:Nat)(cells:Array Value),off+k+l.length<=cells.size->
  ((l.zipIdx k).foldl (λcs (p:Value×Nat)=>cs.setIfInBounds (off+p.2) p.1) cells).size=cells.size/\
  ∀i,((l.zipIdx k).foldl (λcs (p:Value×Nat)=>cs.setIfInBounds (off+p.2) p.1) cells)[i]?=if off+k<=i/\i<off+k+l.length then l[i - (off+k)]? else cells[i]?
 |[],k,off,cells,h=>⟨rfl,λi=>by rw[At (by simp only[List.length_nil];omega)];rfl⟩
 |v::l,k,off,cells,h=>by
  simp only[Ck]at h;obtain⟨h1,h2⟩:=C1B l (k+1) off (cells.setIfInBounds (off+k) v) (by rw[Hf];omega);simp only[Fa,Fg];refine⟨by rw[h1,Hf],λi=>?_⟩;rw[h2 i];by_cases hi:off+(k+1)<=i/\i<off+(k+1)+l.length
  ·rw[Au hi,Au (by simp only[Ck];omega)];rw[show i - (off+k)=(i - (off+(k+1)))+1 by omega,Gq]
  ·rw[At hi,Fk];by_cases hk:off+k=i
   ·rw[Au hk,Au (by omega),Au (by simp only[Ck];omega),show i - (off+k)=0 by omega];rfl
   ·rw[At hk,At (by simp only[Ck];omega)]
structure A6O(U:UO Ty den)(w:World)(g:Gh)(ls:List (Leaf Ty den))(cells:Array Value):Prop where
 size:cells.size=ls.length
 at_:∀(j:Nat) lf,ls[j]?=some lf->∃u,cells[j]?=some u/\u.oneCell'=true/\u.cells= #[u]/\LRep U w g lf u
theorem B13{α:Type}(ls:List α)(o:Nat)(ys:List α)(h:o+ys.length<=ls.length):(Y8 ls o ys).length=ls.length/\∀i,(Y8 ls o ys)[i]?=if o<=i/\i<o+ys.length then ys[i - o]? else ls[i]? :=by
 unfold Y8;refine⟨by simp;omega,λi=>?_⟩;by_cases h1:i<o
 ·rw[Cq (by simp;omega),De,Au h1,At (by omega)]
 ·rw[Cx (by simp;omega),List.length_take,Nat.min_eq_left (by omega)];by_cases h2:i - o<ys.length
  ·rw[Cq h2,Au (by omega)]
  ·rw[Cx (by omega),Dg,At (by omega)]
   congr 1;omega
theorem C2k{lf:Leaf Ty den}(h:A7t lf=true):B5X lf:=by
 cases lf<;>first
  |(cases h;done)
  |exact⟨(by intro e;cases e),(by intro v e;cases e),(by intro u y e;cases e)⟩
include hU in
theorem B3Y{n:Nat}{lf:Leaf Ty den}{v:Value}{ys:List (Leaf Ty den)}(h:cellsOf E n lf=some ys)(hl:LRep E.U w g lf v):
  v.cells.size=n/\ys.length=n/\∀(j:Nat) y,ys[j]?=some y->∃u,v.cells[j]?=some u/\u.oneCell'=true/\u.cells= #[u]/\LRep E.U w g y u:=by
 have one:∀{lf:Leaf Ty den},(bif A7t lf&&Aw n 1 then some [lf]else none)=some ys->LRep E.U w g lf v->v.cells.size=n/\ys.length=n/\∀(j:Nat) y,ys[j]?=some y->∃u,v.cells[j]?=some u/\u.oneCell'=true/\u.cells= #[u]/\LRep E.U w g y u:=λh hl=>by
  obtain⟨h1,h2⟩:=B8 h;cases h2;simp only[Bm]at h1;have hn:=(F6 _ _).1 h1.2;obtain⟨h3,h4⟩:=hl.1.one hU (C2k h1.1);refine⟨by rw[h4,hn];rfl,by rw[hn];rfl,λj y hj=>?_⟩;cases j with
  |zero=>
   simp at hj;subst hj;exact⟨v,by rw[h4];rfl,h3,h4,hl⟩
  |succ j=>simp at hj
 cases lf with
 |agg u y=>
  obtain⟨h1,h2⟩:=B8 h;cases h2;have hn:=(F6 _ _).1 h1;obtain⟨vs,rfl,mP,cs,ct,eF⟩:=A9b hl.1;have ck:=hU.len u y;refine⟨by show vs.toArray.size=n;simp[mP,hn],by rw[ck,hn],λj lf hj=>?_⟩;have h5:=ct j lf hj;have hr:=eF j lf hj;have hs:=hU.solid u y lf (Cw hj);obtain⟨h6,h7⟩:=hr.one hU hs;refine⟨cs j,by show vs.toArray[j]?=_;simpa using h5,h6,h7,hr,λt l d he=>?_,λd o he=>?_⟩
  ·subst he;have:=hU.closed u y _ (Cw hj);simp[Leaf.close]at this
  ·subst he;have:=hU.closed u y _ (Cw hj);simp[Leaf.close]at this
 |any=>exact one (lf:=.any) h hl
 |int k n=>exact one h hl
 |bool b=>exact one h hl
 |str s=>exact one h hl
 |sl t l o=>exact one h hl
 |elem t x o=>exact one h hl
 |val v=>exact one (lf:=.val v) h hl
 |ptr d o=>exact one (lf:=.ptr d o) h hl
 |ifc T t x=>exact one h hl
 |one1 t x=>exact one h hl
 |nils=>exact one h hl
include hU in
theorem A90(hr:Rel E.U B g s a w){g':Gh}{cl:Leaf Ty den->Leaf Ty den}(ck:∀l v,LRep E.U w g l v->LRep E.U w g' (cl l) v)(pl:List (Nat×Nat)):∀(ps:List (Nat×Ba))(ls bL:List (Leaf Ty den))(cells:Array Value),A1S E cl s pl ps ls=some bL->A6O E.U w g' ls cells->
  ∃ba,Ec (pl.toArray[·]?) cells (ps.map λp=>(p.1,a.eval p.2))=some ba/\A6O E.U w g' bL ba
 |[],ls,bL,cells,h,hf=>by
  simp only[A1S,Be]at h;subst h;exact⟨cells,rfl,hf⟩
 |(j,x)::ps,ls,bL,cells,h,hf=>by
  simp only[A1S]at h;split at h
  ·rename_i o' n iI;split at h
   ·rename_i ys lY;obtain⟨aZ,h⟩:=B8 h;have aZ:=Dm aZ;have hx:LRep E.U w g' (cl (opl E s 0 x)) (a.eval x):=ck _ _ (H7 hr 0 x);obtain⟨c1,c2,c3⟩:=B3Y hU lY hx;have ao:=hf.size;obtain⟨k1,k2⟩:=C1B (a.eval x).cells.toList 0 o' cells (by simp;omega);obtain⟨m1,m2⟩:=B13 ls o' ys (by omega);have bO:A6O E.U w g' (Y8 ls o' ys) (((a.eval x).cells.toList.zipIdx 0).foldl (λcs (p:Value×Nat)=>cs.setIfInBounds (o'+p.2) p.1) cells):=by
     refine⟨by rw[k1,m1,ao],λi lf hi=>?_⟩;rw[m2]at hi;rw[k2];simp only[Ez,Hh,c1];rw[c2]at hi;by_cases cE:o'<=i/\i<o'+n
     ·rw[Au cE]at hi ⊢;obtain⟨u,u1,u2,u3,u4⟩:=c3 _ _ hi;exact⟨u,by rw[<-u1];simp,u2,u3,u4⟩
     ·rw[At cE]at hi ⊢;exact hf.at_ i lf hi
    obtain⟨ba,q1,q2⟩:=A90 hr ck pl ps _ bL _ h bO;refine⟨ba,?_,q2⟩;simp only[Gn,Ec];have sd:pl.toArray[j]?=some (o',n):=by simpa using iI
    rw[sd];dsimp only;rw[At (by simp[c1];omega)];rw[<-q1]
    congr 1
    rw[<-Array.foldl_toList,Array.toList_zipIdx]
   ·cases h
  ·cases h
def nlG(U:UO Ty den)(nm j:Nat)(g:Gh):Leaf Ty den->Gh
 | .sl t [] none=>g.put (bo nm j) (.slice none 0 0) (U.size t)
 |_=>g
theorem B0y(l:Leaf Ty den):(∃t,l=.sl t [] none)\/((∀nm j,nlL nm j l=l)/\(∀nm j (s:St Ty den),nlS nm j s l=s)/\∀(U:UO Ty den) nm j g,nlG U nm j g l=g):=by
 cases l with
 |sl t x o=>
  cases x with
  |nil=>cases o with
   |none=>exact .inl ⟨t,rfl⟩
   |some e=>exact .inr ⟨λ_ _=>rfl,λ_ _ _=>rfl,λ_ _ _ _=>rfl⟩
  |cons y x=>exact .inr ⟨λ_ _=>rfl,λ_ _ _=>rfl,λ_ _ _ _=>rfl⟩
 |_=>exact .inr ⟨λ_ _=>rfl,λ_ _ _=>rfl,λ_ _ _ _=>rfl⟩
def A09(U:UO Ty den)(nm:Nat):Nat->Gh->List (Leaf Ty den)->Gh
 |_,g,[]=>g
 |j,g,l::r=>A09 U nm (j+1) (nlG U nm j g l) r
theorem B1a(U:UO Ty den)(nm:Nat):∀(zs:List (Leaf Ty den))(j:Nat)(g:Gh),(A09 U nm j g zs).wm=g.wm/\∀e,(∀i,j<=i->e≠bo nm i)->(A09 U nm j g zs).G e=g.G e/\(A09 U nm j g zs).Gs e=g.Gs e
 |[],j,g=>⟨rfl,λe _=>⟨rfl,rfl⟩⟩
 |l::zs,j,g=>by
  obtain⟨h1,h2⟩:=B1a U nm zs (j+1) (nlG U nm j g l);simp only[A09];rcases B0y l with⟨t,rfl⟩|⟨_,_,h⟩
  ·refine⟨h1,λe he=>?_⟩;obtain⟨k1,k2⟩:=h2 e (λi hi=>he i (by omega));have:=he j (Bf _);rw[k1,k2];simp[nlG,Gh.put,this]
  ·rw[h]at h1 h2 ⊢;exact⟨h1,λe he=>h2 e (λi hi=>he i (by omega))⟩
include hU in
theorem B6L(nm:Nat):∀(zs:List (Leaf Ty den))(j:Nat)(s:St Ty den)(g:Gh),Rel E.U B g s a w->Rel E.U B (A09 E.U nm j g zs) (A5s nm j s zs) a w
 |[],j,s,g,hr=>hr
 |l::zs,j,s,g,hr=>by
  simp only[A09,A5s];refine B6L nm zs (j+1) _ _ ?_;rcases B0y l with⟨t,rfl⟩|⟨_,h2,h3⟩
  ·exact hr.fresh hU _ _ _ ⟨_,_,_,rfl,Bf _,.inl rfl⟩ (λ_ _ _ _ hs=>by simp[spare]at hs) (λ_ hs=>by simp[spare]at hs)
  ·rw[h2,h3];exact hr
theorem LRep.keep{g1 g2:Gh}(hw:g2.wm=g1.wm){lf:Leaf Ty den}{v:Value}{U:UO Ty den}(h:LRep U w g1 lf v)(hk:∀e,lf.has e=true->g2.G e=g1.G e/\g2.Gs e=g1.Gs e):LRep U w g2 lf v:=by
 refine⟨by rw[hw];exact h.1,λt l d he=>?_,λd o he=>?_⟩
 ·obtain⟨e1,e2⟩:=hk d (by rw[he];simp[Leaf.has,H3]);rw[e1,e2];exact h.2.1 t l d he
 ·obtain⟨e1,e2⟩:=hk d (by rw[he];simp[Leaf.has,H3]);rw[e1];exact h.2.2 d o he
theorem B7f(U:UO Ty den)(w:World)(nm:Nat):∀(zs:List (Leaf Ty den))(us:Ai)(j:Nat)(g:Gh),zs.length=us.length->(∀(i:Nat) lf u,zs[i]?=some lf->us[i]?=some u->(∀g:Gh,LRep U w g lf u)/\∀t,lf=.sl t [] none->u=.slice none 0 0)->
  (A0R nm j zs).length=zs.length/\∀(i:Nat) lf u,(A0R nm j zs)[i]?=some lf->us[i]?=some u->LRep U w (A09 U nm j g zs) lf u
 |[],us,j,g,hl,_=>⟨rfl,λi lf u h=>by simp[A0R]at h⟩
 |l::zs,[],j,g,hl,_=>by simp at hl
 |l::zs,v::us,j,g,hl,h=>by
  obtain⟨h1,h2⟩:=B7f U w nm zs us (j+1) (nlG U nm j g l) (by simpa using hl) (λi lf u hi hu=>h (i+1) lf u (by simpa using hi) (by simpa using hu));refine⟨by simp[A0R,h1],λi lf u hi hu=>?_⟩;cases i with
  |succ i=>exact h2 i lf u (by simpa [A0R]using hi) (by simpa using hu)
  |zero=>
   simp only[A0R,List.getElem?_cons_zero,Be]at hi hu;subst hu;obtain⟨k1,k2⟩:=h 0 l v rfl rfl;simp only[A09];rcases B0y l with⟨t,rfl⟩|⟨h3,_,h4⟩
   ·subst hi;rw[k2 t rfl];obtain⟨q1,q2⟩:=B1a U nm zs (j+1) (g.put (bo nm j) (.slice none 0 0) (U.size t));refine⟨.nil _ _ _ _,λt1 l1 d1 he=>?_,λ_ _ he=>by(cases he)⟩;obtain⟨rfl,_,rfl⟩:=he;obtain⟨e1,e2⟩:=q2 (bo nm j) (λi hi=>by unfold bo;omega);simp only[nlG];rw[e1,e2];exact⟨by simp[Gh.put],by simp[Gh.put],TyB.nil⟩
   ·rw[h3]at hi;subst hi;exact k1 _
theorem B1O{U:UO Ty den}{w:World}{g:Gh}:∀{ls:List (Leaf Ty den)}{vs:Ai},ls.length=vs.length->(∀(j:Nat) lf u,ls[j]?=some lf->vs[j]?=some u->LRep U w g lf u)->LsRep U w g ls vs
 |[],[],_,_=>trivial
 |l::ls,v::vs,hl,h=>⟨h 0 l v rfl rfl,B1O (by simpa using hl) λj lf u h1 h2=>h (j+1) lf u (by simpa using h1) (by simpa using h2)⟩
 |[],_::_,hl,_=>by simp at hl
 |_::_,[],hl,_=>by simp at hl
variable (hZ:∀t zs,E.zr t=some zs->A2h P E.U t zs)
include hT in
theorem C92{t:Ax}{x:Ba}(ag:o.op=.makeInterface t x)(h:A8 E o s k=some r)(hr:Rel E.U B g s a w)(hd:∀i,o.dst=some i->i<a.tmps.size/\B.np<=i)(hn:H4 E B o a k r next):o.wp P a w next Q:=by
 simp only[A8,ag]at h;split at h
 ·rename_i u pl u' y ht hx;obtain⟨fs,ie,z,h1,_⟩:=A2S hT ht;split at h
  ·rename_i y' hy;obtain⟨e0,he⟩:=B1w hy;subst e0;simp only at he;subst he;have bK:=H7 hr t x;rw[hx]at bK;refine G7 (e:=.one (.ifc t u' y)) (v:=.iface t (a.eval x)) hr hd hn h ⟨.ifc t u' y _ bK.1,λ_ _ _ he=>by(cases he),λ_ _ he=>by(cases he)⟩ rfl ?_;simp[Az,ag,Instr.makeInterface,Bb h1]
  ·cases h
 ·cases h
include hT hU hZ in
theorem D0h{t:Ax}{ps:Array (Nat×Ba)}(ag:o.op=.build t ps)(h:A8 E o s k=some r)(hr:Rel E.U B g s a w)(hd:∀i,o.dst=some i->i<a.tmps.size/\B.np<=i)(hn:H4 E B o a k r next):o.wp P a w next Q:=by
 simp only[A8,ag]at h;cases jq:mbO E o.dst with
 |true=>
  rw[jq]at h;simp only[Ap]at h;split at h
  ·rename_i u pl zs ht dG;split at h
   ·rename_i ls bc;obtain⟨fs,ie,z,h1,h2,h3,h4,h5,h6⟩:=A2S hT ht;obtain⟨vf,z',e1,e2,e3,e4,e5⟩:=hZ t zs dG;rw[h3]at e1;cases e1;rw[h5]at e3;cases e3;obtain⟨q1,q2⟩:=B7f E.U w (bnO E o.dst) zs z.cells.toList 0 g (by simp[e4]) (λi lf u hi hu=>by
     obtain⟨uu,u1,u2,u3,u4,u5⟩:=e5 i lf hi;rw[Cs,u1]at hu;cases hu;exact⟨u4 w,u5⟩)
    have wO:=(B1a E.U (bnO E o.dst) zs 0 g).1;have jH:A6O E.U w (A09 E.U (bnO E o.dst) 0 g zs) (A0R (bnO E o.dst) 0 zs) z.cells:=⟨by rw[q1,e4],λj lf hj=>by
     have bA:j<zs.length:=by rw[<-q1];exact I7 hj
     obtain⟨uu,u1,u2,u3,u4,u5⟩:=e5 j _ (Bh bA);exact⟨uu,u1,u2,u3,q2 j lf uu hj (by rw[Cs];exact u1)⟩⟩
    obtain⟨ba,p1,p2⟩:=A90 hU hr (λl v h=>LRep.closed (by rw[wO];exact h.1)) pl ps.toList _ ls z.cells bc jH;have eH:P.built t (ps.map λ(i,x)=>(i,a.eval x)).toList=some ba:=by
     unfold Fx;rw[h3,h1];dsimp only;rw[h5,h2];dsimp only;rw[Ee];exact p1
    refine N4 (v:=.agg ba) (w':=w) (by simp[Az,ag,run_build w t _ _ eH]) (hn _ _ _ _ h (REL.setO (B6L hU (bnO E o.dst) zs 0 s g hr) (e:=.st ls) ?_ rfl _ hd));have ao:=p2.size;refine⟨ba.toList,by simp,B1O (by simp[ao]) (λj lf u h1 h2=>?_),λu hu=>?_⟩
    ·obtain⟨uu,u1,_,_,u4⟩:=p2.at_ j lf h1;rw[Cs,u1]at h2;cases h2;exact u4
    ·obtain⟨j,hj,rfl⟩:=Ea hu;have bA:j<ls.length:=by simp at hj;omega
     obtain⟨uu,u1,u2,u3,u4⟩:=p2.at_ j _ (Bh bA);have h9:ba.toList[j]?=some uu:=by rw[Cs];exact u1
     rw[Bh hj]at h9;rw[Ca h9];exact⟨u2,u3⟩
   ·cases h
  ·cases h
 |false=>
 rw[jq]at h;simp only[Aq]at h;split at h
 ·rename_i u pl ht;split at h
  ·rename_i zs dG;split at h
   ·rename_i ls bc;split at h
    ·rename_i x hx;obtain⟨fs,ie,z,h1,h2,h3,h4,h5,h6⟩:=A2S hT ht;obtain⟨vf,z',e1,e2,e3,e4,e5⟩:=hZ t zs dG;rw[h3]at e1;cases e1;rw[h5]at e3;cases e3;have jH:A6O E.U w g zs z.cells:=⟨e4,λj lf hj=>by
      obtain⟨uu,u1,u2,u3,u4,_⟩:=e5 j lf hj;exact⟨uu,u1,u2,u3,u4 w g⟩⟩
     obtain⟨ba,q1,q2⟩:=A90 hU hr (λl v h=>LRep.closed h.1) pl ps.toList zs ls z.cells bc jH;have aN:=hU.dec u ls x hx;have ck:=hU.len u x;have eH:P.built t (ps.map λ(i,x)=>(i,a.eval x)).toList=some ba:=by
      unfold Fx;rw[h3,h1];dsimp only;rw[h5,h2];dsimp only;rw[Ee];exact q1
     have bW:=q2.size;refine G7 (e:=.one (.agg u x)) (v:=.agg ba.toList.toArray) hr hd hn h ⟨.agg u x ba.toList (by rw[Hh,bW, <-aN,ck]) (λj=>(ba[j]?).getD undef) (λj lf hj=>?_) (λj lf hj=>?_),λ_ _ _ he=>by(cases he),λ_ _ he=>by(cases he)⟩ rfl ?_
     ·rw[aN]at hj;obtain⟨uu,u1,_⟩:=q2.at_ j lf hj;rw[Cs,u1];rfl
     ·rw[aN]at hj;obtain⟨uu,u1,_,_,u4⟩:=q2.at_ j lf hj;rw[u1];exact u4.1
     ·simp[Az,ag,run_build w t _ _ eH]
    ·cases h
   ·cases h
  ·cases h
 ·cases h
include hT in
theorem C7i{t:Ax}{x:Ba}{i:Nat}(ag:o.op=.fieldAddr t x i)(h:A8 E o s k=some r)(hr:Rel E.U B g s a w)(hd:∀i,o.dst=some i->i<a.tmps.size/\B.np<=i)(hn:H4 E B o a k r next):o.wp P a w next Q:=by
 simp only[A8,ag]at h;have lZ:∀{v:Ty}{pl:List (Nat×Nat)}{o' n:Nat},E.tb t=.struct v pl->pl[i]?=some (o',n)->0<n->∀b off,a.eval x=.pointer (some ⟨b,off,none⟩)->(Az a.eval o).run P w=.ok (.value (.pointer (some ⟨b,off+o',none⟩))) w:=by
  intro v pl o' n ht hp fy b off hv;obtain⟨fs,ie,z,h1,h2,_⟩:=A2S hT ht;have hl:=B8F h2;have jr:=(List.getElem?_eq_some_iff.1 hp).1;have hi:fs[i]?=some (fs[i]'(by simpa using (by omega:i<fs.toList.length))):=by simp
  obtain⟨p,se,hf⟩:=C09 h2 i _ (by rw[Cs];exact hi);rw[<-Ca (hp.symm.trans se)]at hf;cases mQ:P.info? (fs[i]'(by simpa using (by omega:i<fs.toList.length))).type with
  |none=>rw[mQ]at hf;cases hf
  |some wP=>
   rw[mQ]at hf;simp only[Cu,Be,Dl]at hf;have cB:(Eh b off none).add o'=⟨b,off+o',none⟩:=Ci _ _ _;have ao:(Ce (fs[i]'(by simpa using (by omega:i<fs.toList.length))).type).run P w=.ok n w:=by simp[Ce,Bp,mQ,hf.2]
   simp[Az,ag,hv,Instr.fieldAt,Bb h1,hi,Cy,fieldPlace,ao,hf.1,cB];omega
 split at h
 ·rename_i v pl u y off ht hx;split at h
  ·rename_i o' n hp;obtain⟨fy,h⟩:=B8 h;have fy:0<n:=by simpa [Cb]using fy
   have bK:=H7 hr 0 x;rw[hx]at bK;obtain⟨eT,_⟩:=bK;generalize hv:a.eval x=vv at eT;cases eT with
   |elem _ _ _ b o1 cs aX aJ ak=>
    refine G7 (e:=.one (.elem u y (off+o'))) (v:=.pointer (some ⟨b,o1+(off+o'),none⟩)) hr hd hn h ⟨.elem u y (off+o') b o1 cs aX aJ ak,λ_ _ _ he=>by(cases he),λ_ _ he=>by(cases he)⟩ rfl ?_;rw[<-Dy];exact lZ ht hp fy b _ hv
  ·cases h
 ·rename_i v pl d off ht hx;split at h
  ·rename_i o' n hp;obtain⟨fy,h⟩:=B8 h;rw[Bm,Bm]at fy;obtain⟨fy,bM,oT⟩:=fy;have fy:0<n:=by simpa [Cb]using fy
   have bK:=H7 hr 0 x;rw[hx]at bK;obtain⟨b,m,hG,hv⟩:=bK.2.2 d off rfl;have hv:=hv.at bM;refine G7 (e:=.one (.ptr d (off+o'))) (v:=.pointer (some ⟨b,off+o',none⟩)) hr hd hn h ⟨.pt _ _ _,λ_ _ _ he=>by(cases he),λd' o2 he=>by(cases he;exact⟨b,m,hG,.inl ⟨rfl,oT⟩⟩)⟩ rfl (lZ ht hp fy b _ hv)
  ·cases h
 ·cases h
include hT hU in
theorem B87{t:Ax}{n:Nat}{ps:Array (Nat×Ba)}(ag:o.op=.buildSlice t n ps)(h:A8 E o s k=some r)(hr:Rel E.U B g s a w){C:Prop}
  (cj:∀(u:Ty)(e:Ax)(xs:List (den u))(c:Array Value),E.tb t=.slice u e->xs.length=n->(Az a.eval o).run P w=.ok (.value (.slice (some ⟨w.heap.size,0,none⟩) n n)) (w.alloc (.cells c e))->n*E.U.size u<=c.size->
   (∀(j:Nat)(lf:Leaf Ty den),(flat E.U u xs)[j]?=some lf->∃v:Value,c[j]?=some v/\CRep E.U w g.wm lf v)->k (.one (.sl u xs (some (C6 o.dst)))) (s.fresh (C6 o.dst))=some r->C):C:=by
 simp only[A8,ag]at h;split at h
 ·rename_i u e ht;split at h
  ·rename_i u2 mR;split at h
   ·rename_i xs iH;obtain⟨hc,h'⟩:=B8 h;simp only[Bm]at hc;have jI:=(F6 _ _).1 hc.1;have mS:n*E.U.size u<65536:=by simpa [Cb]using hc.2
    obtain⟨cD,ie,z,bJ,ao,_,hz,dG⟩:=R9 hT ht;obtain⟨h1,h2,h3⟩:=B7h hr u ps.toList 0 xs iH;have bV:=hU.pos u;have aj:n=ps.toList.length:=by omega
    have mT:∀v∈(ps.toList.map λp=>a.eval p.2),v.cells.size=E.U.size u:=by
     intro v hv;obtain⟨j,hj,oV⟩:=Ea hv;have ou:j<xs.length:=by simpa [h1]using hj
     obtain⟨v',da,ak⟩:=h3 j xs[j] (Bh ou);rw[Bh hj]at da;obtain⟨vs,e1,e2,_⟩:=A9b ak;rw[<-oV,Ca da,e1];simpa [Dk]using e2
    have aJ:∀(j:Nat)(lf:Leaf Ty den),(flat E.U u xs)[j]?=some lf->∃v:Value,((ps.toList.map λp=>a.eval p.2).flatMap λv=>v.cells.toList)[j]?=some v/\CRep E.U w g.wm lf v:=by
     intro j lf hj;rw[Great.flat_get bV _ mT];have bA:=I7 hj;rw[A0S hU]at bA;have jJ:j / E.U.size u<xs.length:=(Nat.div_lt_iff_lt_mul bV).2 bA;have sf:=Nat.mod_lt j bV;have de:j / E.U.size u*E.U.size u+j % E.U.size u=j:=Nat.div_add_mod' j (E.U.size u);obtain⟨v,hv,ak⟩:=h3 (j / E.U.size u) _ (Bh jJ);obtain⟨vs,e1,e2,cs,e3,e4⟩:=A9b ak;have dc:(E.U.cells u xs[j / E.U.size u])[j % E.U.size u]?=some lf:=by
      rw[<-flat_get hU u xs (j / E.U.size u) _ (j % E.U.size u) (Bh jJ) sf,de];exact hj
     refine⟨cs (j % E.U.size u),?_,e4 _ _ dc⟩;rw[hv,e1];simpa [Dk]using e3 _ _ dc
    have af:(Ed t n (ps.map λ(j,x)=>(j,a.eval x))).run P w=.ok (.slice (some ⟨w.heap.size,0,none⟩) n n) (w.alloc (.cells ((ps.toList.map λp=>a.eval p.2).flatMap λv=>v.cells.toList).toArray e)):=by
     by_cases h0:n=0
     ·subst h0;have fa:ps= #[]:=by
       apply Eg;simpa using (Dh aj.symm)
      subst fa;simp[Ed,Bb cD,Ce,Bp,bJ,Ec,Cn,Hg]
     ·have wQ:¬n*ie.size=0:=by
       rw[ao];have:=Nat.mul_pos (Nat.pos_of_ne_zero h0) bV;omega
      refine run_buildSlice w t e n _ _ ie z cD bJ hz (by rw[ao];omega) wQ ?_;rw[Ee,h2,ao];exact Great.fill_whole bV _ _ mT (by simp[aj])
    have cS:((ps.toList.map λp=>a.eval p.2).flatMap λv=>v.cells.toList).length=n*E.U.size u:=by
     rw[C4m _ _ _ λv hv=>by simpa using mT v hv,Fe,aj]
    exact cj u e xs ((ps.toList.map λp=>a.eval p.2).flatMap λv=>v.cells.toList).toArray ht jI (by simp[Az,ag,af]) (by simp only[Gj];omega) (λj lf hj=>by
     obtain⟨v,hv,ak⟩:=aJ j lf hj;exact⟨v,by simpa using hv,ak⟩) h'
   ·cases h
  split at h
  ·rename_i ls bc;split at h
   ·rename_i xs iH;obtain⟨hc,h'⟩:=B8 h;simp only[Bm]at hc;obtain⟨hJ,eT,wR⟩:=hc;have jI:=(F6 _ _).1 hJ;have dX:=(F6 _ _).1 eT;have mS:n<65536:=by simpa [Cb]using wR
    obtain⟨cD,ie,z,bJ,ao,_,hz,dG⟩:=R9 hT ht;obtain⟨h1,h2,h3⟩:=C0g hr e ps.toList 0 ls bc;obtain⟨h4,h5⟩:=C5r hU u ls xs iH;have mU:∀v∈(ps.toList.map λp=>a.eval p.2),v.cells= #[v]:=by
     intro v hv;obtain⟨j,hj,oV⟩:=Ea hv;have ou:j<ls.length:=by simpa [h1]using hj
     obtain⟨v',da,ak⟩:=h3 j ls[j] (Bh ou);rw[Bh hj]at da;rw[<-oV,Ca da];exact(ak.one hU (B1R hU (t:=u) (l:=xs) (j:=j) (by rw[h5];exact Bh ou))).2
    have aj:n=ps.toList.length:=by omega
    have af:(Ed t n (ps.map λ(j,x)=>(j,a.eval x))).run P w=.ok (.slice (some ⟨w.heap.size,0,none⟩) n n) (w.alloc (.cells (ps.toList.map λp=>a.eval p.2).toArray e)):=by
     by_cases h0:n=0
     ·subst h0;have fa:ps= #[]:=by
       apply Eg;simpa using (Dh aj.symm)
      subst fa;simp[Ed,Bb cD,Ce,Bp,bJ,Ec,Cn,Hg]
     ·refine run_buildSlice w t e n _ _ ie z cD bJ hz (by rw[ao,dX];omega) (by rw[ao,dX];omega) ?_;rw[Ee,h2,ao,dX];exact Great.fill_flat _ _ mU (by simp[aj])
    exact cj u e xs (ps.toList.map λp=>a.eval p.2).toArray ht jI (by simp[Az,ag,af]) (by rw[dX];simp[aj]) (λj lf hj=>by
     rw[h5]at hj;obtain⟨v,hv,ak⟩:=h3 j lf hj;exact⟨v,by simpa using hv,ak⟩) h'
   ·cases h
  ·cases h
 ·cases h
include hT hU in
theorem D6A{t:Ax}{n:Nat}{ps:Array (Nat×Ba)}(ag:o.op=.buildSlice t n ps)(h:A8 E o s k=some r)(hr:Rel E.U B g s a w)(hd:∀i,o.dst=some i->i<a.tmps.size/\B.np<=i)(hn:H4 E B o a k r next):o.wp P a w next Q:=
 B87 hT hU ag h hr λu e xs c ht hl af hc aJ h'=>N4 af (hn _ _ _ _ h' (by
  subst hl;exact REL.newOwn (o:=o) (hety:=A8d hT ht) hU hr hd (C6 o.dst) (cap:=xs.length) (w.alloc (.cells c e)) rfl rfl rfl rfl (Bf _) hc rfl aJ))
theorem A8x{n b:Nat}(h:A2 n b=true):n*b<=140737488355328:=by simpa [A2]using h
include hT hU in
theorem D7u{t:Ax}{l c:Ba}(ag:o.op=.makeSlice t l c)(h:A8 E o s k=some r)(hr:Rel E.U B g s a w)(hd:∀i,o.dst=some i->i<a.tmps.size/\B.np<=i)(hn:H4 E B o a k r next):o.wp P a w next Q:=by
 simp only[A8,ag]at h;split at h
 ·rename_i u e kl kc m ht hl fh;obtain⟨hc,h'⟩:=B8 h;simp only[Bm,decide_eq_true_eq]at hc;obtain⟨ov,be⟩:=hc;have be:=A8x be;obtain⟨cD,ie,z,bJ,ao,lu,hz,dG⟩:=R9 hT ht;have el:=U5 hr hl;have ec:=U5 hr fh;have js:=hU.bpos u;have aZ:m.toNat<=m.toNat*E.U.bytes u:=Gf _ js;have dt:(ie.bytes:Int)*m<=281474976710656:=by
   have e1:(m.toNat:Int)=m:=by omega
   have:((ie.bytes*m.toNat:Nat):Int)<=281474976710656:=by rw[lu,Nat.mul_comm];omega
   rw[Int.natCast_mul,e1]at this;exact this
  have af:=run_make w t e ie z cD bJ hz kl kc 0 m (Int.le_refl _) ov dt (by omega);simp only[Int.toNat_zero]at af;refine N4 (v:=.slice (some ⟨w.heap.size,0,none⟩) 0 m.toNat) (w':=w.alloc (.cells (Em z.cells (m.toNat*ie.size)) e)) (by simp[Az,ag,el,ec,af]) (hn _ _ _ _ h' ?_);exact REL.newOwn (o:=o) (hety:=A8d hT ht) hU hr hd (C6 o.dst) (t:=u) (l:=[]) (c:=Em z.cells (m.toNat*ie.size)) (e:=e) (fz:=(0,0)) (cap:=m.toNat) (w.alloc (.cells (Em z.cells (m.toNat*ie.size)) e)) rfl rfl rfl rfl
   (Bj _) (by rw[size_madeCells,ao];exact Bf _) rfl (λj lf hj=>by simp[flat]at hj)
 ·cases h
include hT hU in
theorem D5X{t:Ax}{x:Ba}(ag:o.op=.range t x)(h:A8 E o s k=some r)(hr:Rel E.U B g s a w)(hd:∀i,o.dst=some i->i<a.tmps.size/\B.np<=i)(hn:H4 E B o a k r next):o.wp P a w next Q:=by
 simp only[A8,ag]at h;split at h
 ·rename_i b ht hx;have ex:=A50 hr hx;have cD:=A2Z hT ht;have h1:=hr.alloc hU (.stringIter ⟨b.toArray⟩ 0) 0 (w.alloc (.stringIter ⟨b.toArray⟩ 0)) rfl rfl rfl rfl;have af:(Az a.eval o).run P w=.ok (.value (.pointer (some ⟨w.heap.size,0,none⟩))) (w.alloc (.stringIter ⟨b.toArray⟩ 0)):=by
   simp[Az,ag,ex,Instr.range,Bb cD]
  refine N4 af (hn _ _ _ _ h ?_);have bE:(w.alloc (.stringIter ⟨b.toArray⟩ 0)).heap[w.heap.size]?=some (.stringIter ⟨b.toArray⟩ 0):=heap_alloc_new w _;cases aO:o.dst with
  |none=>exact⟨_,by simpa [St.setO,Ei]using h1⟩
  |some d=>
   have dl:=(hd d aO).1;have rX:=(hd d aO).2;have aL:=B0Q a d;have ap:∀i c p,s.get i=.iter c p->g.ib i<w.heap.size:=by
    intro i c p hc;have h2:=h1.ent i;have h3:=hr.ent i;rw[hc]at h3;obtain⟨b',hv,aY⟩:=h3;have h4:=(hr.iter i c p hc).1;rw[hv]at h4;cases h4;exact(Bw.1 aY).1
   refine⟨{wm:=C7 g.wm w.heap.size 0,G:=g.G,Gs:=g.Gs,ib:=λi=>if i=d then w.heap.size else g.ib i},?_⟩;refine{os:=h1.os,tape:=h1.tape,output:=h1.output,size:=h1.size,frame:=h1.frame,ext:=h1.ext,zero:=h1.zero,ent:=λi=>?_,tip:=h1.tip,disj:=h1.disj,mine:=h1.mine,iter:=λi c pos hc=>?_,idis:=λi j c p c' p' cn hi hj=>?_,defers:=by rw[B2F];exact h1.defers,bxl:=λi e ls hc=>?_,pin:=λi hi=>by(show(a.put (some d) _).tmps.getD i undef=_;rw[aL i _ dl,At (by omega)];exact h1.pin i hi)}
   ·simp only[St.setO];rw[K5,aL i _ dl];by_cases cC:d=i
    ·rw[Au cC,Au cC];exact⟨w.heap.size,rfl,bE⟩
    ·rw[At cC,At cC];exact ERep.same (w:=w.alloc (.stringIter ⟨b.toArray⟩ 0)) (g:={wm:=C7 g.wm w.heap.size 0,G:=g.G,Gs:=g.Gs,ib:=g.ib}) (g':={wm:=C7 g.wm w.heap.size 0,G:=g.G,Gs:=g.Gs,ib:=λi=>if i=d then w.heap.size else g.ib i}) hU ⟨A6X rfl,λ_ _ _=>rfl,λ_=>Bf _⟩ rfl rfl (h1.ent i) (λ_ _ _ _ _=>rfl) (λ_ _ _ _ _=>rfl)
   ·simp only[St.setO]at hc;rw[K5]at hc;rw[aL i _ dl];by_cases cC:d=i
    ·rw[Au cC];simp only[Au cC.symm];exact⟨trivial,hr.size⟩
    ·rw[At cC]at hc ⊢;simp only[At (Bo cC)];exact h1.iter i c pos hc
   ·simp only[St.setO]at hi hj;rw[K5]at hi hj;by_cases cC:d=i
    ·have jp:¬d=j:=λe=>cn (cC.symm.trans e);rw[At jp]at hj;simp only[Au cC.symm,At (Bo jp)];have:=ap j _ _ hj;omega
    ·rw[At cC]at hi;by_cases jp:d=j
     ·simp only[At (Bo cC),Au jp.symm];have:=ap i _ _ hi;omega
     ·rw[At jp]at hj;simp only[At (Bo cC),At (Bo jp)];exact h1.idis i j _ _ _ _ cn hi hj
   ·simp only[St.setO]at hc;rw[K5]at hc;by_cases cC:d=i
    ·rw[Au cC]at hc;cases hc
    ·rw[At cC]at hc;exact h1.bxl i e ls hc
 ·cases h
theorem D12{x:Nat}(ag:o.op=.next (.tmp x) true)(h:A8 E o s k=some r)(hr:Rel E.U B g s a w)(hU:E.U.Ok)(hd:∀i,o.dst=some i->i<a.tmps.size/\B.np<=i)(hn:H4 E B o a k r next):o.wp P a w next Q:=by
 simp only[A8,ag]at h;split at h
 ·rename_i b pos hx;have aK:=hr.ent x;rw[hx]at aK;obtain⟨bb,hv,fU⟩:=aK;have vg:=(hr.iter x b pos hx).1;have oW:=(hr.iter x b pos hx).2;rw[hv]at vg;have mV:bb=g.ib x:=by simpa using vg
  have vh:x<a.tmps.size:=by
   rcases Bu x a.tmps.size with h1|h1
   ·exact h1
   ·rw[Ef,Array.getElem?_eq_none h1]at hv;cases hv
  cases hc:decide (pos<b.length)with
  |false=>
   rw[hc]at h;simp only[Aq]at h;have ap:¬pos<(Cz b.toArray).size:=by rw[A3G];simpa using hc
   have af:=run_next_end_at (P:=P) w bb ⟨b.toArray⟩ pos o.type fU ap;refine G7 (e:=.tup [.bool false]) hr hd hn h ⟨[.bool false],rfl,LRep.bool _,trivial⟩ rfl ?_;simp[Az,ag,Ds,hv,af]
  |true=>
   rw[hc]at h;simp only[Ap]at h;have ap:pos<(Cz b.toArray).size:=by rw[A3G];simpa using hc
   have af:=run_next_any_at (P:=P) w bb ⟨b.toArray⟩ pos o.type fU ap;refine N4 (v:=.tuple #[.bool true,.int .i64 pos,.int .i32 (Cg ⟨b.toArray⟩ pos).1]) (w':=w.iterAt bb ⟨b.toArray⟩ (pos+(Cg ⟨b.toArray⟩ pos).2)) (by simp[Az,ag,Ds,hv,af]) (hn _ _ _ _ h ?_);have oQ:=(Bw.1 fU).1;have ci:∀j,j≠bb->(w.iterAt bb ⟨b.toArray⟩ (pos+(Cg ⟨b.toArray⟩ pos).2)).heap[j]?=w.heap[j]? :=λj hj=>iterAt_other w bb j _ _ hj;have cz:=iterAt_heap w bb ⟨b.toArray⟩ pos (pos+(Cg ⟨b.toArray⟩ pos).2) fU;generalize dL:w.iterAt bb ⟨b.toArray⟩ (pos+(Cg ⟨b.toArray⟩ pos).2)=w' at*;have ao:w'.heap.size=w.heap.size:=by rw[<-dL];exact iterAt_size _ _ _ _
   have aJ:∀b' off,w'.cell? ⟨b',off,none⟩=w.cell? ⟨b',off,none⟩:=by
    intro b' off;by_cases aY:b'=bb
    ·subst aY;simp[Br,cz,fU]
    ·exact Bq (a:=⟨b',off,none⟩) (ci b' aY)
   have vi:Ext w g.wm w' g.wm:=⟨D7Y (b:=bb) (λc e fz hq=>by rw[fU]at hq;cases hq) ci,λb' off _=>aJ b' off,λ_=>Bf _⟩;have zj:B.w.heap.size<=bb:=by rw[mV];exact oW
   have h2:Rel E.U B g (s.set x (.iter b (pos+(Cg ⟨b.toArray⟩ pos).2))) a w':=by
    refine{os:=by rw[<-dL];exact hr.os,tape:=by rw[<-dL];exact hr.tape,output:=by rw[<-dL];exact hr.output,size:=by rw[ao];exact hr.size,frame:=λb' aY hM=>?_,ext:=hr.ext.trans vi,zero:=λb' aY=>hr.zero b' (by rw[ao]at aY;exact aY),ent:=λi=>?_,tip:=λd dM=>?_,disj:=λd e b' h3 h4=>hr.disj d e b' h3 h4,mine:=λd b' h3=>hr.mine d b' h3,iter:=λi c p cq=>?_,idis:=λi j c p c' p' cn hi hj=>?_,defers:=hr.defers,bxl:=λi e ls cq=>?_,pin:=hr.pin}
    ·rw[ci b' (by omega)];exact hr.frame b' aY hM
    ·rw[K5];by_cases iX:x=i
     ·subst iX;rw[Au rfl];exact⟨bb,hv,cz⟩
     ·rw[At iX];refine ERep.same hU vi rfl rfl (hr.ent i) (λc p cq b' aY=>ci b' ?_) (λd' ls cq b' hs=>ci b' λe=>by
       subst e;obtain⟨c1,e1,f1,h5⟩:=A5y (hr.tip d' (hr.bxl i d' ls cq).1) hs;rw[fU]at h5;cases h5)
      have h3:=(hr.iter i c p cq).1;rw[aY]at h3;have h4:b'=g.ib i:=by simpa using h3
      rw[h4,mV];exact λe=>hr.idis i x c p b pos (λe'=>iX e'.symm) cq hx e
    ·obtain⟨a0,len,cap,da,aZ,gJ⟩:=hr.tip d dM;refine⟨a0,len,cap,da,aZ,gJ.imp id ?_⟩;rintro⟨b',off,c,e,fz,ha,aY,anq⟩;exact⟨b',off,c,e,fz,ha,by rw[ci b' (λe'=>by subst e';rw[fU]at aY;cases aY)];exact aY,anq⟩
    ·rw[K5]at cq;by_cases iX:x=i
     ·subst iX;exact⟨by rw[hv,mV],oW⟩
     ·rw[At iX]at cq;exact hr.iter i c p cq
    ·rw[K5]at hi hj;by_cases iX:x=i
     ·rw[At (λe=>cn (iX.symm.trans e))]at hj;subst iX;exact hr.idis _ j _ _ _ _ cn hx hj
     ·rw[At iX]at hi;by_cases vj:x=j
      ·subst vj;exact hr.idis i _ _ _ _ _ cn hi hx
      ·rw[At vj]at hj;exact hr.idis i j _ _ _ _ cn hi hj
    ·rw[K5]at cq;by_cases iX:x=i
     ·rw[Au iX]at cq;cases cq
     ·rw[At iX]at cq;exact hr.bxl i e ls cq
   exact REL.setO h2 (e:=.tup [.bool true,.int .i64 (pos:Int),.int .i32 ((Cg ⟨b.toArray⟩ pos).1:Int)]) ⟨[.bool true,.int .i64 pos,.int .i32 (Cg ⟨b.toArray⟩ pos).1],rfl,LRep.bool _,LRep.int _ _,LRep.int _ _,trivial⟩ rfl _ hd
 ·cases h
end
end Go.Aev
end
section
open Go.Lib
namespace Go.Aev
variable {Ty:Type}{den:Ty->Type}
theorem C5v(ns:Aa):∀(r:ByteArray),ns.foldl (λr n=>r.push (Eo n.toNat)) r=⟨(r.data.toList++ns.map λn=>Eo n.toNat).toArray⟩:=by
 induction ns with
 |nil=>intro r;cases r;simp
 |cons n ns ih=>
  intro r;rw[Fg,ih];cases r;simp[ByteArray.push]
theorem C1a(s:ByteArray):∀(bound i:Nat)(kM:Array Value),(∀v∈kM.toList,∃n:Int,v=.int .i32 n)->∀v∈(Cr s bound i kM).toList,∃n:Int,v=.int .i32 n
 |0,i,kM,h=>by simpa [Cr]using h
 |bound+1,i,kM,h=>by
  simp only[Cr];split
  ·exact C1a s bound _ _ (λv hv=>by
    simp at hv;rcases hv with hv|hv
    ·exact h v (by simpa using hv)
    ·exact⟨_,hv⟩)
  ·exact h
def A5S(l:Ai):Aa:=l.map λ| .int _ n=>n|_=>0
theorem D6S(l:Ai)(h:∀v∈l,∃n:Int,v=.int .i32 n):(A5S l).map (Cp .i32)=l:=by
 induction l with
 |nil=>rfl
 |cons v l ih=>
  obtain⟨n,rfl⟩:=h v (by simp);simp only[A5S,Gn,Gu,true_and];exact ih λu hu=>h u (by simp[hu])
section
variable {E:Env Ty den}{B:Bs}{g:Gh}{s:St Ty den}{a:Act}{w:World}
variable {P:Bg}{R:Type}{o:Oper}{k:Ent Ty den->St Ty den->Option R}{r:R}{next:Act->World->Prop}{Q:Exit->Act->World->Prop}
variable (hT:∀t,P8 P E.U t (E.tb t))(hU:E.U.Ok)
theorem C8Q(hU:E.U.Ok){t:Ty}{l:List (den t)}{own:Ak}{v:Value}{wm:Nat->Nat}{f:List (den t)->Ab}(hf:E.U.toBytes t=some f)(h:CRep E.U w wm (.sl t l own) v):
  (Ha v).run P w=.ok (.string ⟨(f l).toArray⟩) w:=by
 obtain⟨ns,jK,cS⟩:=hU.toBytes t f hf l;rcases h.sl_cells hU with⟨rfl,a0,cap,rfl⟩|⟨b,off,cap,cs,rfl,aT,aX,hc,eF⟩
 ·have fy:ns=[]:=by
   have:=congrArg Gp jK;simp[flat]at this;exact Dh this.symm
  subst fy;simp at cS;rw[cS];cases a0 with
  |none=>simp[Ha];rfl
  |some a0=>
   rw[Fp w a0 0 cap [] (by simp[Co,En])];rfl
 ·have aj:ns.length=l.length*E.U.size t:=by rw[<-A0S hU,jK];simp
  have ao:=hU.toBytes1 t f hf;rw[ao,Gc]at aj;have cK:(Co ⟨b,off,none⟩ l.length).run P w=.ok (ns.map (Cp .u8)).toArray w:=by
   have:=Fo (P:=P) w ⟨b,off,none⟩ (ns.map (Cp .u8)) (λj v hv=>by
    rw[Bn]at hv;cases hn:ns[j]? with
    |none=>rw[hn]at hv;cases hv
    |some n=>
     rw[hn]at hv;simp at hv;subst hv;have oX:(flat E.U t l)[j]?=some (.int .u8 n):=by rw[jK];simp[hn]
     have h1:=hc j _ oX;have h2:=eF j _ oX;rw[h2.int_inv]at h1;rw[Ci];exact h1)
   simpa [aj]using this
  rw[Fp w ⟨b,off,none⟩ l.length cap ns cK,C5v,cS];simp
theorem D4n(ns:Aa):∀(r:ByteArray),ns.foldl (λr n=>r++Fu n) r=⟨(r.data.toList++A4F ns).toArray⟩:=by
 induction ns with
 |nil=>intro r;cases r;simp[A4F]
 |cons n ns ih=>
  intro r;rw[Fg,ih];simp[A4F,ByteArray.data_append]
theorem D5Q(hU:E.U.Ok){t:Ty}{l:List (den t)}{own:Ak}{v:Value}{wm:Nat->Nat}{f:List (den t)->Aa}(hf:E.U.toRunes t=some f)(h:CRep E.U w wm (.sl t l own) v):
  (Gz v).run P w=.ok (.string ⟨(A4F (f l)).toArray⟩) w:=by
 have jK:=hU.toRunes t f hf l;have ao:=hU.toRunes1 t f hf;have aj:(f l).length=l.length:=by
  have:=congrArg Gp jK;rw[A0S hU,ao,Fe,Gc]at this;exact this.symm
 rcases h.sl_cells hU with⟨rfl,a0,cap,rfl⟩|⟨b,off,cap,cs,rfl,aT,aX,hc,eF⟩
 ·have fy:f []=[]:=Dh aj;rw[fy];cases a0 with
  |none=>simp[Gz,A4F];rfl
  |some a0=>
   rw[Fm w a0 0 cap [] (by simp[Co,En])];rfl
 ·have cK:(Co ⟨b,off,none⟩ l.length).run P w=.ok ((f l).map (Cp .i32)).toArray w:=by
   have:=Fo (P:=P) w ⟨b,off,none⟩ ((f l).map (Cp .i32)) (λj v hv=>by
    rw[Bn]at hv;cases hn:(f l)[j]? with
    |none=>rw[hn]at hv;cases hv
    |some n=>
     rw[hn]at hv;simp at hv;subst hv;have oX:(flat E.U t l)[j]?=some (.int .i32 n):=by rw[jK];simp[hn]
     have h1:=hc j _ oX;have h2:=eF j _ oX;rw[h2.int_inv]at h1;rw[Ci];exact h1)
   simpa [aj]using this
  rw[Fm w ⟨b,off,none⟩ l.length cap (f l) cK];unfold runesBytes;rw[D4n];rfl
theorem D6r(P:Bg)(w:World)(c:Array Value)(e:Ax)(b:Nat)(w1:World)(hw:w1.heap=w.heap.push (.cells c e (0,0)))(hb:b=w.heap.size):
  ∃w2,(El ⟨b,0,none⟩).run P w1=.ok () w2/\w2.heap=w.heap.push (.cells c e (c.size,c.size+1))/\w2.os=w1.os/\w2.tape=w1.tape/\w2.output=w1.output:=by
 subst hb;have bE:w1.heap[w.heap.size]?=some (.cells c e (0,0)):=by rw[hw];simp
 refine⟨w1.freeze ⟨w.heap.size,c.size,none⟩ 1,by simp[El,Fs,bE],?_,?_,?_,?_⟩
 ·simp only[Bx,Eu,if_false];rw[hw];apply Array.ext_getElem?;intro i;rw[Dr];by_cases hi:w.heap.size=i
  ·subst hi;simp
  ·simp only[At hi];rw[Cm,Cm];rw[At (Bo hi),At (Bo hi)]
 ·simp[Bx]
 ·simp[Bx]
 ·simp[Bx]
include hT hU in
theorem D00{src dst:Ax}{x:Ba}(ag:o.op=.convert src dst x)(h:A8 E o s k=some r)(hr:Rel E.U B g s a w)(hd:∀i,o.dst=some i->i<a.tmps.size/\B.np<=i)(hn:H4 E B o a k r next):o.wp P a w next Q:=by
 simp only[A8,ag]at h;split at h
 ·rename_i k1 k0 k2 n hs aO hx;have ex:=U5 hr hx;exact G7 (e:=.one (.int k0 (k0.wrap n))) hr hd hn h (LRep.int _ _) rfl (by simp[Az,ag,ex,Dd,Bb (A4z hT hs),Bb (A4z hT aO),Conv.intToInt])
 ·rename_i t e u l own hs aO hx;split at h
  ·rename_i l' f he cy hf;obtain⟨cD,_⟩:=R9 hT hs;have bK:=H7 hr src x;rw[hx]at bK;have ak:=(A4A cy bK.1).1;have hb:=C8Q (P:=P) hU hf ak;refine G7 (e:=.one (.str (f l'))) hr hd hn h (LRep.str _) rfl ?_;obtain⟨a0,cap,hv⟩:=ak.sl_inv;rw[hv]at hb;simp[Az,ag,hv,Dd,Bb cD,Bb (A2Z hT aO),Bb (A4z hT he),hb]
  ·rename_i l' f he cy hf;obtain⟨cD,_⟩:=R9 hT hs;have bK:=H7 hr src x;rw[hx]at bK;have ak:=(A4A cy bK.1).1;have hb:=D5Q (P:=P) hU hf ak;refine G7 (e:=.one (.str (A4F (f l')))) hr hd hn h (LRep.str _) rfl ?_;obtain⟨a0,cap,hv⟩:=ak.sl_inv;rw[hv]at hb;simp[Az,ag,hv,Dd,Bb cD,Bb (A2Z hT aO),Bb (A4z hT he),hb]
  ·cases h
 ·rename_i t e b hs aO hx;have ex:=A50 hr hx;obtain⟨cD,ie,z,bJ,ao,_,_,_⟩:=R9 hT aO;split at h
  ·rename_i f he hf;obtain⟨hc,h'⟩:=B8 h;obtain⟨cS,sg⟩:=hU.ofBytes t f hf b;have dX:E.U.size t=1:=hU.ofBytes1 t f hf;obtain⟨w2,hm,mW,mX,kQ,si⟩:=D6r P w ((b.toArray.map λc=>Cp .u8 (c.toNat:Int))++Dq ((Bz b.length 0 e).cut (w.tape w.drawn (.appendCap b.length 0 e)) - b.length) (.int .u8 0)) e w.heap.size
    (w.drew.alloc (.cells ((b.toArray.map λc=>Cp .u8 (c.toNat:Int))++Dq ((Bz b.length 0 e).cut (w.tape w.drawn (.appendCap b.length 0 e)) - b.length) (.int .u8 0)) e)) rfl rfl
   have aT:b.length<=(Bz b.length 0 e).cut (w.tape w.drawn (.appendCap b.length 0 e)):=by simp[Fw]
   refine N4 (v:=.slice (some ⟨w.heap.size,0,none⟩) b.length ((Bz b.length 0 e).cut (w.tape w.drawn (.appendCap b.length 0 e)))) (w':=w2) ?_ (hn _ _ _ _ h' ?_)
   ·simp[Az,ag,ex,Dd,Bb (A2Z hT hs),Bb cD,Bb (A4z hT he),Conv.stringToBytes,A3G,Ep,Cn]at hm ⊢;rw[hm];rfl
   ·have:=REL.newCl (o:=o) hU hr hd (t:=t) (l:=f b) (cap:=(Bz b.length 0 e).cut (w.tape w.drawn (.appendCap b.length 0 e))) w2 mW mX kQ si (by rw[cS];exact aT)
     (λj lf hj=>by
      rw[sg,Bn]at hj;cases jt:b[j]? with
      |none=>rw[jt]at hj;cases hj
      |some c=>
       rw[jt]at hj;simp at hj;subst hj;have ap:=I7 jt;refine⟨.int .u8 (c.toNat:Int),?_,.int _ _⟩;rw[Fl (by simpa using ap)];simp[jt])
    rw[cS]at this;exact this
  ·rename_i f he hf;obtain⟨hc,h'⟩:=B8 h;have oY:=D6S _ (C1a ⟨b.toArray⟩ b.length 0 #[] (λv hv=>by simp at hv));obtain⟨cS,sg⟩:=hU.ofRunes t f hf (A5S (Cr ⟨b.toArray⟩ b.length 0 #[]).toList);have dX:E.U.size t=1:=hU.ofRunes1 t f hf;have l7:(f (A5S (Cr ⟨b.toArray⟩ b.length 0 #[]).toList)).length=(Cr ⟨b.toArray⟩ b.length 0 #[]).size:=by rw[cS];simp[A5S]
   generalize hX:Cr ⟨b.toArray⟩ b.length 0 #[]=X at*;have aT:X.size<=(Bz X.size 0 e).cut (w.tape w.drawn (.appendCap X.size 0 e)):=by simp[Fw]
   refine N4 (v:=.slice (some ⟨w.heap.size,0,none⟩) X.size ((Bz X.size 0 e).cut (w.tape w.drawn (.appendCap X.size 0 e))))
    (w':=w.drew.alloc (.cells (X++Dq ((Bz X.size 0 e).cut (w.tape w.drawn (.appendCap X.size 0 e)) - X.size) (.int .i32 0)) e)) ?_ (hn _ _ _ _ h' ?_)
   ·simp[Az,ag,ex,Dd,Bb (A2Z hT hs),Bb cD,Bb (A4z hT he),Conv.stringToRunes,A3G,hX,Ep,Cn]
   ·have:=REL.newOwn (o:=o) (hety:=A8d hT aO) hU hr hd (C6 o.dst) (t:=t) (l:=f (A5S X.toList)) (c:=X++Dq ((Bz X.size 0 e).cut (w.tape w.drawn (.appendCap X.size 0 e)) - X.size) (.int .i32 0)) (e:=e) (fz:=(0,0)) (cap:=(Bz X.size 0 e).cut (w.tape w.drawn (.appendCap X.size 0 e)))
     (w.drew.alloc (.cells (X++Dq ((Bz X.size 0 e).cut (w.tape w.drawn (.appendCap X.size 0 e)) - X.size) (.int .i32 0)) e)) rfl rfl rfl rfl (by rw[l7];exact aT)
     (by rw[dX];simp;omega) rfl (λj lf hj=>by
      rw[sg,Bn]at hj;cases jt:(A5S X.toList)[j]? with
      |none=>rw[jt]at hj;cases hj
      |some c=>
       rw[jt]at hj;simp at hj;subst hj;refine⟨.int .i32 c,?_,.int _ _⟩;have h1:X.toList[j]?=some (.int .i32 c):=by rw[<-oY];simp[jt]
       have ap:=I7 h1;rw[Fl (by simpa using ap)];simpa using h1)
    rw[l7]at this;exact this
  ·cases h
 ·rename_i t e u1 e1 u l d hs aO hx;split at h
  ·rename_i l' cy he;obtain⟨hc,h'⟩:=B8 h;simp only[Bm,Cb]at hc;obtain⟨sj,aw,cH⟩:=hc;have sj:=(F6 _ _).1 sj;subst sj;obtain⟨cD,_⟩:=R9 hT hs;have bK:=H7 hr src x;rw[hx]at bK;obtain⟨ak,fV⟩:=A4A cy bK.1;have lw:=(bK.2.1 u l d rfl).1;obtain⟨a0,len,cap,eu,aZ,gJ⟩:=hr.tip d aw;have hv:=lw.trans eu;have aj:len=l'.length:=by
    obtain⟨a1,c1,h1⟩:=ak.sl_inv;rw[h1]at hv;simp at hv;omega
   obtain⟨b,off,c,e2,fz,rfl,hb,_⟩:=gJ.resolve_left (by omega);have bf:spare (g.G d)=some b:=by rw[eu];simp only[spare];rw[At (by omega)]
   obtain⟨hH,aY⟩:∃hH,(w.freeze ⟨b,c.size,none⟩ 1).heap[b]?=some (.cells c e2 hH):=by
    simp only[Bx,Eu,if_false,Dr,if_true,hb];exact⟨_,rfl⟩
   have ci:∀k,k≠b->(w.freeze ⟨b,c.size,none⟩ 1).heap[k]?=w.heap[k]? :=λk hk=>by
    simp only[Bx,Eu,if_false,Dr];rw[At (λh=>hk h.symm)]
   have du:Ext w g.wm (w.freeze ⟨b,c.size,none⟩ 1) g.wm:=⟨λk c1 e3 f1 h1=>by
    by_cases hk:k=b
    ·subst hk;rw[hb]at h1;cases h1;exact⟨_,_,aY⟩
    ·exact⟨c1,f1,by rw[ci k hk];exact h1⟩,λk oZ _=>by
    by_cases hk:k=b
    ·subst hk;simp only[Br,aY,hb]
    ·exact Bq (a:=⟨k,oZ,none⟩) (ci k hk),λ_=>Bf _⟩
   have h1:=(hr.kill hU d).world hU (w':=w.freeze ⟨b,c.size,none⟩ 1) (wm':=g.wm) (by simp[Bx]) (by simp[Bx]) (by simp[Bx]) (by simp[Bx]) du (λb'=>b'=b) (λb' aY=>by cases aY;exact⟨c,e2,fz,hb⟩)
    (λe1 b' gG dX=>.inl λaY=>by
     cases aY;have dN:=(O1 d e1 s.live).1 gG;exact hr.disj d e1 b aw dN.1 (Bo dN.2) bf dX)
    (λb' aY=>by cases aY;exact hr.mine d b aw bf) (λb' _ av=>⟨ci b' av,rfl⟩) (λb' aY=>hr.zero b' (by simpa [Bx]using aY))
   refine N4 (v:=a.eval x) (w':=w.freeze ⟨b,c.size,none⟩ 1) ?_ (hn _ _ _ _ h' (REL.setO h1 (e:=.one (.sl t l' none)) ⟨(ak.own none).mono hU du,λ_ _ _ he=>by(cases he),λ_ _ he=>by(cases he)⟩ rfl _ hd));simp[Az,ag,hv,Dd,Bb cD,Bb (A4z hT he),El,Fs,hb]
  ·cases h
 ·cases h
end
end Go.Aev
end
section
open Go.Lib
namespace Go.Aev
variable {Ty:Type}{den:Ty->Type}
section
variable {E:Env Ty den}{B:Bs}{g:Gh}{s:St Ty den}{a:Act}{w:World}
variable {P:Bg}{R:Type}{o:Oper}{k:Ent Ty den->St Ty den->Option R}{r:R}{next:Act->World->Prop}{Q:Exit->Act->World->Prop}
variable (hT:∀t,P8 P E.U t (E.tb t))(hU:E.U.Ok)
structure Src(P:Bg)(U:UO Ty den)(t:Ty)(w:World)(wm:Nat->Nat)(y:Value)(m:List (den t))(aV:Ai):Prop where
 len:(Di y).run P w=.ok m.length w
 first:∀w':World,w'.heap=w.heap->(Cl (U.size t) m.length y).run P w'=.ok aV.toArray w'
 nlen:aV.length=m.length*U.size t
 rep:∀(j:Nat)(lf:Leaf Ty den),(flat U t m)[j]?=some lf->∃v,aV[j]?=some v/\CRep U w wm lf v
 one:∀v∈aV,v.oneCell'=true
theorem B8b(hU:E.U.Ok){t:Ty}{l:List (den t)}{b off:Nat}{wm:Nat->Nat}{cs:Nat->Value}(hc:∀j lf,(flat E.U t l)[j]?=some lf->w.cell? ⟨b,off+j,none⟩=some (cs j))
  (eF:∀j lf,(flat E.U t l)[j]?=some lf->CRep E.U w wm lf (cs j))(a0:Addr)(ha:a0=⟨b,off,none⟩)(n c:Nat)(hn:n=l.length):
  (∀w':World,w'.heap=w.heap->(Cl (E.U.size t) n (.slice (some a0) n c)).run P w'=.ok ((Ch (l.length*E.U.size t)).map cs).toArray w')/\
  (∀(j:Nat)(lf:Leaf Ty den),(flat E.U t l)[j]?=some lf->∃v,((Ch (l.length*E.U.size t)).map cs)[j]?=some v/\CRep E.U w wm lf v)/\
  (∀v∈(Ch (l.length*E.U.size t)).map cs,v.oneCell'=true):=by
 subst ha hn;have cS:=A0S hU t l;have aL:∀j,j<l.length*E.U.size t->∃lf,(flat E.U t l)[j]?=some lf:=λj hj=>⟨_,Bh (by omega)⟩;refine⟨λw' dL=>?_,λj lf hj=>?_,λv hv=>?_⟩
 ·refine run_firstCells_some w' (E.U.size t) l.length ⟨b,off,none⟩ l.length c _ (by simp) (λj v hv=>?_);rw[Bn]at hv;have bA:j<l.length*E.U.size t:=by
   rcases Bu j (l.length*E.U.size t)with h|h
   ·exact h
   ·rw[Do (by simpa using h)]at hv;cases hv
  rw[Df bA]at hv;simp at hv;subst hv;obtain⟨lf,dc⟩:=aL j bA;rw[Ci];have:=hc j lf dc;rw[<-this];exact Bq (a:=⟨b,off+j,none⟩) (by rw[dL])
 ·have bA:=I7 hj;exact⟨cs j,by rw[Bn,Df (by omega)];rfl,eF j lf hj⟩
 ·obtain⟨j,hj,rfl⟩:=Gk.1 hv;have bA:j<l.length*E.U.size t:=by simpa using hj
  obtain⟨lf,dc⟩:=aL j bA;exact((eF j lf dc).one hU (B1R hU dc)).1
theorem B6S(hU:E.U.Ok){t:Ty}{l:List (den t)}{own:Ak}{v:Value}{wm:Nat->Nat}(h:CRep E.U w wm (.sl t l own) v):∃aV,Src P E.U t w wm v l aV:=by
 rcases h.sl_cells hU with⟨rfl,a0,cap,rfl⟩|⟨b,off,cap,cs,rfl,aT,aX,hc,eF⟩
 ·refine⟨[],by simp[Di],λw' _=>?_,by simp,λj lf hj=>by simp[flat]at hj,λv hv=>by simp at hv⟩;cases a0<;>simp[Cl,Co,En]
 ·obtain⟨h1,h2,h3⟩:=B8b (P:=P) (w:=w) hU hc eF ⟨b,off,none⟩ rfl l.length cap rfl;exact⟨_,by simp[Di],h1,by simp,h2,h3⟩
theorem D7X(hU:E.U.Ok){t:Ty}{b:Ab}{f:Ab->List (den t)}{wm:Nat->Nat}(hf:E.U.ofBytes t=some f):∃aV,Src P E.U t w wm (.string ⟨b.toArray⟩) (f b) aV:=by
 obtain⟨h1,h2⟩:=hU.ofBytes t f hf b;have hs:=hU.ofBytes1 t f hf;refine⟨b.map λc=>Cp .u8 (c.toNat:Int),by simp[Di,A3G,h1],λw' _=>?_,by simp[h1,hs],λj lf hj=>?_,λv hv=>?_⟩
 ·simp only[Cl,Sem.run_pure]
  congr 1
  rw[h1];have:(Cz b.toArray).extract 0 b.length=⟨b.toArray⟩:=by rw[Hb];simp
  rw[this];simp[List.map_toArray]
 ·rw[h2,Bn]at hj;cases jt:b[j]? with
  |none=>rw[jt]at hj;cases hj
  |some c=>
   rw[jt]at hj;simp at hj;subst hj;exact⟨.int .u8 (c.toNat:Int),by simp[jt],.int _ _⟩
 ·obtain⟨c,_,rfl⟩:=Gk.1 hv;rfl
theorem C2G(hU:E.U.Ok){t u ty e:Ax}{t':Ty}(ht:P.underlying t=some (.slice e))(hu:B0G P u){i:TypeInfo}{z:Value}(hi:P.info? e=some i)(ao:i.size=E.U.size t')(lu:i.bytes=E.U.bytes t')(hz:i.zero=some z)(dG:z.cells.size=E.U.size t')
  (hr:Rel E.U B g s a w)(hd:∀i,o.dst=some i->i<a.tmps.size/\B.np<=i){d:Nat}(dl:mem d s.live=true)(hety:∀e',E.U.ety t'=some e'->e'=e){l m:List (den t')}{v y:Value}{aV:Ai}(hv:LRep E.U w g (.sl t' l (some d)) v)(hy:Src P E.U t' w g.wm y m aV)
  (be:(l.length+m.length)*E.U.bytes t'<=140737488355328):
  ∃v' w',(Da #[t,u] ty #[v,y]).run P w=.ok v' w'/\REL E.U B ((s.fresh d).setO o.dst (.one (.sl t' (l++m) (some d)))) (a.put o.dst v') w':=by
 obtain⟨lw,rj,mY⟩:=hv.2.1 t' l d rfl;have js:=hU.bpos t';have hY:l.length+m.length<=140737488355328:=Cv (Gf _ js) be;obtain⟨a0,len,cap,eu,aZ,cP⟩:=hr.tip d dl;rw[<-lw]at eu;have aj:len=l.length:=by
  obtain⟨a1,c1,h1⟩:=hv.1.sl_inv;rw[h1]at eu;simp at eu;omega
 subst aj;obtain⟨cI,cx⟩:=B6S (P:=P) hU hv.1;have o4:∀w':World,w'.heap=w.heap->(Cl i.size l.length (.slice a0 l.length cap)).run P w'=.ok cI.toArray w':=λw' dL=>by
  rw[ao, <-eu];exact cx.first w' dL
 have eI:∀w':World,w'.heap=w.heap->(Cl i.size m.length y).run P w'=.ok aV.toArray w':=λw' dL=>by
  rw[ao];exact hy.first w' dL
 have fA:∀(j:Nat)(lf:Leaf Ty den),(flat E.U t' (l++m))[j]?=some lf->∃v,(cI++aV)[j]?=some v/\CRep E.U w g.wm lf v:=λj lf hj=>by
  rw[C43]at hj;have cS:=A0S hU t' l;by_cases bA:j<l.length*E.U.size t'
  ·rw[Cq (by omega)]at hj;obtain⟨v,fi,e8⟩:=cx.rep j lf hj;exact⟨v,by rw[Cq (by rw[cx.nlen];exact bA)];exact fi,e8⟩
  ·rw[Cx (by omega),cS]at hj;obtain⟨v,fi,e8⟩:=hy.rep _ lf hj;exact⟨v,by rw[Cx (by rw[cx.nlen];omega),cx.nlen];exact fi,e8⟩
 by_cases fW:cap<l.length+m.length
 ·
  have af:=A9N (P:=P) w t u ty e i z ht hu hi hz a0 l.length cap cI o4 y m.length aV hy.len eI fW (by omega) (by rw[lu];exact be);rw[<-eu]at af;refine⟨_,_,af,?_⟩;have aT:l.length+m.length<=Ct w (l.length+m.length) cap e:=grownCap_ge _ _ _ _;have:=REL.newOwn (o:=o) (hety:=hety) hU hr hd d (t:=t') (l:=l++m) (c:=cI.toArray++aV.toArray++Fi z.cells (Ct w (l.length+m.length) cap e - (l.length+m.length))) (e:=e) (fz:=(0,0)) (cap:=Ct w (l.length+m.length) cap e)
   (w.drew.alloc (.cells (cI.toArray++aV.toArray++Fi z.cells (Ct w (l.length+m.length) cap e - (l.length+m.length))) e)) rfl rfl rfl rfl (by simpa using aT)
   (by
    simp only[Array.size_append,Gj,size_zeroCells,dG,cx.nlen,hy.nlen, <-Cc];exact Dx _ (by omega)) rfl (λj lf hj=>by
    obtain⟨v,fi,e8⟩:=fA j lf hj;have ap:=I7 fi;refine⟨v,?_,e8⟩;rw[Fl (by simpa using ap)];simpa using fi)
  simp only[Ff]at this;exact this
 ·
  have dY:l.length+m.length<=cap:=by omega
  by_cases cX:cap=0
  ·
   have ov:m=[]:=Dh (by omega);subst ov;have mZ:aV=[]:=Dh (by simpa using hy.nlen);subst mZ;have af:=A7I (P:=P) w t u ty e i ht hu hi a0 l.length cap y 0 [] (by simpa using hy.len) (by simpa using eI w rfl) w (λa1 _=>by simp[Du]) (λ_=>rfl) (by simpa using dY);rw[<-eu]at af;simp only[Ez]at af;rw[<-eu]at af;refine⟨v,w,af,?_⟩;have h2:=hr.fresh hU d v (E.U.size t') (by have:=hr.tip d dl;rw[<-lw, <-rj]at this;exact this) (λe' b he av hs=>by
    rw[lw]at hs;exact hr.disj d e' b dl he (Bo av) hs) (λb hs=>by rw[lw]at hs;exact hr.mine d b dl hs)
   refine REL.setO h2 (e:=.one (.sl t' (l++[]) (some d))) ?_ rfl o.dst hd;rw[List.append_nil];refine⟨hv.1,λt1 l1 d1 he=>?_,λ_ _ he=>by(cases he)⟩;simp only[Leaf.sl.injEq,Be]at he;obtain⟨rfl,_,rfl⟩:=he;exact⟨by simp[Gh.put],by simp[Gh.put],mY⟩
  ·obtain⟨b,off,c,e',fz,ha,hb,ct,aX,lX⟩:=cP.resolve_left cX;subst ha;rw[<-rj]at ct aX;have bf:spare (g.G d)=some b:=by rw[<-lw,eu];simp[spare,cX]
   have dO:(l.length+m.length)*E.U.size t'<=cap*E.U.size t':=Dx _ dY;rw[Cc]at dO;have cO:=A5i P b e' fz aV (off+l.length*E.U.size t') w c hb (by rw[hy.nlen];omega) (λj h1 h2=>by omega) hy.one;obtain⟨s1,⟨c',s2,s3,s4,s5⟩,s6,s7,s8,s9,ju⟩:=cO;have af:=A7I (P:=P) w t u ty e i ht hu hi (some ⟨b,off,none⟩) l.length cap y m.length aV hy.len (eI w rfl) (I5 w b (off+l.length*E.U.size t') aV)
    (λa1 l8=>by
     have:a1=⟨b,off,none⟩:=(Ca l8).symm;subst this;rw[Ci,ao];exact s1 _ 0 (by simp) (Bj _)) (λh0=>by cases h0) dY
   rw[<-eu]at af;refine⟨_,_,af,?_⟩;generalize dL:I5 w b (off+l.length*E.U.size t') aV=w' at*;have aJ:∀b' o',o'<g.wm b'->w'.cell? ⟨b',o',none⟩=w.cell? ⟨b',o',none⟩:=λb' o' fX=>by
    by_cases fU:b'=b
    ·subst fU;simp only[Br,s2,hb];simp only[Fz,Fj,if_false];exact s4 o' (.inl (by rw[aX]at fX;exact fX))
    ·exact Bq (a:=⟨b',o',none⟩) (s7 b' fU)
   have hx:Ext w g.wm w' (C7 g.wm b (off+(l.length+m.length)*E.U.size t')):=by
    refine⟨A67 hb s2 s7,aJ,λb'=>?_⟩;unfold C7;by_cases fU:b'=b
    ·subst fU;rw[Au rfl,aX];rw[Cc];omega
    ·rw[At fU];exact Bf _
   have eG:C7 g.wm b (off+(l.length+m.length)*E.U.size t') b=off+(l.length+m.length)*E.U.size t':=by simp[C7]
   have dZ:=hr.redo hU dl bf hb s2 s7 s6 s8 s9 ju hx (λk hk=>by simp only[C7];rw[At hk]) (.slice (some ⟨b,off,none⟩) (l.length+m.length) cap) (E.U.size t')
    ⟨_,_,_,rfl,dY,.inr ⟨b,off,c',e',fz,rfl,s2,by rw[s3];exact ct,eG,by show fz.2<=C7 g.wm b (off+(l.length+m.length)*E.U.size t') b;rw[eG,Cc];omega⟩⟩
    (λk hk=>by
     simp only[spare]at hk;split at hk
     ·cases hk
     ·exact(Ca hk).symm)
   refine REL.setO dZ (e:=.one (.sl t' (l++m) (some d))) ⟨?_,λt1 l1 d1 he=>?_,λ_ _ he=>by(cases he)⟩ rfl o.dst hd
   ·have du:=hx;have:=CRep.sl (U:=E.U) (w:=w') (wm:=C7 g.wm b (off+(l.length+m.length)*E.U.size t')) t' (l++m) (some d) b off cap (λj=>(cI++aV).getD j undef) (by simpa using dY) (by rw[eG];simp)
     (λj lf hj=>by
      obtain⟨v1,fi,e8⟩:=fA j lf hj;have ap:=I7 fi;have bh:(cI++aV).getD j undef=v1:=by simp[List.getD,fi]
      rw[bh];by_cases bA:j<l.length*E.U.size t'
      ·rw[hx.cell b (off+j) (by rw[aX];omega)];rw[Cq (by rw[cx.nlen];exact bA)]at fi;rcases hv.1.sl_cells hU with⟨a7,_⟩|⟨b2,oZ,wS,o5,rn,_,_,eT,ea⟩
       ·rw[a7]at bA;simp at bA
       ·have cz:=eu.symm.trans rn;simp only[Hi,Be,Addr.mk.injEq]at cz;obtain⟨⟨rfl,rfl,_⟩,_,rfl⟩:=cz;rw[C43,Cq (by rw[A0S hU];exact bA)]at hj;have h5:=eT j lf hj;have h6:=cx.first w rfl;rw[eu]at h6;obtain⟨k1,k2,_⟩:=B8b (P:=P) (w:=w) hU eT ea ⟨b,off,none⟩ rfl l.length cap rfl;have h7:=k1 w rfl;rw[h7]at h6;have h8:((Ch (l.length*E.U.size t')).map o5)=cI:=by
         have:=congrArg (λr=>match r with|Result.ok (x:Array Value) _=>x.toList|_=>[]) h6;simpa using this
        rw[<-h8,Bn,Df bA]at fi;simp at fi;rw[h5,fi]
      ·rw[Cx (by rw[cx.nlen];omega),cx.nlen]at fi;have h3:=s5 _ v1 fi;simp only[Br,s2];simp only[Fz,Fj,if_false];rw[<-h3];congr 1;omega)
     (λj lf hj=>by
      obtain⟨v1,fi,e8⟩:=fA j lf hj;have bh:(cI++aV).getD j undef=v1:=by simp[List.getD,fi]
      rw[bh];exact e8.mono hU hx)
    have o6:CRep E.U w' (C7 g.wm b (off+(l.length+m.length)*E.U.size t')) (.sl t' (l++m) (some d)) (.slice (some ⟨b,off,none⟩) (l.length+m.length) cap):=by simpa using this
    exact o6
   ·simp only[Leaf.sl.injEq,Be]at he;obtain⟨rfl,_,rfl⟩:=he;refine⟨by simp[Gh.put],by simp[Gh.put],?_⟩;rw[eu]at mY;exact(mY.ext hx).len
end
end Go.Aev
end
section
open Go.Lib
namespace Go.Aev
variable {Ty:Type}{den:Ty->Type}
section
variable {E:Env Ty den}{B:Bs}{g:Gh}{s:St Ty den}{a:Act}{w:World}
variable {P:Bg}{R:Type}{o:Oper}{k:Ent Ty den->St Ty den->Option R}{r:R}{next:Act->World->Prop}{Q:Exit->Act->World->Prop}
variable (hT:∀t,P8 P E.U t (E.tb t))(hU:E.U.Ok)
theorem A0A{α:Type}{A:Array α}{l:List α}(h:A.toList=l):A=l.toArray:=by rw[<-h]
include hT hU in
theorem C8h{c:Call}{t u:Ax}{x y:Ba}(ag:o.op=.call c)(aq:c.callee=.builtin .append)(dz:c.argTypes= #[t,u])(au:c.args= #[x,y])(h:B6Q E t u x y o.dst s k=some r)
  (hr:Rel E.U B g s a w)(hd:∀i,o.dst=some i->i<a.tmps.size/\B.np<=i)(hn:H4 E B o a k r next):o.wp P a w next Q:=by
 have af:∀{v':Value}{w':World},(Da #[t,u] o.type #[a.eval x,a.eval y]).run P w=.ok v' w'->(Az a.eval o).run P w=.ok (.value v') w':=λh1=>by
  simp[Az,ag,Db,aq,dz,au,Dc,Dj,h1]
 unfold B6Q at h;split at h
 ·rename_i t' e t0 l0 d s1 ht hx;obtain⟨cD,i,z,hi,ao,lu,hz,dG⟩:=R9 hT ht;split at h
  ·rename_i l cy;obtain⟨dl,h'⟩:=B8 h;obtain⟨g1,dv,hv,sm⟩:∃g1,Rel E.U B g1 s1 a w/\LRep E.U w g1 (.sl t' l (some d)) (a.eval x)/\g1.wm=g.wm:=by
    cases a7:Y3 x||A9q (opl E s t x)with
    |true=>
     rw[a7,ht]at hx;simp only[Ap,Dl,Leaf.sl.injEq,Be]at hx;obtain⟨⟨h1,h2,h3⟩,h4⟩:=hx;subst h1;have dw:=eq_of_heq h2;subst dw h3 h4;obtain⟨e0,ow⟩:=B2q cy;have:l=[]:=by rw[<-ow]
     subst this;have nc:a.eval x=.slice none 0 0:=by
      rw[Bool.or_eq_true]at a7;rcases a7 with a7|a7
      ·unfold Y3 at a7;split at a7
       ·rfl
       ·cases a7
      ·have bK:=(H7 hr t x).1;cases hl:opl E s t x with
       |nils=>
        rw[hl]at bK;generalize a.eval x=v at bK;cases bK;rfl
       |_=>rw[hl]at a7;cases a7
     refine⟨g.put (C6 o.dst) (.slice none 0 0) (E.U.size t'),hr.fresh hU _ _ _ ⟨_,_,_,rfl,Bf _,.inl rfl⟩ (λ_ _ _ _ hs=>by simp[spare]at hs) (λ_ hs=>by simp[spare]at hs),?_⟩;rw[nc];refine⟨⟨.nil _ _ _ _,λt1 l1 d1 he=>?_,λ_ _ he=>by(cases he)⟩,rfl⟩;simp only[Leaf.sl.injEq,Be]at he;obtain⟨rfl,_,rfl⟩:=he;exact⟨by simp[Gh.put],by simp[Gh.put],TyB.nil⟩
    |false=>
     rw[a7]at hx;simp only[Aq,Dl]at hx;obtain⟨h1,rfl⟩:=hx;have bK:=H7 hr t x;rw[h1]at bK;obtain⟨e0,ow⟩:=B2q cy;subst e0;subst ow;exact⟨g,hr,bK,rfl⟩
   have l9:∀{lf:Leaf Ty den},opl E s u y=lf->CRep E.U w g1.wm lf (a.eval y):=by
    intro lf he;have h1:=(H7 hr u y).1;rw[he]at h1;rw[sm];exact h1
   split at h'
   ·rename_i v0 e0 v m0 own hu hy;split at h'
    ·rename_i m hm;obtain⟨be,sn⟩:=B8 h';have ak:=(A4A hm (l9 hy)).1;obtain⟨aV,cv⟩:=B6S (P:=P) hU ak;obtain⟨v',w',iY,bO⟩:=C2G (ty:=o.type) hU cD (.inl ⟨_,(R9 hT hu).1⟩) hi ao lu hz dG dv hd dl (A8d hT ht) hv cv (A8x be);exact N4 (af iY) (hn _ _ _ _ sn bO)
    ·cases h'
   ·rename_i b hu hy;split at h'
    ·rename_i f hf;obtain⟨be,sn⟩:=B8 h';have ey:=(l9 hy).str_inv;obtain⟨aV,cv⟩:=D7X (P:=P) (w:=w) (b:=b) (wm:=g1.wm) hU hf;have cS:=(hU.ofBytes _ f hf b).1;rw[<-ey]at cv;obtain⟨v',w',iY,bO⟩:=C2G (ty:=o.type) hU cD (.inr (A2Z hT hu)) hi ao lu hz dG dv hd dl (A8d hT ht) hv cv (by rw[cS];exact A8x be);exact N4 (af iY) (hn _ _ _ _ sn bO)
    ·cases h'
   ·cases h'
  ·cases h
 ·cases h
include hT hU in
theorem D3D{c:Call}{b:Builtin}(ag:o.op=.call c)(aq:c.callee=.builtin b)(h:A1P E b c.argTypes.toList c.args.toList o.dst s k=some r)
  (hr:Rel E.U B g s a w)(hd:∀i,o.dst=some i->i<a.tmps.size/\B.np<=i)(hn:H4 E B o a k r next):o.wp P a w next Q:=by
 unfold A1P at h;split at h
 ·rename_i t x dz au;have dz:=A0A dz;have au:=A0A au;split at h
  ·rename_i t' e l own ht hx;obtain⟨cD,_⟩:=R9 hT ht;have bK:=H7 hr t x;rw[show opl E s t x=_ from hx]at bK;obtain⟨a0,cap,hv⟩:=bK.1.sl_inv;exact G7 (e:=.one (.int .i64 l.length)) hr hd hn h (LRep.int _ _) rfl (by simp[Az,ag,Db,aq,dz,au,Dc,Dj,hv,Hc,Bb cD,goInt])
  ·rename_i c0 ht hx;have ex:=A50 hr hx;exact G7 (e:=.one (.int .i64 c0.length)) hr hd hn h (LRep.int _ _) rfl (by simp[Az,ag,Db,aq,dz,au,Dc,Dj,ex,Hc,Bb (A2Z hT ht),goInt,A3G])
  ·cases h
 ·rename_i x y au;have au:=A0A au;split at h
  ·rename_i k0 va k1 vb hx hy;exact G7 (e:=.one (.int k0 (if vb<va then vb else va))) hr hd hn h (LRep.int _ _) rfl (by simp[Az,ag,Db,aq,au,Dc,Dj,U5 hr hx,U5 hr hy,run_min_int2])
  ·cases h
 ·rename_i x y au;have au:=A0A au;split at h
  ·rename_i k0 va k1 vb hx hy;exact G7 (e:=.one (.int k0 (if vb>va then vb else va))) hr hd hn h (LRep.int _ _) rfl (by simp[Az,ag,Db,aq,au,Dc,Dj,U5 hr hx,U5 hr hy,run_max_int2])
  ·cases h
 ·rename_i t u x y dz au;exact C8h hT hU ag aq (A0A dz) (A0A au) h hr hd hn
 ·cases h
end
end Go.Aev
end
section
open Go.Lib
namespace Go.Aev
variable {Ty:Type}{den:Ty->Type}
theorem Leaf.has_iff(d:Nat)(lf:Leaf Ty den):lf.has d=true↔(∃t l,lf=.sl t l (some d))\/∃o,lf=.ptr d o:=by
 cases lf with
 |sl t l o=>
  cases o with
  |none=>simp[Leaf.has]
  |some e=>simp[Leaf.has,F6]
 |ptr e o=>simp[Leaf.has,F6]
 |_=>simp[Leaf.has]
structure Post(U:UO Ty den)(B:Bs)(g':Gh)(r:Ent Ty den)(v:Value)(w':World):Prop where
 os:w'.os=B.w.os
 tape:w'.tape=B.w.tape
 output:w'.output=B.w.output
 size:B.w.heap.size<=w'.heap.size
 frame:∀b,b<B.w.heap.size->¬B.M b->w'.heap[b]?=B.w.heap[b]? /\g'.wm b=B.wm b
 ext:Ext B.w B.wm w' g'.wm
 zero:∀b,w'.heap.size<=b->g'.wm b=0
 rep:ERep U w' g' r v
 nit:r.isIter=false
 tip:∀d,r.has d=true->Tip w' g'.wm (g'.G d) (g'.Gs d)
 disj:∀d e b,r.has d=true->r.has e=true->d≠e->spare (g'.G d)=some b->spare (g'.G e)≠some b
 mine:∀d b,r.has d=true->spare (g'.G d)=some b->B.w.heap.size<=b\/B.M b
abbrev Inv:=World->(Nat->Nat)->Prop
def A1U(P:Bg)(U:UO Ty den)(I:Inv)(f:Bi)(ls:List (Leaf Ty den))(r:Ent Ty den):Prop:=
 ∀(w:World)(g:Gh)(vs:Ai),I w g.wm->(∀b,w.heap.size<=b->g.wm b=0)->LsRep U w g ls vs->(O0 ls=true->Tip w g.wm (g.G 0) (g.Gs 0))->(∀lf∈ls,∀d,lf.has d=true->d=0)->
  Calls P f vs.toArray w λe w'=>∃v g',e=.returned v/\Post U ⟨w,g.wm,λb=>O0 ls=true/\spare (g.G 0)=some b,0,λ_=>undef⟩ g' r v w'
structure Sound(P:Bg)(U:UO Ty den)(I:Inv)(f:Bi)(S:List (Leaf Ty den)->Option (Ent Ty den)):Prop where
 enter:∀args w,(Dw f args).run P w=.ok (.enter f args) w
 ok:∀ls r,S ls=some r->A1U P U I f ls r
section
variable {U:UO Ty den}{w:World}{g:Gh}
theorem LsRep.close:∀{ls:List (Leaf Ty den)}{vs:Ai},LsRep U w g ls vs->LsRep U w g (F8 ls) vs
 |[],[],_=>trivial
 |_::_,_::_,h=>⟨LRep.closed h.1.1,LsRep.close h.2⟩
theorem LsRep.closed_any{g':Gh}(hw:g'.wm=g.wm):∀{ls:List (Leaf Ty den)}{vs:Ai},LsRep U w g (F8 ls) vs->LsRep U w g' (F8 ls) vs
 |[],[],_=>trivial
 |[],_::_,h=>h.elim
 |_::_,[],h=>h.elim
 |x::_,_::_,h=>⟨⟨by rw[hw];exact h.1.1,λt1 l1 d1 he=>by(cases x<;>simp[Leaf.close]at he),λd o he=>by(cases x<;>simp[Leaf.close]at he)⟩,LsRep.closed_any hw h.2⟩
theorem A8c:∀(ls:List (Leaf Ty den)),O0 (F8 ls)=false
 |[]=>rfl
 |l::ls=>by
  cases l<;>simp only[F8,Leaf.close,O0]<;>exact A8c ls
theorem A5L(lf:Leaf Ty den)(d:Nat):lf.close.has d=false:=by cases lf<;>rfl
theorem A6e:∀{ls:List (Leaf Ty den)}{lf:Leaf Ty den},lf∈F8 ls->∃l0:Leaf Ty den,lf=l0.close
 |[],lf,h=>by simp[F8]at h
 |l::ls,lf,h=>by
  simp only[F8,Dn]at h;rcases h with h1|h1
  ·exact⟨l,h1⟩
  ·exact A6e h1
theorem LsRep.length:∀{ls:List (Leaf Ty den)}{vs:Ai},LsRep U w g ls vs->ls.length=vs.length
 |[],[],_=>rfl
 |_::_,_::_,h=>by simp[LsRep.length h.2]
theorem LsRep.set:∀{ls:List (Leaf Ty den)}{vs:Ai},LsRep U w g ls vs->∀(i:Nat)(lf:Leaf Ty den),(∀v,vs[i]?=some v->LRep U w g lf v)->LsRep U w g (ls.set i lf) vs
 |[],[],_,i,lf,_=>by cases i<;>trivial
 |_::_,_::_,h,0,lf,hv=>⟨hv _ rfl,h.2⟩
 |_::_,_::_,h,i+1,lf,hv=>⟨h.1,LsRep.set h.2 i lf λv da=>hv v (by simpa using da)⟩
theorem C2a:∀(ls:List (Leaf Ty den))(i:Nat)(t:Ty)(l:List (den t)),i<ls.length->O0 ((F8 ls).set i (.sl t l (some 0)))=true
 |[],i,t,l,h=>by simp at h
 |x::ls,0,t,l,_=>rfl
 |x::ls,i+1,t,l,h=>by
  have ih:=C2a ls i t l (by simpa using h);cases x<;>simp only[F8,Leaf.close,List.set_cons_succ,O0]<;>exact ih
theorem D1n{ls:List (Leaf Ty den)}{i:Nat}{t:Ty}{l:List (den t)}{lf:Leaf Ty den}(h:lf∈(F8 ls).set i (.sl t l (some 0)))(d:Nat)(hd:lf.has d=true):d=0:=by
 rcases List.mem_or_eq_of_mem_set h with h|rfl
 ·obtain⟨l0,rfl⟩:=A6e h;rw[A5L]at hd;cases hd
 ·obtain⟨_,_,he⟩:=((Leaf.has_iff d _).1 hd).resolve_right (λ⟨o,h⟩=>by cases h);simp only[Leaf.sl.injEq,Be]at he;exact he.2.2.symm
end
section
variable {E:Env Ty den}{B:Bs}{g:Gh}{s:St Ty den}{a:Act}{w:World}
variable {P:Bg}{R:Type}{o:Oper}{k:Ent Ty den->St Ty den->Option R}{r:R}{next:Act->World->Prop}{Q:Exit->Act->World->Prop}
theorem A5h(hr:Rel E.U B g s a w):∀(dp:List Ax)(args:List Ba),LsRep E.U w g (Q5 E s dp args) (args.map a.eval)
 |dp,[]=>by cases dp<;>trivial
 |[],x::r=>⟨H7 hr 0 x,A5h hr [] r⟩
 |t::ts,x::r=>⟨H7 hr t x,A5h hr ts r⟩
def X0(Bc:Bs)(g' g1:Gh)(ent:Ent Ty den)(p:Ak)(L:Nat->Prop)(s:St Ty den):Prop:=
 ∀e,mem e s.live=true->(∀b,spare (g1.G e)=some b->b<Bc.w.heap.size/\¬Bc.M b)\/
  ∃c,ent.has c=true/\L c/\g1.G e=g'.G c/\(c=0->∃d,p=some d/\mem d s.live=true)
theorem B25(hU:E.U.Ok){Bc:Bs}{g' g1:Gh}{ent:Ent Ty den}{v0:Value}{w':World}(hp:Post E.U Bc g' ent v0 w')(hr:Rel E.U B g1 s a w')(aX:g1.wm=g'.wm)
  (hB:∀b,Bc.w.heap.size<=b\/Bc.M b->B.w.heap.size<=b\/B.M b){p:Ak}{L L':Nat->Prop}(cc:X0 Bc g' g1 ent p L s)(vk:∀c,L c->L' c)
  {nm:Nat}{t:Ty}{l:List (den t)}{c:Nat}{v:Value}(ak:LRep E.U w' g' (.sl t l (some c)) v)(hc:ent.has c=true)(o7:L' c)(iJ:∀e,mem e s.live=true->mem nm s.live=false->∀c',L c'->(c'=0->∃d,p=some d/\mem d s.live=true)->c'≠c)
  (fh:c=0->p=some nm):
  ∃g2,Rel E.U B g2 (A1i nm t l s).2 a w'/\g2.wm=g'.wm/\LRep E.U w' g2 (A1i nm t l s).1 v/\X0 Bc g' g2 ent p L' (A1i nm t l s).2/\
   (∀e,mem e s.live=true->g2.G e=g1.G e/\g2.Gs e=g1.Gs e/\mem e (A1i nm t l s).2.live=true)/\(∀e,(A1i nm t l s).1.has e=true->mem e (A1i nm t l s).2.live=true):=by
 unfold A1i;cases hm:mem nm s.live with
 |true=>
  simp only[Ap];refine⟨g1,hr,aX,⟨ak.1.own none|>λh=>by rw[aX];exact h,λ_ _ _ he=>by(simp at he),λ_ _ he=>by(cases he)⟩,λe he=>?_,λe he=>⟨rfl,rfl,he⟩,λe he=>by simp[Leaf.has]at he⟩;rcases cc e he with h1|⟨c',h1,h2,h3,h4⟩
  ·exact .inl h1
  ·exact .inr ⟨c',h1,vk _ h2,h3,h4⟩
 |false=>
  simp only[Aq];obtain⟨hv,hs,eE⟩:=ak.2.1 t l c rfl;have av:∀e,mem e s.live=true->e≠nm:=λe he h=>by subst h;rw[he]at hm;cases hm
  have cP:=hp.tip c hc;have h2:=hr.fresh hU nm (g'.G c) (g'.Gs c) (by rw[aX];exact cP) (λe b he lx dX er=>by
   rcases cc e he with h1|⟨c',h1,h2,h3,h4⟩
   ·obtain⟨h5,h6⟩:=h1 b er;rcases hp.mine c b hc dX with h7|h7
    ·omega
    ·exact h6 h7
   ·rw[h3]at er;exact hp.disj c c' b hc h1 (Bo (iJ e he hm c' h2 h4)) dX er) (λb dX=>hB b (hp.mine c b hc dX))
  have aw:∀e,mem e (s.fresh nm).live=true↔e=nm\/mem e s.live=true:=λe=>by
   simp only[St.fresh];rw[mem_cons,O1];constructor
   ·rintro(rfl|⟨h3,_⟩)
    ·exact .inl rfl
    ·exact .inr h3
   ·rintro(rfl|h3)
    ·exact .inl rfl
    ·exact .inr ⟨h3,av e h3⟩
  have hG:∀e,e≠nm->(g1.put nm (g'.G c) (g'.Gs c)).G e=g1.G e:=λe he=>by simp[Gh.put,he]
  have cW:∀e,e≠nm->(g1.put nm (g'.G c) (g'.Gs c)).Gs e=g1.Gs e:=λe he=>by simp[Gh.put,he]
  refine⟨g1.put nm (g'.G c) (g'.Gs c),h2,aX,⟨?_,λt1 l1 d1 he=>?_,λ_ _ he=>by(cases he)⟩,λe he=>?_,λe he=>⟨hG e (av e he),cW e (av e he),(aw e).2 (.inr he)⟩,λe he=>?_⟩
  ·show CRep E.U w' g1.wm (.sl t l (some nm)) v;rw[aX];exact ak.1.own _
  ·simp only[Leaf.sl.injEq,Be]at he;obtain⟨rfl,_,rfl⟩:=he;exact⟨by rw[hv];simp[Gh.put],by rw[hs];simp[Gh.put],eE⟩
  ·rcases (aw e).1 he with rfl|lr
   ·exact .inr ⟨c,hc,o7,by simp[Gh.put],λh0=>⟨e,fh h0,he⟩⟩
   ·rcases cc e lr with h1|⟨c',h1,h3,h4,h5⟩
    ·exact .inl λb hb=>h1 b (by rw[hG e (av e lr)]at hb;exact hb)
    ·refine .inr ⟨c',h1,vk _ h3,by rw[hG e (av e lr)];exact h4,λh0=>?_⟩;obtain⟨d,ma,fj⟩:=h5 h0;exact⟨d,ma,(aw d).2 (.inr fj)⟩
  ·obtain⟨_,_,dN⟩:=((Leaf.has_iff e _).1 he).resolve_right (λ⟨o,h⟩=>by cases h);simp only[Leaf.sl.injEq,Be]at dN;rw[<-dN.2.2];exact(aw nm).2 (.inl rfl)
theorem B8X(hU:E.U.Ok){Bc:Bs}{g' g1:Gh}{ent:Ent Ty den}{v0:Value}{w':World}(hp:Post E.U Bc g' ent v0 w')(hr:Rel E.U B g1 s a w')(aX:g1.wm=g'.wm)
  (hB:∀b,Bc.w.heap.size<=b\/Bc.M b->B.w.heap.size<=b\/B.M b){X:Nat->Prop}{p:Ak}{dst:Ak}{j:Nat}(hX:∀c,X c->j+1<c)(cc:X0 Bc g' g1 ent p (λc=>c<=j\/X c) s)
  {lf:Leaf Ty den}{v:Value}(ak:LRep E.U w' g' lf v)(hc:∀c,lf.has c=true->ent.has c=true):
  ∃g2,Rel E.U B g2 (P1 dst p j s lf).2 a w'/\g2.wm=g'.wm/\LRep E.U w' g2 (P1 dst p j s lf).1 v/\X0 Bc g' g2 ent p (λc=>c<=j+1\/X c) (P1 dst p j s lf).2/\
   (∀e,mem e s.live=true->g2.G e=g1.G e/\g2.Gs e=g1.Gs e/\mem e (P1 dst p j s lf).2.live=true)/\(∀e,(P1 dst p j s lf).1.has e=true->mem e (P1 dst p j s lf).2.live=true):=by
 have keep:∀{lf':Leaf Ty den},LRep E.U w' g1 lf' v->(∀e,lf'.has e=false)->P1 dst p j s lf=(lf',s)->
   ∃g2,Rel E.U B g2 (P1 dst p j s lf).2 a w'/\g2.wm=g'.wm/\LRep E.U w' g2 (P1 dst p j s lf).1 v/\X0 Bc g' g2 ent p (λc=>c<=j+1\/X c) (P1 dst p j s lf).2/\
   (∀e,mem e s.live=true->g2.G e=g1.G e/\g2.Gs e=g1.Gs e/\mem e (P1 dst p j s lf).2.live=true)/\(∀e,(P1 dst p j s lf).1.has e=true->mem e (P1 dst p j s lf).2.live=true):=by
  intro lf' hl cY he;rw[he];refine⟨g1,hr,aX,hl,λe he=>?_,λe he=>⟨rfl,rfl,he⟩,λe he=>by rw[cY e]at he;cases he⟩;rcases cc e he with h1|⟨c',h1,h2,h3,h4⟩
  ·exact .inl h1
  ·exact .inr ⟨c',h1,h2.imp Ey id,h3,h4⟩
 have closed:∀{t:Ty}{l:List (den t)}{x:Ak},lf=.sl t l x->LRep E.U w' g1 (.sl t l none) v:=λhe=>by
  subst he;exact⟨by rw[aX];exact ak.1.own none,λ_ _ _ he=>by(simp at he),λ_ _ he=>by(cases he)⟩
 cases lf with
 |sl t l x=>
  cases x with
  |none=>exact keep (closed rfl) (λe=>rfl) rfl
  |some c=>
   cases c with
   |zero=>
    cases p with
    |none=>exact keep (closed rfl) (λe=>rfl) rfl
    |some d=>
     simp only[P1];exact B25 (c:=0) hU hp hr aX hB cc (λc h=>h.imp Ey id) ak (hc 0 (by simp[Leaf.has])) (.inl (Bj _)) (λe he hm c' cq h0 ow=>by
      obtain⟨d',h1,h2⟩:=h0 ow;cases h1;rw[h2]at hm;cases hm) (λ_=>rfl)
   |succ i=>
    by_cases cn:i=j
    ·subst cn;simp only[P1,H3,Ap];exact B25 (c:=i+1) hU hp hr aX hB cc (λc h=>h.imp Ey id) ak (hc (i+1) (by simp[Leaf.has])) (.inl (Bf _)) (λe he hm c' cq h0 ow=>cq.elim (λh1=>by omega) (λh1=>by have:=hX _ h1;omega)) (λh=>by cases h)
    ·refine keep (closed rfl) (λe=>rfl) ?_;simp only[P1,K0 cn,Aq]
 |any=>exact keep ⟨.any v,λ_ _ _ h=>by(cases h),λ_ _ h=>by(cases h)⟩ (λe=>rfl) rfl
 |ptr d o=>exact keep ⟨.any v,λ_ _ _ h=>by(cases h),λ_ _ h=>by(cases h)⟩ (λe=>rfl) rfl
 |_=>exact keep ⟨by rw[aX];exact ak.1,λ_ _ _ h=>by(cases h),λ_ _ h=>by(cases h)⟩ (λe=>rfl) rfl
theorem B2v(hU:E.U.Ok){Bc:Bs}{g':Gh}{ent:Ent Ty den}{v0:Value}{w':World}(hp:Post E.U Bc g' ent v0 w')(hB:∀b,Bc.w.heap.size<=b\/Bc.M b->B.w.heap.size<=b\/B.M b){X:Nat->Prop}{p:Ak}{dst:Ak}:
  ∀(ls:List (Leaf Ty den))(vs:Ai)(j:Nat)(s:St Ty den)(g1:Gh),Rel E.U B g1 s a w'->g1.wm=g'.wm->(∀c,X c->j+ls.length<c)->X0 Bc g' g1 ent p (λc=>c<=j\/X c) s->LsRep E.U w' g' ls vs->(∀lf∈ls,∀c,lf.has c=true->ent.has c=true)->
  ∃g2,Rel E.U B g2 (S9 dst p j s ls).2 a w'/\g2.wm=g'.wm/\LsRep E.U w' g2 (S9 dst p j s ls).1 vs/\(∀e,mem e s.live=true->g2.G e=g1.G e/\g2.Gs e=g1.Gs e/\mem e (S9 dst p j s ls).2.live=true)/\(∀lf∈(S9 dst p j s ls).1,∀e,lf.has e=true->mem e (S9 dst p j s ls).2.live=true)/\X0 Bc g' g2 ent p (λc=>c<=j+ls.length\/X c) (S9 dst p j s ls).2
 |[],[],j,s,g1,hr,aX,hX,cc,_,_=>⟨g1,hr,aX,trivial,λ_ h=>⟨rfl,rfl,h⟩,λlf hl=>by simp[S9]at hl,cc⟩
 |lf::ls,v::vs,j,s,g1,hr,aX,hX,cc,ak,hc=>by
  obtain⟨g2,h1,h2,h3,h4,h5,h6⟩:=B8X (dst:=dst) hU hp hr aX hB (λc h=>by(have:=hX c h;simp only[Ck]at this;omega)) cc ak.1 (hc lf (by simp));obtain⟨g3,k1,k2,k3,k4,k5,k6⟩:=B2v hU hp hB (dst:=dst) ls vs (j+1) _ g2 h1 h2 (λc h=>by(have:=hX c h;simp only[Ck]at this;omega)) h4 ak.2 (λl hl=>hc l (by simp[hl]));simp only[S9];refine⟨g3,k1,k2,⟨⟨?_,λt1 l1 d1 he=>?_,λd1 o1 he=>?_⟩,k3⟩,λe he=>?_,λl0 cH e he=>?_,by(rw[show j+(lf::ls).length=j+1+ls.length by(simp only[Ck];omega)];exact k6)⟩
  ·rw[k2, <-h2];exact h3.1
  ·have hl:=h6 d1 ((Leaf.has_iff d1 _).2 (.inl ⟨t1,l1,he⟩));obtain⟨e1,e2,_⟩:=k4 d1 hl;rw[e1,e2];exact h3.2.1 t1 l1 d1 he
  ·have hl:=h6 d1 ((Leaf.has_iff d1 _).2 (.inr ⟨o1,he⟩));obtain⟨e1,e2,_⟩:=k4 d1 hl;rw[e1];exact h3.2.2 d1 o1 he
  ·obtain⟨e1,e2,e3⟩:=h5 e he;obtain⟨f1,f2,f3⟩:=k4 e e3;exact⟨f1.trans e1,f2.trans e2,f3⟩
  ·simp only[Dn]at cH;rcases cH with rfl|cH
   ·exact(k4 e (h6 e he)).2.2
   ·exact k5 l0 cH e he
theorem B8k(hU:E.U.Ok){Bc:Bs}{g' g1:Gh}{ent:Ent Ty den}{v:Value}{w':World}(hp:Post E.U Bc g' ent v w')(hr:Rel E.U B g1 s a w')(aX:g1.wm=g'.wm)
  (hB:∀b,Bc.w.heap.size<=b\/Bc.M b->B.w.heap.size<=b\/B.M b){p:Ak}{dst:Ak}
  (dq:∀e b,mem e s.live=true->spare (g1.G e)=some b->b<Bc.w.heap.size/\¬Bc.M b)
  (h:(match ent with
   | .one l=>k (.one (P1 dst p 0 s l).1) (P1 dst p 0 s l).2
   | .tup r=>k (.tup (S9 dst p 0 s r).1) (S9 dst p 0 s r).2
   |_=>none)=some r) (hd:∀i,o.dst=some i->i<a.tmps.size/\B.np<=i) (hn:H4 E B o a k r next):next (a.put o.dst v) w':=by
 have cc:X0 Bc g' g1 ent p (λc=>c<=0\/False) s:=λe he=>.inl λb hb=>dq e b he hb;have ak:=hp.rep;cases ent with
 |one l=>
  obtain⟨g2,h1,h2,h3,_⟩:=B8X (dst:=dst) hU hp hr aX hB (X:=λ_=>False) (λc h=>h.elim) cc ak (λc hc=>hc);exact hn _ _ _ _ h (REL.setO h1 (e:=.one _) h3 rfl _ hd)
 |tup ls=>
  obtain⟨vs,hv,mN⟩:=ak;obtain⟨g2,h1,h2,h3,_⟩:=B2v (dst:=dst) hU hp hB (X:=λ_=>False) ls vs 0 s g1 hr aX (λc h=>h.elim) cc mN (λlf hl c hc=>by
   simp only[Ent.has,Gv];exact⟨lf,hl,hc⟩)
  exact hn _ _ _ _ h (REL.setO h1 (e:=.tup _) ⟨vs,hv,h3⟩ rfl _ hd)
 |iter c pos=>cases h
 |bx d' ls=>cases h
 |st ls=>cases h
theorem C7D(hU:E.U.Ok)(hS:∀f ls r,E.T f ls=some (true,r)->(∀args w,(Dw f args).run P w=.ok (.enter f args) w)/\A1U P E.U (λw1 m1=>Ext B.w B.wm w1 m1) f ls r)
  {c:Call}{f:Bi}(ag:o.op=.call c)(aq:c.callee=.value (.func f))(h:B4F E f c.argTypes.toList c.args.toList o.dst s k=some r)
  (hr:Rel E.U B g s a w)(hd:∀i,o.dst=some i->i<a.tmps.size/\B.np<=i)(hn:H4 E B o a k r next):o.wp P a w next Q:=by
 have bc:=A5h hr c.argTypes.toList c.args.toList;have fk:∀(aK:∀args w,(Dw f args).run P w=.ok (.enter f args) w),(Az a.eval o).run P w=.ok (.enter f (c.args.toList.map a.eval).toArray) w:=λaK=>by
  simp[Az,ag,Db,aq,Ds,Deferred.ofValue,Dc,aK];apply Eg;simp
 have mc:∀{Rr:Ending->World->Prop},(∀args w,(Dw f args).run P w=.ok (.enter f args) w)->Calls P f (c.args.toList.map a.eval).toArray w Rr->(∀e w',Rr e w'->∃v,e=.returned v/\next (a.put o.dst v) w')->o.wp P a w next Q:=λaK hc hq=>by
  unfold Er;rw[fk aK,Oper.upon_enter];refine hc.mono λe w' dL=>?_;obtain⟨v,rfl,hv⟩:=hq e w' dL;exact hv
 have o8:∀e b,mem e s.live=true->spare (g.G e)=some b->b<w.heap.size:=λe b he hs=>by
  obtain⟨a0,len,cap,hv,_,cq⟩:=hr.tip e he;rw[hv]at hs;simp only[spare]at hs;split at hs
  ·rename_i a1 l1 c1 bN;cases bN;split at hs
   ·cases hs
   ·rename_i cX;rcases cq with h3|⟨b',off,c,e,fz,ha,hb,_⟩
    ·exact absurd h3 cX
    ·cases ha;simp at hs;subst hs;exact(Bw.1 hb).1
  ·cases hs
 unfold B4F at h;dsimp only at h;generalize hL:Q5 E s c.argTypes.toList c.args.toList=ls at h bc;split at h
 ·
  cases iZ:E.T f (F8 ls)with
  |none=>rw[iZ]at h;cases h
  |some nf=>
   obtain⟨gd,ent⟩:=nf;rw[iZ]at h;cases gd with
   |false=>exfalso;cases ent<;>cases h
   |true=>
   obtain⟨aK,ja⟩:=hS f _ _ iZ;have hc:=ja w g (c.args.toList.map a.eval) hr.ext hr.zero (LsRep.close bc) (λh1=>by rw[A8c]at h1;cases h1) (λlf hl d dM=>by
    obtain⟨l0,rfl⟩:=A6e hl;rw[A5L]at dM;cases dM)
   rw[A8c]at hc;refine mc aK hc ?_;rintro e w' ⟨v,g',rfl,hp⟩;refine⟨v,rfl,?_⟩;have dv:=hr.world hU (w':=w') (wm':=g'.wm) hp.os hp.tape hp.output hp.size hp.ext (λ_=>False) (λb e=>e.elim) (λ_ _ _ _=>.inl λe=>e) (λb e=>e.elim) (λb hb _=>hp.frame b hb (λe=>by cases e.1)) hp.zero;refine B8k (p:=none) (dst:=o.dst) hU hp dv rfl (λb hb=>?_) (λe b he hs=>⟨o8 e b he hs,λe=>by cases e.1⟩) ?_ hd hn
   ·rcases hb with hb|hb
    ·exact .inl (Cv hr.size hb)
    ·cases hb.1
   ·cases ent<;>exact h
 ·
  rename_i p zk;cases jb:ls.getD p .any with
  |sl t l x=>
   cases x with
   |none=>rw[jb]at h;cases h
   |some d=>
    rw[jb]at h;obtain⟨dl,h'⟩:=B8 h;cases iZ:E.T f ((F8 ls).set p (.sl t l (some 0)))with
    |none=>rw[iZ]at h';cases h'
    |some nf=>
     obtain⟨gd,ent⟩:=nf;rw[iZ]at h';cases gd with
     |false=>exfalso;cases ent<;>cases h'
     |true=>
     obtain⟨aK,ja⟩:=hS f _ _ iZ;have ng:p<ls.length:=by
      rcases Bu p ls.length with h1|h1
      ·exact h1
      ·rw[Gr,Do h1]at jb;cases jb
     have so:ls[p]?=some (.sl t l (some d)):=by
      rw[Gr,Bh ng]at jb;simp at jb;rw[Bh ng,jb]
     obtain⟨vp,wT,mf⟩:=bc.get so;obtain⟨lw,rj,eE⟩:=mf.2.1 t l d rfl;have sp:Ext w g.wm w (g.put 0 (g.G d) (g.Gs d)).wm:=⟨A6X rfl,λ_ _ _=>rfl,λ_=>Bf _⟩;have sq:LsRep E.U w (g.put 0 (g.G d) (g.Gs d)) (F8 ls) (c.args.toList.map a.eval):=by
      exact LsRep.closed_any (g:=g) (g':=g.put 0 (g.G d) (g.Gs d)) rfl (LsRep.close bc)
     have hc:=ja w (g.put 0 (g.G d) (g.Gs d)) (c.args.toList.map a.eval) hr.ext hr.zero (sq.set p (.sl t l (some 0)) (λv hv=>by
       rw[wT]at hv;cases hv;refine⟨mf.1.own _,λt1 l1 d1 he=>?_,λ_ _ he=>by(cases he)⟩;simp only[Leaf.sl.injEq,Be]at he;obtain⟨rfl,_,rfl⟩:=he;exact⟨by rw[lw];simp[Gh.put],by rw[rj];simp[Gh.put],eE⟩))
      (λ_=>by simpa [Gh.put]using hr.tip d dl) (λlf hl d' dM=>D1n hl d' dM)
     rw[C2a ls p t l ng]at hc;have wU:(g.put 0 (g.G d) (g.Gs d)).G 0=g.G d:=by simp[Gh.put]
     rw[wU]at hc;refine mc aK hc ?_;rintro e w' ⟨v,g',rfl,hp⟩;refine⟨v,rfl,?_⟩;have hk:=hr.kill hU d;have jL:∀e b,mem e (s.kill d).live=true->spare (g.G e)=some b->spare (g.G d)≠some b:=λe b he hs=>by
      have dN:=(O1 d e s.live).1 he;exact hr.disj e d b dN.1 dl dN.2 hs
     have dv:=hk.world hU (w':=w') (wm':=g'.wm) hp.os hp.tape hp.output hp.size hp.ext (λb=>spare (g.G d)=some b) (λb hb=>by
       obtain⟨a0,len,cap,hv,_,cq⟩:=hr.tip d dl;rw[hv]at hb;simp only[spare]at hb;split at hb
       ·rename_i a1 l1 c1 bN;cases bN;split at hb
        ·cases hb
        ·rename_i cX;rcases cq with h3|⟨b',off,c,e,fz,ha,aY,_⟩
         ·exact absurd h3 cX
         ·cases ha;simp at hb;subst hb;exact⟨_,_,_,aY⟩
       ·cases hb)
      (λe b he hs=>.inl (jL e b he hs)) (λb hb=>hr.mine d b dl hb) (λb hb hM=>hp.frame b hb λh=>hM h.2) hp.zero
     refine B8k (p:=some d) (dst:=o.dst) hU hp dv rfl (λb hb=>?_) (λe b he hs=>⟨o8 e b ((O1 d e s.live).1 he).1 hs,λh=>jL e b he hs h.2⟩) ?_ hd hn
     ·rcases hb with hb|hb
      ·exact .inl (Cv hr.size hb)
      ·exact hr.mine d b dl hb.2
     ·cases ent<;>exact h'
  |_=>rw[jb]at h;cases h
end
end Go.Aev
end
section
open Go.Lib
namespace Go.Aev
variable {Ty:Type}{den:Ty->Type}
section
variable {U:UO Ty den}{B:Bs}{g:Gh}{s:St Ty den}{a:Act}{w:World}
theorem Rel.setBx(h:Rel U B g s a w){d:Nat}{ls:List (Leaf Ty den)}(hb:BoxOk U w g d ls)(hl:mem d s.live=true):Rel U B g (s.set (bxi d) (.bx d ls)) a w:=by
 refine{h with ent:=λi=>?_,iter:=λi c pos hc=>?_,idis:=λi j c p c' p' cn h1 h2=>?_,bxl:=λi e bL hc=>?_}
 ·rw[K5];by_cases hi:bxi d=i
  ·rw[Au hi];exact hb
  ·rw[At hi];exact h.ent i
 ·rw[K5]at hc;by_cases hi:bxi d=i
  ·rw[Au hi]at hc;cases hc
  ·rw[At hi]at hc;exact h.iter i c pos hc
 ·rw[K5]at h1 h2;by_cases hi:bxi d=i
  ·rw[Au hi]at h1;cases h1
  ·by_cases hj:bxi d=j
   ·rw[Au hj]at h2;cases h2
   ·rw[At hi]at h1;rw[At hj]at h2;exact h.idis i j c p c' p' cn h1 h2
 ·rw[K5]at hc;by_cases hi:bxi d=i
  ·rw[Au hi]at hc;cases hc;exact⟨hl,hi.symm⟩
  ·rw[At hi]at hc;exact h.bxl i e bL hc
theorem Rel.setSame(h:Rel U B g s a w){d:Nat}{e:Ent Ty den}(he:ERep U w g e (a.tmps.getD d undef))(hi:e.isIter=false):Rel U B g (s.set d e) a w:=by
 refine{h with ent:=λi=>?_,iter:=λi c pos hc=>?_,idis:=λi j c p c' p' cn h1 h2=>?_,bxl:=λi e2 bL hc=>?_}
 ·rw[K5];by_cases hi:d=i
  ·rw[Au hi];subst hi;exact he
  ·rw[At hi];exact h.ent i
 ·rw[K5]at hc;by_cases cC:d=i
  ·rw[Au cC]at hc;subst hc;cases hi
  ·rw[At cC]at hc;exact h.iter i c pos hc
 ·rw[K5]at h1 h2;by_cases cC:d=i
  ·rw[Au cC]at h1;subst h1;cases hi
  ·by_cases jp:d=j
   ·rw[Au jp]at h2;subst h2;cases hi
   ·rw[At cC]at h1;rw[At jp]at h2;exact h.idis i j c p c' p' cn h1 h2
 ·rw[K5]at hc;by_cases cC:d=i
  ·rw[Au cC]at hc;subst hc;cases hi
  ·rw[At cC]at hc;exact h.bxl i e2 bL hc
theorem Rel.noBx(h:Rel U B g s a w)(d:Nat):Rel U B g (s.set (bxi d) (.one .any)) a w:=by
 refine h.weaken (λi=>?_) (λ_ hd=>hd) (λi e ls _ hd=>hd);rw[K5];by_cases hi:bxi d=i
 ·rw[Au hi];exact .inl rfl
 ·rw[At hi];exact .inr rfl
theorem Rel.poke(hU:U.Ok)(h:Rel U B g s a w){d b:Nat}(hl:mem d s.live=true)(hG:spare (g.G d)=some b)(cY:∀i ls,s.get i≠ .bx d ls)(aX:g.wm b=0){w':World}{c c':Array Value}{e:Ax}{fz:Nat×Nat}
  (hb:w.heap[b]?=some (.cells c e fz))(aY:w'.heap[b]?=some (.cells c' e fz))(ct:c'.size=c.size)(iW:w'.os=w.os)(cJ:w'.tape=w.tape)(dC:w'.output=w.output)(ao:w'.heap.size=w.heap.size)(ci:∀k,k≠b->w'.heap[k]?=w.heap[k]?):
  Rel U B g s a w'/\Ext w g.wm w' g.wm:=by
 have hx:Ext w g.wm w' g.wm:=⟨A67 hb aY ci,λk off ho=>by
  by_cases hk:k=b
  ·subst hk;omega
  ·exact Bq (a:=⟨k,off,none⟩) (ci k hk),λ_=>Bf _⟩
 refine⟨{os:=iW.trans h.os,tape:=cJ.trans h.tape,output:=dC.trans h.output,size:=by rw[ao];exact h.size,frame:=λk hk hM=>?_,ext:=h.ext.trans hx,zero:=λk hk=>h.zero k (by rw[<-ao];exact hk),ent:=λi=>ERep.same (g':=g) hU hx rfl rfl (h.ent i) (λc1 pos hc k hv=>ci k ?_) (λd' ls hc k hs=>ci k ?_),tip:=λf hf=>?_,disj:=h.disj,mine:=h.mine,iter:=h.iter,idis:=h.idis,defers:=h.defers,bxl:=h.bxl,pin:=h.pin},hx⟩
 ·have:k≠b:=λe1=>by
   subst e1;rcases h.mine d k hl hG with h1|h1
   ·omega
   ·exact hM h1
  rw[ci k this];exact h.frame k hk hM
 ·intro e1;subst e1;have he:=h.ent i;rw[hc]at he;obtain⟨b',da,dt⟩:=he;rw[hv]at da;cases da;rw[hb]at dt;cases dt
 ·intro e1;subst e1;have av:d'≠d:=λe2=>by subst e2;exact cY i ls hc
  exact h.disj d' d k (h.bxl i d' ls hc).1 hl av hs hG
 ·obtain⟨a0,len,cap,hv,aZ,gJ⟩:=h.tip f hf;refine⟨a0,len,cap,hv,aZ,?_⟩;by_cases cX:cap=0
  ·exact .inl cX
  obtain⟨b',off,c1,e1,fL,ha,o9,r1,r2,r3⟩:=gJ.resolve_left cX;by_cases fU:b'=b
  ·subst fU;rw[hb]at o9;cases o9;exact .inr ⟨b',off,c',e,fz,ha,aY,by rw[ct];exact r1,r2,r3⟩
  ·exact .inr ⟨b',off,c1,e1,fL,ha,by rw[ci b' fU];exact o9,r1,r2,r3⟩
end
section
variable {E:Env Ty den}{B:Bs}{g:Gh}{s:St Ty den}{a:Act}{w:World}
variable {P:Bg}{R:Type}{o:Oper}{k:Ent Ty den->St Ty den->Option R}{r:R}{next:Act->World->Prop}{Q:Exit->Act->World->Prop}
variable (hT:∀t,P8 P E.U t (E.tb t))(hU:E.U.Ok)(hZ:∀t zs,E.zr t=some zs->A2h P E.U t zs)
theorem C2o{e:Nat}(nm:Nat):∀(zs:List (Leaf Ty den))(j:Nat)(s:St Ty den),mem e s.live=true->mem e (A5s nm j s zs).live=true
 |[],j,s,h=>h
 |l::zs,j,s,h=>by
  simp only[A5s];refine C2o nm zs (j+1) _ ?_;rcases B0y l with⟨t,rfl⟩|⟨_,h2,_⟩
  ·simp only[nlS,St.fresh];rw[mem_cons,O1];by_cases he:bo nm j=e
   ·exact .inl he
   ·exact .inr ⟨h,λh=>he h.symm⟩
  ·rw[h2];exact h
theorem D2W{U:UO Ty den}{g:Gh}{w:World}{nm b n:Nat}{l l':Leaf Ty den}{u:Value}(he:A6h nm l=l')(h:LRep U w g l u)(hG:g.G nm=.slice (some ⟨b,0,none⟩) 0 n)(dz:A9Y U w b):LRep U w g l' u:=by
 subst he;unfold A6h;split
 ·have hc:=h.1;cases hc with
  |val v=>exact⟨.pt _ _ _,λ_ _ _ he=>by(cases he),λd o he=>by(cases he;exact⟨b,n,hG,.inr (.inl ⟨rfl,dz,.inl rfl⟩)⟩)⟩
 ·exact h
theorem B1A(q:Bool)(nm:Nat)(ls:List (Leaf Ty den)):(A5a q nm ls).length=ls.length:=by cases q<;>simp[A5a]
theorem C3P{q:Bool}{nm j:Nat}{ls:List (Leaf Ty den)}{lf:Leaf Ty den}(h:(A5a q nm ls)[j]?=some lf):∃l0,ls[j]?=some l0/\((q=true/\A6h nm l0=lf)\/l0=lf):=by
 cases q with
 |false=>exact⟨lf,h,.inr rfl⟩
 |true=>
  have h':(ls.map (A6h nm))[j]?=some lf:=h;rw[Bn]at h';obtain⟨l0,h1,h2⟩:=Cj.1 h';exact⟨l0,h1,.inl ⟨rfl,h2⟩⟩
theorem C31{U:UO Ty den}{g:Gh}{w:World}{t nm b n:Nat}{c:Array Value}{fz:Nat×Nat}{l l':Leaf Ty den}{u:Value}(he:(Aw t U.bty=true/\A6h nm l=l')\/l=l')(h:LRep U w g l u)(hG:g.G nm=.slice (some ⟨b,0,none⟩) 0 n)(dz:w.heap[b]?=some (.cells c t fz)):LRep U w g l' u:=by
 rcases he with⟨h1,h2⟩|rfl
 ·have:=(F6 _ _).1 h1;subst this;exact D2W h2 h hG ⟨c,fz,dz⟩
 ·exact h
include hU hZ in
theorem D1U{t:Ax}(ag:o.op=.alloc t)(h:A8 E o s k=some r)(hr:Rel E.U B g s a w)(hd:∀i,o.dst=some i->i<a.tmps.size/\B.np<=i)(hn:H4 E B o a k r next):o.wp P a w next Q:=by
 simp only[A8,ag]at h;split at h
 ·rename_i i zs aO dG;have bV:0<zs.length:=by
   cases pb:E.oz i with
   |true=>rw[pb]at h;simpa [Cb]using (B8 h).1
   |false=>rw[pb]at h;simpa [Cb]using (B8 h).1
  obtain⟨ie,z,e1,e2,e3,e4,e5⟩:=hZ t zs dG;have af:(Az a.eval o).run P w=.ok (.value (.pointer (some ⟨w.heap.size,0,none⟩))) (w.alloc (.cells z.cells t)):=by
   simp[Az,ag,Instr.alloc,zeroValue,Bp,e1,e3,newVar,Cn]
  have h1:=hr.alloc hU (.cells z.cells t) 0 (w.alloc (.cells z.cells t)) rfl rfl rfl rfl;have bE:(w.alloc (.cells z.cells t)).heap[w.heap.size]?=some (.cells z.cells t):=by
   have hp:(w.alloc (.cells z.cells t)).heap=w.heap.push (.cells z.cells t):=rfl;rw[hp];simp
  have aX:C7 g.wm w.heap.size 0 w.heap.size=0:=by simp[C7]
  generalize dx:C6 (some i)=nm at*;have h2:=h1.fresh hU nm (.slice (some ⟨w.heap.size,0,none⟩) 0 zs.length) 1
   ⟨_,0,zs.length,rfl,Bj _,.inr ⟨w.heap.size,0,z.cells,t,(0,0),rfl,bE,by omega,by(show C7 g.wm w.heap.size 0 w.heap.size=_;rw[aX]),Bj _⟩⟩
   (λe b he av hs er=>by
    simp only[spare]at hs;rw[At (by omega)]at hs;cases hs;have:=hr.tip e he;obtain⟨c,e',fz,hc⟩:=A5y this er;have:=(Bw.1 hc).1;omega) (λb hs=>by
    simp only[spare]at hs;rw[At (by omega)]at hs;cases hs;exact .inl hr.size)
  have aw:mem nm (s.fresh nm).live=true:=by simp only[St.fresh];rw[mem_cons];exact .inl rfl
  have bU:BoxOk E.U (w.alloc (.cells z.cells t)) (({g with wm:=C7 g.wm w.heap.size 0}:Gh).put nm (.slice (some ⟨w.heap.size,0,none⟩) 0 zs.length) 1) nm zs:=by
   refine BoxOk.ex w.heap.size (by simp[Gh.put]) bV (by simp[Gh.put]) λj lf hj=>?_;obtain⟨u,u1,u2,u3,u4,_⟩:=e5 j lf hj;refine⟨u,?_,u2,u3,u4 _ _⟩;unfold Br;dsimp only;rw[bE];simpa using u1
  cases pb:E.oz i with
  |true=>
   rw[pb]at h;obtain⟨_,h⟩:=B8 (show(bif _ then _ else none)=some r from h);obtain⟨q1,q2⟩:=B7f E.U (w.alloc (.cells z.cells t)) nm zs z.cells.toList 0 (({g with wm:=C7 g.wm w.heap.size 0}:Gh).put nm (.slice (some ⟨w.heap.size,0,none⟩) 0 zs.length) 1) (by simp[e4]) (λi lf u hi hu=>by
    obtain⟨uu,u1,u2,u3,u4,u5⟩:=e5 i lf hi;rw[Cs,u1]at hu;cases hu;exact⟨u4 _,u5⟩)
   obtain⟨p1,p2⟩:=B1a E.U nm zs 0 (({g with wm:=C7 g.wm w.heap.size 0}:Gh).put nm (.slice (some ⟨w.heap.size,0,none⟩) 0 zs.length) 1);obtain⟨p3,p4⟩:=p2 nm (λj _=>by unfold bo;omega);have h4:=B6L hU nm zs 0 _ _ h2;have pc:BoxOk E.U (w.alloc (.cells z.cells t)) (A09 E.U nm 0 (({g with wm:=C7 g.wm w.heap.size 0}:Gh).put nm (.slice (some ⟨w.heap.size,0,none⟩) 0 zs.length) 1) zs) nm (A5a (Aw t E.U.bty) nm (A0R nm 0 zs)):=by
    refine BoxOk.ex w.heap.size (by rw[B1A,q1,p3];simp[Gh.put]) (by rw[B1A,q1];exact bV) (by rw[p4];simp[Gh.put]) λj lf hj=>?_;obtain⟨mg,hj,ss⟩:=C3P hj;have bA:j<zs.length:=by rw[<-q1];exact I7 hj
    obtain⟨u,u1,u2,u3,u4,_⟩:=e5 j _ (Bh bA);have hq:=q2 j mg u hj (by rw[Cs];exact u1);refine⟨u,?_,u2,u3,C31 (b:=w.heap.size) (n:=zs.length) ss hq (by rw[p3];simp[Gh.put]) bE⟩;unfold Br;dsimp only;rw[bE];simpa using u1
   have h5:=h4.setBx pc (C2o _ _ _ _ aw);refine N4 af (hn _ _ _ _ h ?_);rw[aO]at hd ⊢;exact REL.setO h5 (e:=.one (.ptr nm 0)) ⟨.pt _ _ _,λ_ _ _ he=>by(cases he),λd' o2 he=>by(cases he;exact⟨w.heap.size,zs.length,by rw[p3];simp[Gh.put],.inl ⟨rfl,by decide⟩⟩)⟩ rfl (some i) hd
  |false=>
  rw[pb]at h;obtain⟨_,h⟩:=B8 (show(bif _ then _ else none)=some r from h);have h3:=h2.setBx bU aw;refine N4 af (hn _ _ _ _ h ?_);rw[aO]at hd ⊢;exact REL.setO h3 (e:=.one (.ptr nm 0)) ⟨.pt _ _ _,λ_ _ _ he=>by(cases he),λd' o2 he=>by(cases he;exact⟨w.heap.size,zs.length,by simp[Gh.put],.inl ⟨rfl,by decide⟩⟩)⟩ rfl (some i) hd
 ·cases h
theorem D6Z(hU:E.U.Ok){n:Nat}{l:Leaf Ty den}{ys:List (Leaf Ty den)}(h:cellsOf E n l.close=some ys){j:Nat}{lf:Leaf Ty den}(hj:ys[j]?=some lf):lf.close=lf:=by
 have bG:∀l0:Leaf Ty den,l0.close=l0->(bif A7t l0&&Aw n 1 then some [l0]else none)=some ys->lf.close=lf:=λl0 h0 h1=>by
  obtain⟨_,h9⟩:=B8 h1;cases h9;cases j with
  |zero=>simp at hj;subst hj;exact h0
  |succ j=>simp at hj
 cases l with
 |agg u y=>
  obtain⟨_,h9⟩:=B8 h;cases h9;exact hU.closed u y lf (Cw hj)
 |_=>first|exact bG _ rfl h|(simp[cellsOf,Leaf.close,A7t]at h)
include hU hZ in
theorem D7L{t:Ax}{x:Ba}(ag:o.op=.box t x)(h:A8 E o s k=some r)(hr:Rel E.U B g s a w)(hd:∀i,o.dst=some i->i<a.tmps.size/\B.np<=i)(hn:H4 E B o a k r next):o.wp P a w next Q:=by
 simp only[A8,ag]at h;split at h
 ·rename_i i zs aO dG;obtain⟨ie,z,e1,e2,e3,e4,e5⟩:=hZ t zs dG;split at h
  ·rename_i ys nh;obtain⟨hc,h⟩:=B8 h;simp only[Bm,Cb]at hc;obtain⟨_,gH,bV⟩:=hc;have gH:=(F6 _ _).1 gH;have aK:=A3J hr t x;rw[nh]at aK;obtain⟨vs,hv,cT,aW⟩:=aK;have mP:=cT.length;have af:(Az a.eval o).run P w=.ok (.value (.pointer (some ⟨w.heap.size,0,none⟩))) (w.alloc (.cells vs.toArray t)):=by
    simp[Az,ag,Gy,newVar,Cn,hv,Dk]
   have bE:(w.alloc (.cells vs.toArray t)).heap[w.heap.size]?=some (.cells vs.toArray t):=by
    have hp:(w.alloc (.cells vs.toArray t)).heap=w.heap.push (.cells vs.toArray t):=rfl;rw[hp];simp
   have h1:=hr.alloc hU (.cells vs.toArray t) 0 (w.alloc (.cells vs.toArray t)) rfl rfl rfl rfl;have aX:C7 g.wm w.heap.size 0 w.heap.size=0:=by simp[C7]
   have hx:Ext w g.wm (w.alloc (.cells vs.toArray t)) (C7 g.wm w.heap.size 0):=by
    refine⟨A0Y rfl,λb off ho=>?_,λb=>?_⟩
    ·rcases Bu b w.heap.size with h2|h2
     ·refine Bq (a:=⟨b,off,none⟩) ?_;have hp:(w.alloc (.cells vs.toArray t)).heap=w.heap.push (.cells vs.toArray t):=rfl;rw[hp,Cm,At (by show¬b=w.heap.size;omega)]
     ·rw[hr.zero b h2]at ho;omega
    ·unfold C7;by_cases hb:b=w.heap.size
     ·subst hb;rw[Au rfl,hr.zero _ (Bf _)];exact Bj _
     ·rw[At hb];exact Bf _
   generalize dx:C6 (some i)=nm at*;have h2:=h1.fresh hU nm (.slice (some ⟨w.heap.size,0,none⟩) 0 zs.length) 1
    ⟨_,0,zs.length,rfl,Bj _,.inr ⟨w.heap.size,0,vs.toArray,t,(0,0),rfl,bE,by simp;omega,by(show C7 g.wm w.heap.size 0 w.heap.size=_;rw[aX]),Bj _⟩⟩
    (λe b he av hs er=>by
     simp only[spare]at hs;rw[At (by omega)]at hs;cases hs;have:=hr.tip e he;obtain⟨c,e',fz,hc⟩:=A5y this er;have:=(Bw.1 hc).1;omega) (λb hs=>by
     simp only[spare]at hs;rw[At (by omega)]at hs;cases hs;exact .inl hr.size)
   have aw:mem nm (s.fresh nm).live=true:=by simp only[St.fresh];rw[mem_cons];exact .inl rfl
   have bU:BoxOk E.U (w.alloc (.cells vs.toArray t)) (({g with wm:=C7 g.wm w.heap.size 0}:Gh).put nm (.slice (some ⟨w.heap.size,0,none⟩) 0 zs.length) 1) nm (A5a (Aw t E.U.bty) nm (ys.map (·.strip nm))):=by
    refine BoxOk.ex w.heap.size (by rw[B1A];simp[Gh.put,gH]) (by rw[B1A];simp;omega) (by simp[Gh.put]) λj lf hj=>?_;obtain⟨l1,iK,su⟩:=C3P hj;rw[Bn]at iK;obtain⟨l0,cH,rfl⟩:=Cj.1 iK;obtain⟨u,u1,u2⟩:=cT.get cH;obtain⟨k1,k2⟩:=aW u (Cw u1);refine⟨u,?_,k1,k2,C31 (b:=w.heap.size) (n:=zs.length) su (LRep.step (g:=g) hU (d:=nm) hx (by
     constructor
     ·intro e he;simp[Gh.put,he]
     ·intro e he;simp[Gh.put,he]) u2) (by simp[Gh.put]) bE⟩
    unfold Br;dsimp only;rw[bE];simpa using u1
   have h3:=h2.setBx bU aw;refine N4 af (hn _ _ _ _ h ?_);rw[aO]at hd ⊢;exact REL.setO h3 (e:=.one (.ptr nm 0)) ⟨.pt _ _ _,λ_ _ _ he=>by(cases he),λd' o2 he=>by(cases he;exact⟨w.heap.size,zs.length,by simp[Gh.put],.inl ⟨rfl,by decide⟩⟩)⟩ rfl (some i) hd
  split at h
  ·rename_i ys lY;have bK:LRep E.U w g (opl E s t x).close (a.eval x):=LRep.closed (H7 hr t x).1;obtain⟨c1,c2,c3⟩:=B3Y hU lY bK;have af:(Az a.eval o).run P w=.ok (.value (.pointer (some ⟨w.heap.size,0,none⟩))) (w.alloc (.cells (a.eval x).cells t)):=by
    simp[Az,ag,Gy,newVar,Cn]
   have bE:(w.alloc (.cells (a.eval x).cells t)).heap[w.heap.size]?=some (.cells (a.eval x).cells t):=by
    have hp:(w.alloc (.cells (a.eval x).cells t)).heap=w.heap.push (.cells (a.eval x).cells t):=rfl;rw[hp];simp
   have aJ:∀(j:Nat) u,(a.eval x).cells[j]?=some u->(w.alloc (.cells (a.eval x).cells t)).cell? ⟨w.heap.size,j,none⟩=some u:=λj u hj=>by
    unfold Br;dsimp only;rw[bE];simpa using hj
   cases jq:E.mb i with
   |true=>
    rw[jq]at h;simp only[Ap]at h;obtain⟨bV,h⟩:=B8 h;have bV:0<zs.length:=by simpa [Cb]using bV
    have h1:=hr.alloc hU (.cells (a.eval x).cells t) 0 (w.alloc (.cells (a.eval x).cells t)) rfl rfl rfl rfl;have aX:C7 g.wm w.heap.size 0 w.heap.size=0:=by simp[C7]
    have hx:Ext w g.wm (w.alloc (.cells (a.eval x).cells t)) (C7 g.wm w.heap.size 0):=by
     refine⟨A0Y rfl,λb off ho=>?_,λb=>?_⟩
     ·rcases Bu b w.heap.size with h2|h2
      ·refine Bq (a:=⟨b,off,none⟩) ?_;have hp:(w.alloc (.cells (a.eval x).cells t)).heap=w.heap.push (.cells (a.eval x).cells t):=rfl;rw[hp,Cm,At (by show¬b=w.heap.size;omega)]
      ·rw[hr.zero b h2]at ho;omega
     ·unfold C7;by_cases hb:b=w.heap.size
      ·subst hb;rw[Au rfl,hr.zero _ (Bf _)];exact Bj _
      ·rw[At hb];exact Bf _
    generalize dx:C6 (some i)=nm at*;have h2:=h1.fresh hU nm (.slice (some ⟨w.heap.size,0,none⟩) 0 zs.length) 1
     ⟨_,0,zs.length,rfl,Bj _,.inr ⟨w.heap.size,0,(a.eval x).cells,t,(0,0),rfl,bE,by omega,by(show C7 g.wm w.heap.size 0 w.heap.size=_;rw[aX]),Bj _⟩⟩
     (λe b he av hs er=>by
      simp only[spare]at hs;rw[At (by omega)]at hs;cases hs;have:=hr.tip e he;obtain⟨c,e',fz,hc⟩:=A5y this er;have:=(Bw.1 hc).1;omega) (λb hs=>by
      simp only[spare]at hs;rw[At (by omega)]at hs;cases hs;exact .inl hr.size)
    have aw:mem nm (s.fresh nm).live=true:=by simp only[St.fresh];rw[mem_cons];exact .inl rfl
    have bU:BoxOk E.U (w.alloc (.cells (a.eval x).cells t)) (({g with wm:=C7 g.wm w.heap.size 0}:Gh).put nm (.slice (some ⟨w.heap.size,0,none⟩) 0 zs.length) 1) nm ys:=by
     refine BoxOk.ex w.heap.size (by simp[Gh.put,c2]) (by omega) (by simp[Gh.put]) λj lf hj=>?_;obtain⟨u,u1,u2,u3,u4⟩:=c3 j lf hj;have ez:lf.close=lf:=D6Z hU lY hj;refine⟨u,aJ j u u1,u2,u3,?_⟩;have:=LRep.closed (U:=E.U) (w:=w.alloc (.cells (a.eval x).cells t)) (g:=(({g with wm:=C7 g.wm w.heap.size 0}:Gh).put nm (.slice (some ⟨w.heap.size,0,none⟩) 0 zs.length) 1)) (lf:=lf) (v:=u) (u4.1.mono hU hx);rw[ez]at this;exact this
    have h3:=h2.setBx bU aw;refine N4 af (hn _ _ _ _ h ?_);rw[aO]at hd ⊢;exact REL.setO h3 (e:=.one (.ptr nm 0)) ⟨.pt _ _ _,λ_ _ _ he=>by(cases he),λd' o2 he=>by(cases he;exact⟨w.heap.size,zs.length,by simp[Gh.put],.inl ⟨rfl,by decide⟩⟩)⟩ rfl (some i) hd
   |false=>
    rw[jq]at h;simp only[Aq]at h;split at h
    ·rename_i u y wV;obtain⟨ao,h⟩:=B8 h;have ao:=(F6 _ _).1 ao;rw[wV]at lY;obtain⟨_,h9⟩:=B8 (show(bif Aw (E.U.size u) zs.length then some (E.U.cells u y)else none)=some ys from lY);cases h9;have h1:=hr.alloc hU (.cells (a.eval x).cells t) (E.U.size u) (w.alloc (.cells (a.eval x).cells t)) rfl rfl rfl rfl;have hx:Ext w g.wm (w.alloc (.cells (a.eval x).cells t)) (C7 g.wm w.heap.size (E.U.size u)):=by
      refine⟨A0Y rfl,λb off ho=>?_,λb=>?_⟩
      ·rcases Bu b w.heap.size with h2|h2
       ·refine Bq (a:=⟨b,off,none⟩) ?_;have hp:(w.alloc (.cells (a.eval x).cells t)).heap=w.heap.push (.cells (a.eval x).cells t):=rfl;rw[hp,Cm,At (by show¬b=w.heap.size;omega)]
       ·rw[hr.zero b h2]at ho;omega
      ·unfold C7;by_cases hb:b=w.heap.size
       ·subst hb;rw[Au rfl,hr.zero _ (Bf _)];exact Bj _
       ·rw[At hb];exact Bf _
     refine N4 af (hn _ _ _ _ h ?_);refine REL.setO h1 (e:=.one (.elem u y 0)) ⟨?_,λ_ _ _ he=>by(cases he),λ_ _ he=>by(cases he)⟩ rfl _ hd;refine CRep.elem (U:=E.U) u y 0 w.heap.size 0 (λj=>((a.eval x).cells[j]?).getD undef) (by simp[C7]) (λj lf hj=>?_) (λj lf hj=>?_)
     ·obtain⟨uu,u1,_,_,u4⟩:=c3 j lf hj;rw[Et];show _=some (((a.eval x).cells[j]?).getD undef);rw[u1];exact aJ j uu u1
     ·obtain⟨uu,u1,_,_,u4⟩:=c3 j lf hj;show CRep _ _ _ lf (((a.eval x).cells[j]?).getD undef);rw[u1];exact u4.1.mono hU hx
    ·cases h
  ·cases h
 ·cases h
theorem C9W{x:Ba}(ag:o.op=.nilCheck x)(h:A8 E o s k=some r)(hr:Rel E.U B g s a w)(hd:∀i,o.dst=some i->i<a.tmps.size/\B.np<=i)(hn:H4 E B o a k r next):o.wp P a w next Q:=by
 simp only[A8,ag]at h;have bK:=H7 hr 0 x;split at h
 ·rename_i u y off hx;rw[hx]at bK;generalize hv:a.eval x=v at bK;have hc:=bK.1;cases hc with
  |elem _ _ _ b o' cs aX aJ ak=>
   exact G7 (e:=.one (.elem u y off)) (v:=.pointer (some ⟨b,o'+off,none⟩)) hr hd hn h bK rfl (by simp[Az,ag,hv])
 ·rename_i d off hx;rw[hx]at bK;obtain⟨b,m,hG,hv⟩:=bK.2.2 d off rfl;obtain⟨bM,h⟩:=B8 h;have hv:=hv.at bM;exact G7 (e:=.one (.ptr d off)) hr hd hn h bK rfl (by simp[Az,ag,hv])
 ·cases h
include hU hZ in
theorem D6d{t:Ax}{x y:Ba}(ag:o.op=.store t x y)(h:A8 E o s k=some r)(hr:Rel E.U B g s a w)(hd:∀i,o.dst=some i->i<a.tmps.size/\B.np<=i)(hn:H4 E B o a k r next):o.wp P a w next Q:=by
 simp only[A8,ag]at h;split at h
 ·rename_i d off n ni hx dz;have cL:∀(ls ys:List (Leaf Ty den)),O6 s d=some ls->((a.eval y).cells.size=n/\ys.length=n/\∀(j:Nat) y0,ys[j]?=some y0->∃u,(a.eval y).cells[j]?=some u/\u.oneCell'=true/\u.cells= #[u]/\LRep E.U w g y0 u)->off+n<=ls.length->Ay off 1000000=true->k (.one .any) (s.set (bxi d) (.bx d (Y8 ls off ys)))=some r->o.wp P a w next Q:=by
   intro ls ys bc wW aZ bM h;obtain⟨zs,dG,wX⟩:∃zs,E.zr t=some zs/\zs.length=n:=by
    unfold tyN at dz;split at dz
    ·rename_i zs dG;exact⟨zs,dG,Ca dz⟩
    ·cases dz
   obtain⟨ie,z,e1,e2,e3,e4,e5⟩:=hZ t zs dG;have bK:=H7 hr 0 x;rw[hx]at bK;obtain⟨bU,aw,zl⟩:=A2I hr bc;obtain⟨b,nb,hG,hv,bV,cW,aN⟩:=A64 bM bK bU;obtain⟨c1,c2,c3⟩:=wW;have bf:spare (g.G d)=some b:=by rw[hG];simp only[spare];rw[At (by omega)]
   obtain⟨a0,len,cap,eu,_,gJ⟩:=hr.tip d aw;rw[hG]at eu;cases eu;obtain⟨b',jc,c,e,fz,ha,hb,r1,r2,r3⟩:=gJ.resolve_left (by omega);cases ha;rw[cW]at r1 r2;have aX:g.wm b=0:=by rw[r2]
   obtain⟨s1,⟨c',s2,s3,s4,s5⟩,s6,s7,s8,s9,ju⟩:=A5i P b e fz (a.eval y).cells.toList off w c hb (by simp[c1];omega) (λj _ h2=>by omega) (λv da=>by
    obtain⟨j,hj,rfl⟩:=Ea da;have ou:j<ys.length:=by simp at hj;omega
    obtain⟨u,u1,u2,_⟩:=c3 j _ (Bh ou);have:(a.eval y).cells.toList[j]=u:=by
     have h5:(a.eval y).cells.toList[j]?=some u:=by simpa using u1
     rw[Bh hj]at h5;exact Ca h5
    rw[this];exact u2)
   have cO:=s1 ⟨b,off,none⟩ 0 rfl (Bj _);obtain⟨bO,vl⟩:=(hr.noBx d).poke hU (d:=d) (b:=b) aw bf (λi l hc=>by
    rw[K5]at hc;by_cases hi:bxi d=i
    ·rw[Au hi]at hc;cases hc
    ·rw[At hi]at hc;exact hi (hr.bxl i d l hc).2.symm) aX (w':=I5 w b off (a.eval y).cells.toList) hb s2 s3 s8 s9 ju s6 s7
   obtain⟨m1,m2⟩:=B13 ls off ys (by omega);have bE:BoxOk E.U (I5 w b off (a.eval y).cells.toList) g d (Y8 ls off ys):=by
    refine⟨b,nb,hG,by rw[m1];exact bV,cW,λj lf hj=>?_⟩;rw[m2,c2]at hj;by_cases cE:off<=j/\j<off+n
    ·rw[Au cE]at hj;obtain⟨u,u1,u2,u3,u4⟩:=c3 _ _ hj;refine⟨u,?_,u2,u3,u4.same hU vl rfl rfl⟩;have:=s5 (j - off) u (by simpa using u1);rw[show off+(j - off)=j by omega]at this;simp[Br,s2,this]
    ·rw[At cE]at hj;obtain⟨u,u1,u2,u3,u4⟩:=aN j lf hj;refine⟨u,?_,u2,u3,u4.same hU vl rfl rfl⟩;have h6:=s4 j (by simp[c1];omega);simp only[Br,hb]at u1;simp only[Br,s2,h6];exact u1
   have h3:=bO.setBx bE aw;have bN:∀i,((s.set (bxi d) (.one .any)).set (bxi d) (.bx d (Y8 ls off ys))).get i=(s.set (bxi d) (.bx d (Y8 ls off ys))).get i:=λi=>by
    rw[K5,K5,K5];by_cases hi:bxi d=i
    ·rw[Au hi,Au hi]
    ·rw[At hi,At hi,At hi]
   have h4:Rel E.U B g (s.set (bxi d) (.bx d (Y8 ls off ys))) a (I5 w b off (a.eval y).cells.toList):=h3.weaken (λi=>.inr (bN i).symm) (λ_ hd=>hd) (λ_ _ _ _ hd=>hd);have ao:(Ce t).run P w=.ok n w:=by simp[Ce,Bp,e1,e2,wX]
   have af:(Az a.eval o).run P w=.ok .skip (I5 w b off (a.eval y).cells.toList):=by
    simp[Az,ag,hv,Instr.storeAt,Cy,storeVar,ao,c1,cO]
   unfold Er;rw[af,Oper.upon_skip];have:=hn (.one .any) _ undef _ h (by rw[ni];exact⟨g,h4⟩);rw[ni]at this ⊢;exact this
  split at h
  ·rename_i ys nh;have aK:=A3J hr t y;rw[nh]at aK;obtain⟨vs,hv,cT,aW⟩:=aK;have mP:=cT.length;split at h
   ·rename_i ls bc;obtain⟨hc,h⟩:=B8 h;simp only[Bm]at hc;have wY:=(F6 _ _).1 hc.1;refine cL ls ys bc ⟨by rw[hv];simp[Dk];omega,wY,λj y0 hj=>?_⟩ (Dm hc.2.1) hc.2.2 h;obtain⟨u,u1,u2⟩:=cT.get hj;obtain⟨k1,k2⟩:=aW u (Cw u1);exact⟨u,by rw[hv];simpa [Dk]using u1,k1,k2,u2⟩
   ·cases h
  ·split at h
   ·rename_i ls ys bc lY;obtain⟨aZ,h⟩:=B8 h;rw[Bm]at aZ;exact cL ls ys bc (B3Y hU lY (H7 hr t y)) (Dm aZ.1) aZ.2 h
   ·cases h
 ·cases h
end
end Go.Aev
end
section
open Go.Lib
namespace Go.Aev
variable {Ty:Type}{den:Ty->Type}
def F1:Nat->St Ty den->List By->List (Nat×Nat)
 |_,_,[]=>[]
 |j,s,.tmp t::r=>match s.get t with
  | .one (.sl _ _ (some d))=>bif mem d s.live then(bif Aw d 0 then 0 else j+1,d)::F1 (j+1) (s.kill d) r else F1 (j+1) (s.kill d) r
  |_=>F1 (j+1) s r
 |j,s,.cell _ _::r=>F1 (j+1) s r
theorem A3e{s:St Ty den}{d e:Nat}:mem e (s.kill d).live=true↔mem e s.live=true/\e≠d:=O1 d e s.live
theorem A89:∀(rs:List By)(j:Nat)(s:St Ty den),
  (∀c d,(c,d)∈F1 j s rs->mem d s.live=true/\((c=0/\d=0)\/(j+1<=c/\d≠0)))/\
  (∀c d c' d',(c,d)∈F1 j s rs->(c',d')∈F1 j s rs->(c=c'↔d=d'))
 |[],j,s=>⟨λc d h=>by simp[F1]at h,λc d c' d' h=>by simp[F1]at h⟩
 | .cell _ _::r,j,s=>by
  obtain⟨h1,h2⟩:=A89 r (j+1) s;simp only[F1];exact⟨λc d h=>by obtain⟨k1,k2⟩:=h1 c d h;exact⟨k1,k2.imp id λk3=>⟨by omega,k3.2⟩⟩,h2⟩
 | .tmp t::r,j,s=>by
  have skip:∀(s':St Ty den),(∀e,mem e s'.live=true->mem e s.live=true)->F1 j s (.tmp t::r)=F1 (j+1) s' r->
    (∀c d,(c,d)∈F1 j s (.tmp t::r)->mem d s.live=true/\((c=0/\d=0)\/(j+1<=c/\d≠0)))/\(∀c d c' d',(c,d)∈F1 j s (.tmp t::r)->(c',d')∈F1 j s (.tmp t::r)->(c=c'↔d=d')):=by
   intro s' hl he;obtain⟨h1,h2⟩:=A89 r (j+1) s';rw[he];exact⟨λc d h=>by obtain⟨k1,k2⟩:=h1 c d h;exact⟨hl d k1,k2.imp id λk3=>⟨by omega,k3.2⟩⟩,h2⟩
  cases hg:s.get t with
  |one l=>
   cases l with
   |sl t0 x o=>
    cases o with
    |none=>exact skip s (λ_ h=>h) (by simp only[F1,hg])
    |some d=>
     cases hm:mem d s.live with
     |false=>exact skip (s.kill d) (λ_ h=>(A3e.1 h).1) (by simp only[F1,hg,hm,Aq])
     |true=>
      obtain⟨h1,h2⟩:=A89 r (j+1) (s.kill d);have he:F1 j s (.tmp t::r)=(bif Aw d 0 then 0 else j+1,d)::F1 (j+1) (s.kill d) r:=by simp only[F1,hg,hm,Ap]
      rw[he];have hc:((bif Aw d 0 then 0 else j+1)=0/\d=0)\/(j+1<=(bif Aw d 0 then 0 else j+1)/\d≠0):=by
       by_cases h0:d=0
       ·subst h0;left;exact⟨by simp[H3],rfl⟩
       ·right;rw[K0 h0];exact⟨by simp,h0⟩
      have mh:∀c' d',(c',d')∈F1 (j+1) (s.kill d) r->(bif Aw d 0 then 0 else j+1)≠c'/\d≠d':=by
       intro c' d' h';obtain⟨k1,k2⟩:=h1 c' d' h';have k3:=(A3e.1 k1).2;refine⟨?_,Bo k3⟩;rcases hc with⟨e1,e2⟩|⟨e1,e2⟩
       ·rw[e1];rcases k2 with⟨f1,f2⟩|⟨f1,f2⟩
        ·exact absurd (f2.trans e2.symm) k3
        ·omega
       ·have e3:(bif Aw d 0 then 0 else j+1)=j+1:=by rw[K0 e2];rfl
        rw[e3];rcases k2 with⟨f1,f2⟩|⟨f1,f2⟩
        ·omega
        ·omega
      refine⟨λc d' h=>?_,λc d1 c' d2 h h'=>?_⟩
      ·simp only[Dn,Dl]at h;rcases h with⟨rfl,rfl⟩|h
       ·exact⟨hm,hc⟩
       ·obtain⟨k1,k2⟩:=h1 c d' h;exact⟨(A3e.1 k1).1,k2.imp id λk3=>⟨by omega,k3.2⟩⟩
      ·simp only[Dn,Dl]at h h';rcases h with⟨rfl,rfl⟩|h
       ·rcases h' with⟨rfl,rfl⟩|h'
        ·simp
        ·obtain⟨k1,k2⟩:=mh c' d2 h';exact⟨λe=>absurd e k1,λe=>absurd e k2⟩
       ·rcases h' with⟨rfl,rfl⟩|h'
        ·obtain⟨k1,k2⟩:=mh c d1 h;exact⟨λe=>absurd e.symm k1,λe=>absurd e.symm k2⟩
        ·exact h2 c d1 c' d2 h h'
   |_=>exact skip s (λ_ h=>h) (by simp only[F1,hg])
  |tup ls=>exact skip s (λ_ h=>h) (by simp only[F1,hg])
  |st ls=>exact skip s (λ_ h=>h) (by simp only[F1,hg])
  |iter c p=>exact skip s (λ_ h=>h) (by simp only[F1,hg])
  |bx d' ls=>exact skip s (λ_ h=>h) (by simp only[F1,hg])
section
variable {U:UO Ty den}{B:Bs}{g:Gh}{s:St Ty den}{a:Act}{w:World}
def PackRep(U:UO Ty den)(w:World)(g:Gh)(N:List (Nat×Nat)):List (Leaf Ty den)->Ai->Prop
 |[],[]=>True
 |l::ls,v::vs=>(CRep U w g.wm l v/\(∀t x c,l=.sl t x (some c)->∃d,(c,d)∈N/\v=g.G d/\U.size t=g.Gs d/\TyB U w t v)/\∀c o,l=.ptr c o->∃d b n,(c,d)∈N/\g.G d=.slice (some ⟨b,0,none⟩) 0 n/\PtrAt U w b n o v)/\PackRep U w g N ls vs
 |_,_=>False
theorem PackRep.mono{N N':List (Nat×Nat)}(h:∀p∈N,p∈N'):∀{ls:List (Leaf Ty den)}{vs:Ai},PackRep U w g N ls vs->PackRep U w g N' ls vs
 |[],[],_=>trivial
 |_::_,_::_,hp=>⟨⟨hp.1.1,λt x c he=>by(obtain⟨d,h1,h2⟩:=hp.1.2.1 t x c he;exact⟨d,h _ h1,h2⟩),λc o he=>by(obtain⟨d,b,n,h1,h2⟩:=hp.1.2.2 c o he;exact⟨d,b,n,h _ h1,h2⟩)⟩,PackRep.mono h hp.2⟩
 |[],_::_,hp=>hp.elim
 |_::_,[],hp=>hp.elim
theorem PackRep.append{N:List (Nat×Nat)}:∀{ls bL:List (Leaf Ty den)}{vs ox:Ai},PackRep U w g N ls vs->PackRep U w g N bL ox->PackRep U w g N (ls++bL) (vs++ox)
 |[],_,[],_,_,h=>h
 |_::_,_,_::_,_,hp,h=>⟨hp.1,PackRep.append hp.2 h⟩
 |[],_,_::_,_,hp,_=>hp.elim
 |_::_,_,[],_,hp,_=>hp.elim
structure B2L(a:Act)(f:By->Sem Value):Prop where
 tmp:∀t,f (.tmp t)=pure (a.tmps.getD t undef)
 cell:∀t ty,f (.cell t ty)=do Cf ty (<-asAddr (a.tmps.getD t undef))
def A3q(U:UO Ty den):Prop:=∀t ls x,U.dcx t ls=some x->ls.length=U.size t/\∀(w:World)(wm:Nat->Nat)(cs:Nat->Value),(∀(j:Nat) lf,ls[j]?=some lf->CRep U w wm lf (cs j))->∀(j:Nat) lf,(U.cells t x)[j]?=some lf->CRep U w wm lf (cs j)
theorem C1p{U:UO Ty den}(hU:U.Ok)(hX:A3q U){u:Ty}:∀{n:Nat}{ls:List (Leaf Ty den)}{l:List (den u)},A8h U u n ls=some l->l.length=n/\∀(w:World)(wm:Nat->Nat)(cs:Nat->Value),(∀(j:Nat) lf,ls[j]?=some lf->CRep U w wm lf (cs j))->∀(j:Nat) lf,(flat U u l)[j]?=some lf->CRep U w wm lf (cs j)
 |0,ls,l,h=>by
  simp only[A8h,Be]at h;subst h;exact⟨rfl,λ_ _ _ _ j lf hj=>by simp[flat]at hj⟩
 |n+1,ls,l,h=>by
  simp only[A8h]at h;split at h
  ·rename_i x r hx hr;cases h;obtain⟨h1,h2⟩:=hX u _ x hx;obtain⟨h3,h4⟩:=C1p hU hX hr;refine⟨by simp[h3],λw wm cs hc j lf hj=>?_⟩;have aj:=hU.len u x;rw[show flat U u (x::r)=U.cells u x++flat U u r from rfl]at hj;by_cases bA:j<U.size u
   ·rw[Cq (by omega)]at hj;exact h2 w wm cs (λi lf' hi=>by
     rw[De]at hi;split at hi
     ·exact hc i lf' hi
     ·cases hi) j lf hj
   ·rw[Cx (by omega),aj]at hj;have:=h4 w wm (λi=>cs (U.size u+i)) (λi lf' hi=>hc _ lf' (by rw[Dg]at hi;exact hi)) (j - U.size u) lf hj;rw[show U.size u+(j - U.size u)=j by omega]at this;exact this
  ·cases h
theorem C81{E:Env Ty den}{P:Bg}(hT:∀t,P8 P E.U t (E.tb t))(hU:E.U.Ok)(hX:A3q E.U)(hr:Rel E.U B g s a w){ty:Ax}{l l':Leaf Ty den}{v:Value}(hx:LRep E.U w g l v)(h:B38 E s ty l=some l'):
  ∃ad v',v=.pointer (some ad)/\(Cf ty ad).run P w=.ok v' w/\CRep E.U w g.wm l' v'/\∃u z,l'=.agg u z:=by
 unfold B38 at h;split at h
 ·rename_i u pl d off ht;obtain⟨fs,ie,z0,h1,_,h3,h4,_⟩:=A2S hT ht;have fT:=B5p (P:=P) h1 w;split at h
  ·rename_i ls bc;obtain⟨bM,h⟩:=B8 h;obtain⟨bU,_,_⟩:=A2I hr bc;obtain⟨b,nb,hG,hv,bV,cW,aN⟩:=A64 bM hx bU;have cL:∀(u':Ty)(z:den u'),E.U.size u'=E.U.size u->(F8 ((ls.drop off).take (E.U.size u))).length=E.U.size u->
     (∀cs:Nat->Value,(∀(j:Nat) lf,(F8 ((ls.drop off).take (E.U.size u)))[j]?=some lf->CRep E.U w g.wm lf (cs j))->∀(j:Nat) lf,(E.U.cells u' z)[j]?=some lf->CRep E.U w g.wm lf (cs j))->
     ∃ad v',v=.pointer (some ad)/\(Cf ty ad).run P w=.ok v' w/\CRep E.U w g.wm (.agg u' z) v':=λu' z ao rq eF=>by
    have aL:∀(j:Nat) lf,(F8 ((ls.drop off).take (E.U.size u)))[j]?=some lf->∃l0,ls[off+j]?=some l0/\lf=l0.close:=λj lf hj=>by
     rw[A9C,De,Dg]at hj;split at hj
     ·obtain⟨l0,h5,rfl⟩:=Cj.1 hj;exact⟨l0,h5,rfl⟩
     ·cases hj
    have ct:∀(j:Nat) lf,(F8 ((ls.drop off).take (E.U.size u)))[j]?=some lf->w.cell? ⟨b,off+j,none⟩=some ((w.cell? ⟨b,off+j,none⟩).getD undef)/\CRep E.U w g.wm lf ((w.cell? ⟨b,off+j,none⟩).getD undef):=λj lf hj=>by
     obtain⟨l0,h5,rfl⟩:=aL j lf hj;obtain⟨uu,u1,_,_,u4⟩:=aN _ _ h5;rw[u1];exact⟨rfl,u4.1.close⟩
    have cK:(Co ⟨b,off,none⟩ (E.U.size u)).run P w=.ok ((Ch (E.U.size u)).map λj=>(w.cell? ⟨b,off+j,none⟩).getD undef).toArray w:=
     Ek w _ _ _ λj hj=>by rw[Ci];exact(ct j _ (Bh (by omega))).1
    refine⟨_,.agg ((Ch (E.U.size u)).map λj=>(w.cell? ⟨b,off+j,none⟩).getD undef).toArray,hv,by simp[Cf,fT,Ce,Bp,h3,h4,cK],.agg u' z _ (by simp[ao]) _ (λj lf hj=>?_) (eF _ λj lf hj=>(ct j lf hj).2)⟩;have bA:=I7 hj;rw[hU.len,ao]at bA;rw[Bn,Df bA];rfl
   split at h
   ·rename_i u' _;obtain⟨hs,h⟩:=B8 h;have hs:=(F6 _ _).1 hs;obtain⟨z,hz,rfl⟩:=Cj.1 h;obtain⟨q1,q2⟩:=hX u' _ z hz;obtain⟨ad,v',e1,e2,e3⟩:=cL u' z hs (by rw[q1,hs]) (q2 w g.wm);exact⟨ad,v',e1,e2,e3,u',z,rfl⟩
   ·obtain⟨z,hz,rfl⟩:=Cj.1 h;have rf:=hU.dec _ _ _ hz;obtain⟨ad,v',e1,e2,e3⟩:=cL u z rfl (by rw[<-rf,hU.len]) (λcs hc=>by rw[rf];exact hc);exact⟨ad,v',e1,e2,e3,u,z,rfl⟩
  ·cases h
 ·cases h
theorem D6V(E:Env Ty den)(d:Nat)(ls:List (Leaf Ty den))(fr:List (Nat×Ent Ty den))(i:Nat):look (A58 E d ls fr) i=A3D E d ls (look fr i):=by
 induction fr with
 |nil=>rfl
 |cons p r ih=>
  simp only[A58,look];cases Aw p.1 i with
  |true=>rfl
  |false=>exact ih
theorem D1v{E:Env Ty den}(hU:E.U.Ok)(hX:A3q E.U)(hr:Rel E.U B g s a w){d:Nat}{ls:List (Leaf Ty den)}(bc:O6 s d=some ls):∃g',Rel E.U B g' {fr:=A58 E d ls s.fr,live:=rem d s.live} a w:=by
 obtain⟨bU,aw,aL⟩:=A2I hr bc;obtain⟨b,n,hG,⟨cH,rq,_⟩,cW,aN⟩:=bU;have bf:spare (g.G d)=some b:=by rw[hG];simp only[spare];rw[At (by omega)]
 obtain⟨a0,len,cap,eu,_,gJ⟩:=hr.tip d aw;rw[hG]at eu;cases eu;obtain⟨b',jc,c,e2,fz,ha,hb,r1,r2,r3⟩:=gJ.resolve_left (by omega);cases ha;rw[cW]at r1 r2;have aX:g.wm b=0:=by rw[r2]
 have oQ:=(Bw.1 hb).1;have av:∀k,k≠b->C7 g.wm b ls.length k=g.wm k:=λk hk=>by simp only[C7];rw[At hk]
 have hx:Ext w g.wm w (C7 g.wm b ls.length):=⟨A6X rfl,λ_ _ _=>rfl,λk=>by
  by_cases hk:k=b
  ·subst hk;rw[aX];exact Bj _
  ·rw[av k hk];exact Bf _⟩
 have sx:g.off {g with wm:=C7 g.wm b ls.length} d:=⟨λ_ _=>rfl,λ_ _=>rfl⟩;have jM:∀{lf:Leaf Ty den}{v:Value},LRep E.U w g lf v->LRep E.U w {g with wm:=C7 g.wm b ls.length} (A4X E d ls lf) v:=by
  intro lf v h;have cO:=LRep.step hU (g':={g with wm:=C7 g.wm b ls.length}) hx sx h;have fY:LRep E.U w {g with wm:=C7 g.wm b ls.length} .any v:=LRep.any v;cases lf with
  |ptr e off=>
   simp only[A4X];by_cases he:e=d
   ·subst he;rw[H3];simp only[Ap];rw[show Bl 1000000000 off=isR (.ptr 0 off:Leaf Ty den)from rfl];cases ho:isR (.ptr 0 off:Leaf Ty den)with
    |false=>exact fY
    |true=>
     simp only[Ap];split
     ·rename_i u hu;cases hg:Aw (E.U.size u) (rS off)&&Bl (rN off*rS off) ls.length with
      |false=>exact fY
      |true=>
       simp only[Ap];split
       ·rename_i l hl;rw[Bm]at hg;have hs:=(F6 _ _).1 hg.1;have aZ:=Dm hg.2;obtain⟨b2,n2,h1,h2⟩:=h.2.2 e off rfl;rw[hG]at h1;cases h1;obtain⟨c2,rfl,hJ,eT⟩:=h2.row (Dm ho);obtain⟨k1,k2⟩:=C1p hU hX hl;rw[<-k1]at hJ aZ ⊢;have ct:∀(j:Nat) lf,(F8 ls)[j]?=some lf->CRep E.U w (C7 g.wm b ls.length) lf ((w.cell? ⟨b,j,none⟩).getD undef):=λj lf hj=>by
         rw[A9C]at hj;obtain⟨l0,h5,rfl⟩:=Cj.1 hj;obtain⟨uu,u1,_,_,u4⟩:=aN j l0 h5;rw[u1];exact u4.1.close.mono hU hx
        have cS:=A0S hU u l;refine⟨.sl u l none b 0 c2 (λj=>(w.cell? ⟨b,j,none⟩).getD undef) hJ (by show _<=C7 g.wm b ls.length b;simp only[C7,Au];rw[hs];omega) (λj lf hj=>?_) (k2 w _ _ ct),λ_ _ _ he=>by(cases he),λ_ _ he=>by(cases he)⟩;have bA:=I7 hj;rw[cS,hs]at bA;obtain⟨uu,u1,_⟩:=aN j _ (Bh (by omega));rw[Et,u1];rfl
       ·exact fY
     ·exact fY
   ·rw[K0 he];simp only[Leaf.strip,K0 he]at cO;exact cO
  |_=>exact cO
 have pd:∀{xs:List (Leaf Ty den)}{vs:Ai},LsRep E.U w g xs vs->LsRep E.U w {g with wm:=C7 g.wm b ls.length} (xs.map (A4X E d ls)) vs:=by
  intro xs
  induction xs with
  |nil=>
   intro vs h;cases vs with
   |nil=>trivial
   |cons v vs=>exact h.elim
  |cons x xs ih=>
   intro vs h;cases vs with
   |nil=>exact h.elim
   |cons v vs=>exact⟨jM h.1,ih h.2⟩
 have db:∀i,({fr:=A58 E d ls s.fr,live:=rem d s.live}:St Ty den).get i=A3D E d ls (s.get i):=λi=>D6V E d ls s.fr i;have sy:∀e,mem e s.live=true->e≠d->spare (g.G e)≠some b:=λe he fM h=>hr.disj e d b he aw fM h bf;refine⟨{g with wm:=C7 g.wm b ls.length},{hr with frame:=λk hk hM=>?_,ext:=hr.ext.trans hx,zero:=λk hk=>?_,ent:=λi=>?_,tip:=λe he=>?_,disj:=λe f k he hf=>hr.disj e f k ((O1 d e _).1 he).1 ((O1 d f _).1 hf).1,mine:=λe k he=>hr.mine e k ((O1 d e _).1 he).1,iter:=λi c pos hc=>?_,idis:=λi j c p c' p' cn h1 h2=>?_,bxl:=λi e xs hc=>?_}⟩
 ·have wZ:k≠b:=λh=>by
   subst h;rcases hr.mine d k aw bf with h|h
   ·omega
   ·exact hM h
  have:=hr.frame k hk hM;exact⟨this.1,(av k wZ).trans this.2⟩
 ·exact(av k (by omega)).trans (hr.zero k hk)
 ·rw[db];have he:=hr.ent i;cases hc:s.get i with
  |one l=>rw[hc]at he;exact jM he
  |tup xs=>rw[hc]at he;obtain⟨vs,h1,h2⟩:=he;exact⟨vs,h1,pd h2⟩
  |st xs=>rw[hc]at he;obtain⟨vs,h1,h2,h3⟩:=he;exact⟨vs,h1,pd h2,h3⟩
  |iter c p=>rw[hc]at he;exact he
  |bx e xs=>
   rw[hc]at he;simp only[A3D];by_cases fM:e=d
   ·subst fM;rw[H3];exact ERep.any _ _ _
   ·rw[K0 fM];obtain⟨b1,n1,k1,k2,k3,k4⟩:=he;refine⟨b1,n1,k1,by simpa using k2,k3,λj lf hj=>?_⟩;rw[Bn]at hj;obtain⟨l0,cH,rfl⟩:=Cj.1 hj;obtain⟨u,u1,u2,u3,u4⟩:=k4 j l0 cH;exact⟨u,u1,u2,u3,jM u4⟩
 ·obtain⟨h1,h2⟩:=(O1 d e _).1 he;obtain⟨a1,l1,c1,hv,aZ,gJ⟩:=hr.tip e h1;refine⟨a1,l1,c1,hv,aZ,?_⟩;by_cases fh:c1=0
  ·exact .inl fh
  obtain⟨b1,o1,c3,e3,ru,ha,o9,q1,q2,q3⟩:=gJ.resolve_left fh;have pe:b1≠b:=λh=>sy e h1 h2 (by rw[hv,ha];simp[spare,fh,h]);exact .inr ⟨b1,o1,c3,e3,ru,ha,o9,q1,(av b1 pe).trans q2,by show ru.2<=C7 g.wm b ls.length b1;rw[av b1 pe];exact q3⟩
 ·rw[db]at hc;refine hr.iter i c pos ?_;cases hs:s.get i with
  |iter c' p'=>rw[hs]at hc;exact hc
  |bx e xs=>rw[hs]at hc;simp only[A3D]at hc;cases hb:Aw e d<;>rw[hb]at hc<;>cases hc
  |_=>rw[hs]at hc;cases hc
 ·have bG:∀{i c p},A3D E d ls (s.get i)=.iter c p->s.get i=.iter c p:=λ{i c p} hc=>by
   cases hs:s.get i with
   |iter c' p'=>rw[hs]at hc;exact hc
   |bx e xs=>rw[hs]at hc;simp only[A3D]at hc;cases hb:Aw e d<;>rw[hb]at hc<;>cases hc
   |_=>rw[hs]at hc;cases hc
  rw[db]at h1 h2;exact hr.idis i j c p c' p' cn (bG h1) (bG h2)
 ·rw[db]at hc;cases hs:s.get i with
  |bx e' jG=>
   rw[hs]at hc;simp only[A3D]at hc;by_cases fM:e'=d
   ·subst fM;rw[H3]at hc;cases hc
   ·rw[K0 fM]at hc;cases hc;obtain⟨h1,h2⟩:=hr.bxl i _ jG hs;exact⟨(O1 d _ _).2 ⟨h1,fM⟩,h2⟩
  |_=>rw[hs]at hc;cases hc
theorem B3q{E:Env Ty den}(hU:E.U.Ok)(hX:A3q E.U):∀(ds:Aj)(s:St Ty den)(g:Gh),Rel E.U B g s a w->∃g',Rel E.U B g' (A7B E ds s) a w
 |[],s,g,hr=>⟨g,hr⟩
 |d::ds,s,g,hr=>by
  simp only[A7B];split
  ·rename_i ls bc;obtain⟨g',h⟩:=D1v hU hX hr bc;exact B3q hU hX ds _ g' h
  ·exact B3q hU hX ds s g hr
theorem B0A{E:Env Ty den}{P:Bg}(hT:∀t,P8 P E.U t (E.tb t))(hU:E.U.Ok)(hX:A3q E.U):∀(rs:List By)(j:Nat)(s:St Ty den)(ls:List (Leaf Ty den)),X6 E j s rs=some ls->Rel E.U B g s a w->
  ∃vs,PackRep E.U w g (F1 j s rs) ls vs/\(∀f,B2L a f->(rs.mapM f).run P w=.ok vs w)/\Rel E.U B g (K1 s rs) a w
 |[],j,s,ls,h,hr=>by
  simp only[X6,Be]at h;subst h;exact⟨[],trivial,λf _=>rfl,hr⟩
 | .cell t ty::r,j,s,ls,h,hr=>by
  simp only[X6]at h;split at h
  ·rename_i l hg;split at h
   ·rename_i l' bL eb sA;cases h;have aK:=hr.ent t;rw[hg]at aK;obtain⟨ad,v',e1,e2,e3,u,z,rfl⟩:=C81 (P:=P) hT hU hX hr aK eb;obtain⟨vs,h1,h2,h3⟩:=B0A hT hU hX r (j+1) s bL sA hr;refine⟨v'::vs,⟨⟨e3,λ_ _ _ he=>by(cases he),λ_ _ he=>by(cases he)⟩,h1⟩,λf hf=>?_,h3⟩;rw[Dz,hf.cell,e1];have e4:(Cf ty ad).run P w=.ok v' w:=e2;simp[asAddr,e4,h2 f hf]
   ·cases h
  ·cases h
 | .tmp t::r,j,s,ls,h,hr=>by
  simp only[X6]at h;have aK:=hr.ent t;cases hg:s.get t with
  |tup l=>rw[hg]at h;cases h
  |st l=>rw[hg]at h;cases h
  |iter c p=>rw[hg]at h;cases h
  |bx d' ls=>rw[hg]at h;cases h
  |one l=>
   rw[hg]at h aK;dsimp only at h;have cj:∀(s':St Ty den)(bL:List (Leaf Ty den))(l':Leaf Ty den),Rel E.U B g s' a w->X6 E (j+1) s' r=some bL->ls=l'::bL->(∀p∈F1 (j+1) s' r,p∈F1 j s (.tmp t::r))->K1 s (.tmp t::r)=K1 s' r->
     (CRep E.U w g.wm l' (a.tmps.getD t undef)/\(∀t0 x c,l'=.sl t0 x (some c)->∃d,(c,d)∈F1 j s (.tmp t::r)/\a.tmps.getD t undef=g.G d/\E.U.size t0=g.Gs d/\TyB E.U w t0 (a.tmps.getD t undef))/\∀d o,l'≠ .ptr d o)->
     ∃vs,PackRep E.U w g (F1 j s (.tmp t::r)) ls vs/\(∀f,B2L a f->((ResultVar.tmp t::r).mapM f).run P w=.ok vs w)/\Rel E.U B g (K1 s (.tmp t::r)) a w:=by
    intro s' bL l' bD hp he bZ hS eb;obtain⟨vs,h1,h2,h3⟩:=B0A hT hU hX r (j+1) s' bL hp bD;subst he;refine⟨a.tmps.getD t undef::vs,⟨⟨eb.1,eb.2.1,λc o he=>absurd he (eb.2.2 c o)⟩,h1.mono bZ⟩,λf hf=>?_,by rw[hS];exact h3⟩;rw[Dz,hf.tmp];simp[h2 f hf]
   cases l with
   |sl t0 x o=>
    cases o with
    |none=>
     cases hp:X6 E (j+1) s r with
     |none=>rw[hp]at h;cases h
     |some bL=>
      rw[hp]at h;simp only[Cu,Be]at h;exact cj s bL _ hr hp h.symm (λp hp=>by simp only[F1,hg];exact hp) (by simp only[K1,hg]) ⟨aK.1,λ_ _ _ he=>by(simp[A6C]at he),λ_ _ he=>by(cases he)⟩
    |some d=>
     dsimp only at h;cases hp:X6 E (j+1) (s.kill d) r with
     |none=>rw[hp]at h;cases h
     |some bL=>
      rw[hp]at h;simp only[Cu,Be]at h;cases hm:mem d s.live with
      |false=>
       refine cj (s.kill d) bL _ (hr.kill hU d) hp h.symm (λp hp=>by simp only[F1,hg,hm,Aq];exact hp) (by simp only[K1,hg]) ?_;simp only[A6C,hm,Aq];exact⟨aK.1.own none,λ_ _ _ he=>by(simp at he),λ_ _ he=>by(cases he)⟩
      |true=>
       refine cj (s.kill d) bL _ (hr.kill hU d) hp h.symm (λp hp=>by simp only[F1,hg,hm,Ap];exact Gm _ hp) (by simp only[K1,hg]) ?_;simp only[A6C,hm,Ap];refine⟨aK.1.own _,λt1 x1 c he=>?_,λ_ _ he=>by(cases he)⟩;simp only[Leaf.sl.injEq,Be]at he;obtain⟨rfl,_,rfl⟩:=he;exact⟨d,by simp only[F1,hg,hm,Ap];exact Gl,aK.2.1 _ _ d rfl⟩
   |ptr d0 o0=>
    cases hp:X6 E (j+1) s r with
    |none=>rw[hp]at h;cases h
    |some bL=>
     rw[hp]at h;simp only[Cu,Be]at h;exact cj s bL _ hr hp h.symm (λp hp=>by simp only[F1,hg];exact hp) (by simp only[K1,hg]) ⟨.any _,λ_ _ _ he=>by(simp[A6C]at he),λ_ _ he=>by(cases he)⟩
   |_=>
    cases hp:X6 E (j+1) s r with
    |none=>rw[hp]at h;cases h
    |some bL=>
     rw[hp]at h;simp only[Cu,Be]at h;exact cj s bL _ hr hp h.symm (λp hp=>by simp only[F1,hg];exact hp) (by simp only[K1,hg]) ⟨aK.1,λ_ _ _ he=>by(simp[A6C]at he),λ_ _ he=>by(cases he)⟩
def V4(vs:Ai):Value:=if h:vs.length=1 then vs[0]else .tuple vs.toArray
theorem A83(P:Bg)(fn:Func)(a:Act)(w:World)(rs:List By)(kR:fn.results.toList=rs){vs:Ai}(ht:∀f,B2L a f->(rs.mapM f).run P w=.ok vs w):
  (Dv fn a.tmps).run P w=.ok (V4 vs) w:=by
 have h1:fn.results=rs.toArray:=by rw[<-kR]
 unfold Dv;rw[h1,List.mapM_toArray];simp only[Fv,Sem.run_map];rw[ht _ ⟨λ_=>rfl,λ_ _=>rfl⟩];simp[V4]
theorem PackRep.length{N:List (Nat×Nat)}:∀{ls:List (Leaf Ty den)}{vs:Ai},PackRep U w g N ls vs->ls.length=vs.length
 |[],[],_=>rfl
 |_::_,_::_,h=>by simp[PackRep.length h.2]
 |[],_::_,hp=>hp.elim
 |_::_,[],hp=>hp.elim
def M7(g:Gh)(N:List (Nat×Nat)):Gh:=
 {wm:=g.wm,ib:=g.ib,G:=λc=>match N.find? (λp=>p.1==c)with|some p=>g.G p.2|none=>.bool false,Gs:=λc=>match N.find? (λp=>p.1==c)with|some p=>g.Gs p.2|none=>0}
theorem A4S{g:Gh}{N:List (Nat×Nat)}(hN:∀c d c' d',(c,d)∈N->(c',d')∈N->(c=c'↔d=d')){c d:Nat}(h:(c,d)∈N):(M7 g N).G c=g.G d/\(M7 g N).Gs c=g.Gs d:=by
 have hf:∃p,N.find? (λp=>p.1==c)=some p:=by
  cases hf:N.find? (λp=>p.1==c)with
  |some p=>exact⟨p,rfl⟩
  |none=>
   have:=List.find?_eq_none.1 hf (c,d) h;simp at this
 obtain⟨p,hp⟩:=hf;have h1:=List.mem_of_find?_eq_some hp;have h2:p.1=c:=by simpa using List.find?_some hp
 have h3:p.2=d:=(hN p.1 p.2 c d h1 h).1 h2;simp only[M7,hp,h3,and_self]
theorem PackRep.out{N:List (Nat×Nat)}(hN:∀c d c' d',(c,d)∈N->(c',d')∈N->(c=c'↔d=d')):∀{ls:List (Leaf Ty den)}{vs:Ai},PackRep U w g N ls vs->LsRep U w (M7 g N) ls vs
 |[],[],_=>trivial
 |_::_,_::_,h=>⟨⟨h.1.1,λt x c he=>by
  obtain⟨d,h1,h2,h3,h4⟩:=h.1.2.1 t x c he;obtain⟨e1,e2⟩:=A4S (g:=g) hN h1;exact⟨h2.trans e1.symm,h3.trans e2.symm,h4⟩,λc o he=>by
  obtain⟨d,b,n,h1,h2,h3⟩:=h.1.2.2 c o he;obtain⟨e1,e2⟩:=A4S (g:=g) hN h1;exact⟨b,n,e1.trans h2,h3⟩⟩,PackRep.out hN h.2⟩
 |[],_::_,hp=>hp.elim
 |_::_,[],hp=>hp.elim
theorem PackRep.names{N:List (Nat×Nat)}:∀{ls:List (Leaf Ty den)}{vs:Ai},PackRep U w g N ls vs->∀lf∈ls,∀c,lf.has c=true->∃d,(c,d)∈N
 |_::_,_::_,h,lf,hl,c,hc=>by
  simp only[Dn]at hl;rcases hl with rfl|hl
  ·rcases (Leaf.has_iff c _).1 hc with⟨t,x,he⟩|⟨o,he⟩
   ·obtain⟨d,h1,_⟩:=h.1.2.1 t x c he;exact⟨d,h1⟩
   ·obtain⟨d,_,_,h1,_⟩:=h.1.2.2 c o he;exact⟨d,h1⟩
  ·exact PackRep.names h.2 lf hl c hc
 |[],_::_,hp,_,_,_,_=>hp.elim
 |_::_,[],hp,_,_,_,_=>hp.elim
 |[],[],_,lf,hl,_,_=>by simp at hl
theorem LsRep.head{l:Leaf Ty den}:∀{vs:Ai}(h:LsRep U w g [l] vs)(hl:0<vs.length),LRep U w g l vs[0]
 |_::_,h,_=>h.1
theorem B2K{N:List (Nat×Nat)}(hr:Rel U B g s a w)(hN:∀c d c' d',(c,d)∈N->(c',d')∈N->(c=c'↔d=d'))(hl:∀c d,(c,d)∈N->mem d s.live=true){ls:List (Leaf Ty den)}{vs:Ai}(h1:PackRep U w g N ls vs)
  {r:Ent Ty den}{v:Value}(fB:∀c,r.has c=true↔∃lf∈ls,lf.has c=true)(ry:r.isIter=false)(ak:∀g',LsRep U w g' ls vs->ERep U w g' r v):Post U B (M7 g N) r v w:=by
 have dx:∀c,r.has c=true->∃d,(c,d)∈N/\mem d s.live=true/\(M7 g N).G c=g.G d/\(M7 g N).Gs c=g.Gs d:=λc hc=>by
  obtain⟨lf,eb,cX⟩:=(fB c).1 hc;obtain⟨d,hd⟩:=h1.names lf eb c cX;obtain⟨e1,e2⟩:=A4S (g:=g) hN hd;exact⟨d,hd,hl c d hd,e1,e2⟩
 refine{os:=hr.os,tape:=hr.tape,output:=hr.output,size:=hr.size,frame:=hr.frame,ext:=hr.ext,zero:=hr.zero,rep:=ak _ (h1.out hN),nit:=ry,tip:=λc hc=>?_,disj:=λc c' b hc cq av hs=>?_,mine:=λc b hc hs=>?_}
 ·obtain⟨d,_,hl,e1,e2⟩:=dx c hc;rw[e1,e2];exact hr.tip d hl
 ·obtain⟨d,hd,hl,e1,_⟩:=dx c hc;obtain⟨d',dM,eb,sB,_⟩:=dx c' cq;rw[e1]at hs;rw[sB];exact hr.disj d d' b hl eb (λe=>av ((hN c d c' d' hd dM).2 e)) hs
 ·obtain⟨d,hd,hl,e1,_⟩:=dx c hc;rw[e1]at hs;exact hr.mine d b hl hs
variable {E:Env Ty den}{P:Bg}
theorem D8T(hT:∀t,P8 P E.U t (E.tb t))(hU:E.U.Ok)(hX:A3q E.U){fn:Func}{r:Ent Ty den}(h:B1i E fn.results.toList s=some r)(hr:Rel E.U B g s a w):
  ∃v,(Dv fn a.tmps).run P w=.ok v w/\∃g',Post E.U B g' r v w:=by
 obtain⟨g0,hr⟩:=B3q hU hX E.fzs s g hr;unfold B1i at h;dsimp only at h;generalize A7B E E.fzs s=s at h hr;cases hp:X6 E 0 s fn.results.toList with
 |none=>rw[hp]at h;cases h
 |some ls=>
  rw[hp]at h;obtain⟨vs,h1,h2,_⟩:=B0A (P:=P) hT hU hX fn.results.toList 0 s ls hp hr;obtain⟨vm,oy⟩:=A89 fn.results.toList 0 s;have af:=A83 P fn a w fn.results.toList rfl h2;have aj:=h1.length;unfold V4 at af;have jN:∀(hl:ls.length≠1),some (Ent.tup ls)=some r->∃v,(Dv fn a.tmps).run P w=.ok v w/\∃g',Post E.U B g' r v w:=λhl he=>by
   cases he;rw[dif_neg (by omega)]at af;refine⟨_,af,_,B2K hr oy (λc d h=>(vm c d h).1) h1 (λc=>?_) rfl (λg' sC=>⟨_,rfl,sC⟩)⟩;simp[Ent.has,Gv]
  match ls,h,h1,aj,jN,hp with
  |[],h,_,_,jN,_=>exact jN (by simp) h
  |[l],h,h1,aj,_,hp=>
   simp only[Be]at h;subst h;rw[dif_pos (by simpa using aj.symm)]at af;refine⟨_,af,_,B2K hr oy (λc d h=>(vm c d h).1) h1 (λc=>by simp[Ent.has]) rfl (λg' sC=>?_)⟩;exact LsRep.head sC _
  |l::l2::bL,h,_,_,jN,_=>exact jN (by simp) h
end
end Go.Aev
end
