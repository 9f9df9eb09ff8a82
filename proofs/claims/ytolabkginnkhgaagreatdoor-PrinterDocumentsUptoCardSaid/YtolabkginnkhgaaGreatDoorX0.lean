/- Proved here: lemmas that the claim's text uses. Conditions: those that each lemma states. -/
import Derived.WalkKit
import Derived.Orders
import Derived.KernelRfl
import Derived.Great.BuildSlice
import Derived.Lib.OthersKept
import Derived.Laws.Cover4
set_option maxRecDepth 100000
set_option linter.unusedVariables false
set_option linter.unusedSimpArgs false
set_option linter.defProp false
open Go renaming TypeId→Ew,execOp→Fa,Operand→Fb,run_underlying→Fc,Program→Fg,FuncId→Fk,typeInfo→Fp,ResultVar→Fx,IntKind→Gc,sizeOf→Ge,loadVar→Gg,newRow→Gp,loadCells→Gq,grownCap→Gr,resolve→Hf,invoke→Hg,convert→Hh,builtin→Hm,storeCells→Hx,results→Hy,callFunc→Hz,TypeInfo→Ia,run_sliceBound_if→Iq,run_loadCells→Ir,markStringish→Is,madeCells→It,loadCellsFrom→Iu,run_runesToString→Jo,run_loadCells_list→Jp,run_bytesToString→Jq,eqGuard_at_bool→Jr
open Nat renaming beq→Ey,blt→Ez,le_refl→Fe,zero_le→Fi,ble→Fj,lt_or_ge→Ft,add_mul→Fu,blt_eq→Ga,le_trans→Gz,le_of_ble_eq_true→Hp,mul_le_mul_right→Ib,add_assoc→Ic,zero_add→Iz,one_ne_zero→Ja,one_mul→Jb,not_lt→Jc,le_succ_of_le→Jd,add_zero→Je,mul_one→Ke,lt_of_lt_of_le→Kf,le_mul_of_pos_right→Kg,add_comm→Kh
open Option.some renaming injEq→Ff,inj→Fz
open List renaming getElem?_eq_getElem→Fh,getElem?_map→Fm,range→Gb,length_cons→Gl,getElem?_append_left→Gm,getElem?_append_right→Gu,mem_of_getElem?→Ha,getElem?_take→Hi,getElem?_range→Hj,getElem?_drop→Hk,eq_nil_of_length_eq_zero→Hl,mem_cons→Hq,getElem?_eq_none→Hr,mapM_cons→Ie,getElem_of_mem→If,getD→Ig,zipIdx_cons→Jf,map_map→Jg,map_congr_left→Jh,length_map→Ji,length_append→Jj,foldl_cons→Jk,take_zero→Ki,size_toArray→Kj,replicate→Kk,mem_map→Kl,mem_cons_self→Km,mem_cons_of_mem→Kn,map_cons→Ko,length→Kp,getElem?_cons_succ→Kq,getD_eq_getElem?_getD→Kr,flatMap_cons→Ks,any_eq_true→Ku
open Bool renaming and_eq_true→Fl,false_eq_true→Jm,not_eq_true'→Ld
open Ne renaming symm→Fo
open Go.World renaming cell?_of_block→Fq,cell?→Fs,freeze→Fw,shape?→Js,setCell→Jt
open Array renaming getElem?_eq_some_iff→Fv,getElem?_push→Gf,getElem?_toList→Gx,replicate→Ht,getElem?_modify→Hu,getElem?_append_left→Hv,toList_map→Ik,getD_eq_getD_getElem?→Il,ext'→Im,getElem?_setIfInBounds→Jn,size_setIfInBounds→Le,length_toList→Lh,ext_getElem?→Li
open Go.Question renaming appendCap→Fy,forced→Iw,cut→Jx
open Go.Utf8 renaming decode→Gi,encode→Ju
open Go.Addr renaming add_lit→Gj,mk→Io
open Option renaming map_eq_some_iff→Gk,map_some→Gy,pure_def→Jz,isSome_none→Ka,bind_eq_some_iff→Kb,bind_eq_bind→Kc
open Go.Builtin renaming firstCells→Gn,append_→Gw,lenOf→He,zeroCells→Lb,len_→Lc
open Go.Value renaming int→Gt,cells→Hn
open Go.Conv renaming runesFrom→Gv,runesToString→Ky,bytesToString→Kz
open Go.Instr renaming sureAddr→Hb,loadAt→Hs,sliceBounds→Ih,fill→Ii,buildSlice→Ij,sliceAt→Kv,slice→Kw,box→Kx
open ByteArray renaming mk→Hc,size→Jl
open Prod.mk renaming injEq→Ho
open Go.Act renaming eval→Hw,put→Ip
open UInt8 renaming ofNat→Iv
open Go.Oper renaming wp→Ix
open Go.Op renaming stringOp→Iy
open Go.Sem renaming run_bind→Jv
open Go.Region renaming ready→Jw
open Go.Program renaming built→Jy
open List.cons renaming injEq→Kt
open Go.ByteArray renaming extract_mk→La
open Go.Array renaming range_zero'→Lg
open Go.Value.slice renaming injEq→Lj
section
def Du{p:Prop}(h:p:=by omega):p:=h
def En{p:Prop}(h:p:=by kernel_rfl):p:=h
def Eo{p:Prop}(h:p:=by simp):p:=h
def Ep{p:Prop}(h:p:=by decide):p:=h
def Er{p:Prop}(h:p:=by simp only;omega):p:=h
def Es{p:Prop}(h:p:=by simp;omega):p:=h
def Et{p:Prop}(h:p:=by rfl):p:=h
def Eu{p:Prop}(h:p:=by decide+kernel):p:=h
def Eg.{u}{α:Sort u}(a b:α):(bif true then a else b)=a:=rfl
def Eh.{u}{α:Sort u}(a b:α):(bif false then a else b)=b:=rfl
def Ei{p:Prop}[Decidable p](h:p):decide p=true:=decide_eq_true h
def Ej{p:Prop}[Decidable p](h:¬p):decide p=false:=decide_eq_false h
def Ek.{u}{c:Prop}{d:Decidable c}(h:¬c){α:Sort u}{t e:α}:ite c t e=e:=if_neg h
def El.{u}{c:Prop}{d:Decidable c}(h:c){α:Sort u}{t e:α}:ite c t e=t:=if_pos h
def Em{p:Prop}[Decidable p](h:decide p=true):p:=of_decide_eq_true h
namespace Go.Aev
open Go
abbrev Ed:=Option Nat
abbrev Ea:=List Value
abbrev DX:=List Nat
abbrev DT:=List UInt8
abbrev Eb:=List DT
abbrev DS:=List Int
abbrev Ef:=List DS
section defs
variable (Ty:Type)(den:Ty->Type)
inductive Leaf:Type where
 |any
 |int (k:Gc) (n:Int)
 |bool (b:Bool)
 |str (s:DT)
 |sl (t:Ty) (l:List (den t)) (own:Ed)
 |elem (t:Ty) (x:den t) (off:Nat)
 |agg (t:Ty) (x:den t)
 |val (v:Value)
 |ptr (d off:Nat)
 |ifc (T:Ew) (t:Ty) (x:den t)
 |one1 (t:Ty) (x:den t)
 |nils
inductive Ent:Type where
 |one (l:Leaf Ty den)
 |tup (ls:List (Leaf Ty den))
 |iter (s:DT) (pos:Nat)
 |bx (d:Nat) (ls:List (Leaf Ty den))
 |st (ls:List (Leaf Ty den))
structure UO where
 deq:(t u:Ty)->Decidable (t=u)
 cells:(t:Ty)->den t->List (Leaf Ty den)
 dec:(t:Ty)->List (Leaf Ty den)->Option (den t)
 ofBytes:(t:Ty)->Option (DT->List (den t))
 toBytes:(t:Ty)->Option (List (den t)->DT)
 ofRunes:(t:Ty)->Option (DS->List (den t))
 toRunes:(t:Ty)->Option (List (den t)->DS)
 size:Ty->Nat
 bytes:Ty->Nat
 bty:Nat:=0
 ety:Ty->Option Ew:=λ_=>none
 dcx:(t:Ty)->List (Leaf Ty den)->Option (den t):=λ_ _=>none
inductive TK where
 |int (k:Gc)
 |str
 |bool
 |slice (t:Ty) (e:Ew)
 |struct (t:Ty) (fs:List (Nat×Nat))
 |iface (t:Ty)
 |other
structure St where
 fr:List (Nat×Ent Ty den)
 live:DX
structure Env where
 U:UO Ty den
 tb:Ew->TK Ty
 T:Fk->List (Leaf Ty den)->Option (Bool×Ent Ty den)
 cons:Fk->Ed
 drop:Nat->DX
 nt:Nat
 zr:Ew->Option (List (Leaf Ty den)):=λ_=>none
 mb:Nat->Bool:=λ_=>false
 bn:Nat->Nat:=λd=>100+d
 np:Nat:=0
 oz:Nat->Bool:=λ_=>false
 TIg:String->List (Leaf Ty den)->List (List (Leaf Ty den))->Option (Bool×List (Leaf Ty den)×List (List (Leaf Ty den))):=λ_ _ _=>none
 bi:String->DX:=λ_=>[]
 rw:Bool:=false
 rm:Nat->Bool:=λ_=>false
 fty:Ew->Option Ty:=λ_=>none
 fzs:DX:=[]
 nw:Fk->Bool:=λ_=>false
 TNg:Fk->List (Leaf Ty den)->Option (Bool×List (Leaf Ty den)):=λ_ _=>none
 bp:Fk->Option DX:=λ_=>none
 ro:Fk->Bool:=λ_=>false
 TRg:Fk->List (Leaf Ty den)->List (List (Leaf Ty den))->Option (Bool×List (Leaf Ty den)):=λ_ _ _=>none
 TBg:Fk->List (Leaf Ty den)->List (List (Leaf Ty den))->Option (Bool×List (Leaf Ty den)×List (List (Leaf Ty den))):=λ_ _ _=>none
end defs
variable {Ty:Type}{den:Ty->Type}
def L3{α:Type}:Option (Bool×α)->Option α
 |some (true,a)=>some a
 |_=>none
def Env.TI(E:Env Ty den)(nm:String)(ls:List (Leaf Ty den))(cs:List (List (Leaf Ty den))):Option (List (Leaf Ty den)×List (List (Leaf Ty den))):=L3 (E.TIg nm ls cs)
def Env.TR(E:Env Ty den)(f:Fk)(ls:List (Leaf Ty den))(cs:List (List (Leaf Ty den))):Option (List (Leaf Ty den)):=L3 (E.TRg f ls cs)
def Env.TB(E:Env Ty den)(f:Fk)(ls:List (Leaf Ty den))(cs:List (List (Leaf Ty den))):Option (List (Leaf Ty den)×List (List (Leaf Ty den))):=L3 (E.TBg f ls cs)
def B4:Nat:=77777777
def A0V(n t sz:Nat):Nat:=1000000000+((n*1000+t)*100+sz)
def rS(o:Nat):Nat:=o % 100
def rT(o:Nat):Nat:=o / 100 % 1000
def rN(o:Nat):Nat:=o / 100000 % 10000
def mem(d:Nat):DX->Bool
 |[]=>false
 |e::r=>bif Ey e d then true else mem d r
def rem(d:Nat):DX->DX
 |[]=>[]
 |e::r=>bif Ey e d then rem d r else e::rem d r
def Leaf.close:Leaf Ty den->Leaf Ty den
 | .sl t l _=>.sl t l none
 | .ptr _ _=>.any
 |x=>x
def Leaf.strip(d:Nat):Leaf Ty den->Leaf Ty den
 | .sl t l (some e)=>.sl t l (bif Ey e d then none else some e)
 | .ptr e o=>bif Ey e d then .any else .ptr e o
 |x=>x
def Ent.strip(d:Nat):Ent Ty den->Ent Ty den
 | .one l=>.one (l.strip d)
 | .tup ls=>.tup (ls.map (·.strip d))
 | .st ls=>.st (ls.map (·.strip d))
 | .bx e ls=>bif Ey e d then .one .any else .bx e (ls.map (·.strip d))
 |e=>e
def A8V(d:Nat):List (Nat×Ent Ty den)->List (Nat×Ent Ty den)
 |[]=>[]
 |(i,e)::r=>(i,e.strip d)::A8V d r
def look:List (Nat×Ent Ty den)->Nat->Ent Ty den
 |[],_=>.one .any
 |(j,e)::r,i=>bif Ey j i then e else look r i
def ins:List (Nat×Ent Ty den)->Nat->Ent Ty den->List (Nat×Ent Ty den)
 |[],i,e=>[(i,e)]
 |(j,x)::r,i,e=>bif Ey j i then(i,e)::r else bif Ez i j then(i,e)::(j,x)::r else(j,x)::ins r i e
def del:List (Nat×Ent Ty den)->DX->List (Nat×Ent Ty den)
 |[],_=>[]
 |(j,x)::r,ds=>bif mem j ds then del r ds else(j,x)::del r ds
namespace St
def get(s:St Ty den)(i:Nat):Ent Ty den:=look s.fr i
def set(s:St Ty den)(i:Nat)(e:Ent Ty den):St Ty den:={s with fr:=ins s.fr i e}
def setO(s:St Ty den)(d:Ed)(e:Ent Ty den):St Ty den:=match d with|some i=>s.set i e|none=>s
def fresh(s:St Ty den)(d:Nat):St Ty den:={fr:=A8V d s.fr,live:=d::rem d s.live}
def kill(s:St Ty den)(d:Nat):St Ty den:={fr:=A8V d s.fr,live:=rem d s.live}
def dels(s:St Ty den)(ds:DX):St Ty den:={s with fr:=del s.fr ds}
end St
def C5a:Value->Leaf Ty den
 | .int k n=>.int k n
 | .bool b=>.bool b
 | .string s=>.str s.data.toList
 |_=>.any
def opd(E:Env Ty den)(s:St Ty den)(ty:Ew):Fb->Ent Ty den
 | .tmp t=>match s.get t with
  | .iter _ _=>.one .any
  | .bx _ _=>.one .any
  |e=>e
 | .const v=>match v with
  | .slice none 0 0=>match E.tb ty with
   | .slice u _=>.one (.sl u [] none)
   |_=>.one .any
  |v=>.one (C5a v)
 |_=>.one .any
def opl(E:Env Ty den)(s:St Ty den)(ty:Ew)(x:Fb):Leaf Ty den:=
 match opd E s ty x with
 | .one l=>l
 |_=>.any
def A0c:Fb->Bool
 | .const (.slice none 0 0)=>true
 |_=>false
def C4(dst:Ed):Nat:=match dst with|some d=>100+d|none=>99
def nmR(dst:Ed)(j:Nat):Nat:=match dst with|some d=>1000*(j+1)+d|none=>98
def B3U(op:BinOp)(k:Gc)(a b:Int):Option (Leaf Ty den):=
 match op with
 | .add=>some (.int k (k.wrap (a+b)))
 | .sub=>some (.int k (k.wrap (a - b)))
 | .mul=>some (.int k (k.wrap (a*b)))
 | .eql=>some (.bool (a==b))
 | .neq=>some (.bool (a !=b))
 | .lss=>some (.bool (a<b))
 | .leq=>some (.bool (a<=b))
 | .gtr=>some (.bool (a>b))
 | .geq=>some (.bool (a>=b))
 | .and=>some (.int k (bits .and k a b))
 | .or=>some (.int k (bits .or k a b))
 |_=>none
def idx{α:Type}(l:List α)(i:Int):Option α:=bif decide (0<=i)then l[i.toNat]? else none
def sub{α:Type}(l:List α)(lo hi:Int):Option (List α):=
 bif decide (0<=lo)&&(decide (lo<=hi)&&decide (hi<=(l.length:Int)))then some ((l.drop lo.toNat).take (hi.toNat - lo.toNat))else none
def P8(U:UO Ty den)(t u:Ty)(l:List (den u)):Option (List (den t)):=
 match U.deq u t with
 | .isTrue h=>some (h ▸ l)
 | .isFalse _=>none
def A3(n b:Nat):Bool:=decide (n*b<=140737488355328)
def A4M(ns:DS):DT:=ns.flatMap λn=>(Ju n).data.toList
inductive Ex where
 |normal|exit (id:Nat)|ret
section ev
variable (E:Env Ty den){R:Type}
def W8(s:St Ty den)(d:Int):Option Fb->Option Int
 |none=>some d
 |some x=>match opl E s 0 x with
  | .int _ n=>some n
  |_=>none
def F6:List (Leaf Ty den)->List (Leaf Ty den)
 |[]=>[]
 |l::r=>l.close::F6 r
def S1(s:St Ty den):List Ew->List Fb->List (Leaf Ty den)
 |_,[]=>[]
 |[],x::r=>opl E s 0 x::S1 s [] r
 |t::ts,x::r=>opl E s t x::S1 s ts r
def A2k(nm:Nat)(t:Ty)(l:List (den t))(s:St Ty den):Leaf Ty den×St Ty den:=
 bif mem nm s.live then(.sl t l none,s)else(.sl t l (some nm),s.fresh nm)
def Q9(dst:Ed)(p:Ed)(j:Nat)(s:St Ty den):Leaf Ty den->Leaf Ty den×St Ty den
 | .sl t l (some 0)=>match p with
  |some d=>A2k d t l s
  |none=>(.sl t l none,s)
 | .sl t l (some (i+1))=>bif Ey i j then A2k (nmR dst j) t l s else(.sl t l none,s)
 | .ptr _ _=>(.any,s)
 |x=>(x,s)
def U2(dst:Ed)(p:Ed):Nat->St Ty den->List (Leaf Ty den)->List (Leaf Ty den)×St Ty den
 |_,s,[]=>([],s)
 |j,s,l::r=>
  let (l',s'):=Q9 dst p j s l
  let (r',oB):=U2 dst p (j+1) s' r
  (l'::r',oB)
def bxi(d:Nat):Nat:=1000000+d
def L8(s:St Ty den)(d:Nat):Option (List (Leaf Ty den)):=match s.get (bxi d)with
 | .bx e ls=>bif Ey e d then some ls else none
 |_=>none
def C0(k:Nat):Nat:=900000+k
def bo(d j:Nat):Nat:=2000000+(100*d+j)
def pk1(k d c:Nat)(s:St Ty den):Leaf Ty den->Leaf Ty den×St Ty den
 | .sl t x (some e)=>bif mem e s.live then(.sl t x (some c),s.kill e)else(.sl t x none,s)
 | .ptr e o=>(bif Ey e d&&Ey o B4 then .ptr (C0 k) B4 else .any,s)
 |l=>(l.close,s)
def pkC(k d:Nat):Nat->St Ty den->List (Leaf Ty den)->List (Leaf Ty den)×St Ty den
 |_,s,[]=>([],s)
 |j,s,l::r=>
  let (l',s'):=pk1 k d (bo (C0 k) j) s l
  let (r',oB):=pkC k d (j+1) s' r
  (l'::r',oB)
def pkB:Nat->St Ty den->DX->Option (List (List (Leaf Ty den))×St Ty den)
 |_,s,[]=>some ([],s)
 |k,s,d::r=>match s.get (bxi d)with
  | .bx e ls=>bif Ey e d&&(Ez ls.length 100&&Ez d 1000000)then
   (let (c,s'):=pkC k d 0 s ls
   match pkB (k+1) s' r with
   |some (cs,oB)=>some (c::cs,oB)
   |none=>none)else none
  |_=>none
def F4:Nat->List (List (Leaf Ty den))->List (Leaf Ty den)
 |_,[]=>[]
 |k,c::r=>.ptr (C0 k) 0::(c++F4 (k+1) r)
def A17(ls:List (Leaf Ty den)):DX->Option DX
 |[]=>some []
 |p::ps=>match ls.getD p .any,A17 ls ps with
  | .ptr d 0,some ds=>some (d::ds)
  |_,_=>none
def A5Z(ls:List (Leaf Ty den)):Nat->DX->List (Leaf Ty den)
 |_,[]=>ls
 |k,p::ps=>(A5Z ls (k+1) ps).set p (.ptr (C0 k) 0)
def A0E:DX->Bool
 |[]=>true
 |x::r=> !mem x r&&A0E r
def A1W(s:St Ty den):DX->Bool
 |[]=>true
 |d::r=>mem d s.live&&A1W s r
def Y3(s:St Ty den):DX->St Ty den
 |[]=>s
 |d::r=>(Y3 s r).set (bxi d) (.one .any)
def Q8(k d c n:Nat)(s:St Ty den):Leaf Ty den->Leaf Ty den×St Ty den
 | .sl t x (some e)=>bif Ey e c then A2k n t x s else(.sl t x none,s)
 | .ptr e o=>(bif Ey e (C0 k)&&Ey o B4 then .ptr d B4 else .any,s)
 |l=>(l,s)
def unC(k d:Nat):Nat->St Ty den->List (Leaf Ty den)->List (Leaf Ty den)×St Ty den
 |_,s,[]=>([],s)
 |j,s,l::r=>
  let (l',s'):=Q8 k d (bo (C0 k) j) (bo d j) s l
  let (r',oB):=unC k d (j+1) s' r
  (l'::r',oB)
def unB:Nat->St Ty den->DX->List (List (Leaf Ty den))->St Ty den
 |k,s,d::ds,c::cs=>
  let (c',s'):=unC k d 0 s c
  unB (k+1) (s'.set (bxi d) (.bx d c')) ds cs
 |_,s,_,_=>s
def A4x:List (Leaf Ty den)->Ent Ty den
 |[l]=>.one l
 |ls=>.tup ls
def A7P:List (List (Leaf Ty den))->Bool
 |[]=>true
 |c::r=>Ez c.length 100&&A7P r
def A6g(S:List (Leaf Ty den)->List (List (Leaf Ty den))->Option (List (Leaf Ty den)×List (List (Leaf Ty den))))(ps:DX)(ls:List (Leaf Ty den))(dst:Ed)(s:St Ty den)(k:Ent Ty den->St Ty den->Option R):Option R:=
 match A17 ls ps with
 |some ds=>bif A0E ds&&Ez ds.length 100 then(match pkB 0 s ds with
  |some (cs,s1)=>bif A1W s1 ds then(match S (A5Z (F6 ls) 0 ps) cs with
   |some (rs,ay)=>bif Ey ay.length ds.length&&(Ez rs.length 100&&A7P ay)then
    (let (tY,s2):=U2 dst none 0 (Y3 s1 ds) rs
    bif A1W s2 ds then k (A4x tY) (unB 0 s2 ds ay)else none)else none
   |none=>none)else none
  |none=>none)else none
 |none=>none
def C4J(f:Fk)(ps:DX)(dS:List Ew)(args:List Fb)(dst:Ed)(s:St Ty den)(k:Ent Ty den->St Ty den->Option R):Option R:=
 A6g (E.TB f) ps (S1 E s dS args) dst s k
def B0O(S:List (Leaf Ty den)->List (List (Leaf Ty den))->Option (Bool×List (Leaf Ty den)×List (List (Leaf Ty den))))(ps:DX)(ls:List (Leaf Ty den))(dst:Ed)(s:St Ty den)(k:Ent Ty den->St Ty den->Option R):Option R:=
 match A17 ls ps with
 |some ds=>bif A0E ds&&Ez ds.length 100 then(match pkB 0 s ds with
  |some (cs,s1)=>bif A1W s1 ds then(match S (A5Z (F6 ls) 0 ps) cs with
   |some (gd,rs,ay)=>bif gd then(bif Ey ay.length ds.length&&(Ez rs.length 100&&A7P ay)then
    (let (tY,s2):=U2 dst none 0 (Y3 s1 ds) rs
    bif A1W s2 ds then k (A4x tY) (unB 0 s2 ds ay)else none)else none)else none
   |none=>none)else none
  |none=>none)else none
 |none=>none
def C1f(f:Fk)(ps:DX)(dS:List Ew)(args:List Fb)(dst:Ed)(s:St Ty den)(k:Ent Ty den->St Ty den->Option R):Option R:=
 B0O (E.TBg f) ps (S1 E s dS args) dst s k
def C0Z{S:List (Leaf Ty den)->List (List (Leaf Ty den))->Option (Bool×List (Leaf Ty den)×List (List (Leaf Ty den)))}{ps:DX}{ls:List (Leaf Ty den)}{dst:Ed}{s:St Ty den}{k:Ent Ty den->St Ty den->Option R}{r:R}
  (h:B0O S ps ls dst s k=some r):A6g (λa b=>L3 (S a b)) ps ls dst s k=some r:=by
 unfold B0O at h;unfold A6g;split at h
 ·rename_i ds kJ
  revert h
  cases A0E ds&&Ez ds.length 100 with
  |false=>intro h;cases h
  |true=>
   simp only[Eg];intro h;split at h
   ·rename_i cs s1 xZ
    revert h
    cases A1W s1 ds with
    |false=>intro h;cases h
    |true=>
     simp only[Eg];intro h;split at h
     ·rename_i gd rs ay hS;cases gd with
      |false=>cases h
      |true=>simp only[hS,L3];exact h
     ·cases h
   ·cases h
 ·cases h
def C5U{f:Fk}{ps:DX}{dS:List Ew}{args:List Fb}{dst:Ed}{s:St Ty den}{k:Ent Ty den->St Ty den->Option R}{r:R}
 (h:C1f E f ps dS args dst s k=some r):C4J E f ps dS args dst s k=some r:=C0Z h
def nlL(nm j:Nat):Leaf Ty den->Leaf Ty den
 | .sl t [] none=>.sl t [] (some (bo nm j))
 |l=>l
def nlS(nm j:Nat)(s:St Ty den):Leaf Ty den->St Ty den
 | .sl _ [] none=>s.fresh (bo nm j)
 |_=>s
def A1I(nm:Nat):Nat->List (Leaf Ty den)->List (Leaf Ty den)
 |_,[]=>[]
 |j,l::r=>nlL nm j l::A1I nm (j+1) r
def A7z(nm:Nat):Leaf Ty den->Leaf Ty den
 | .val (.pointer none)=>.ptr nm B4
 |l=>l
def A5y(b:Bool)(nm:Nat)(ls:List (Leaf Ty den)):List (Leaf Ty den):=bif b then ls.map (A7z nm)else ls
def A4s(nm:Nat):Nat->St Ty den->List (Leaf Ty den)->St Ty den
 |_,s,[]=>s
 |j,s,l::r=>A4s nm (j+1) (nlS nm j s l) r
def B6O(f:Fk)(dS:List Ew)(args:List Fb)(dst:Ed)(s:St Ty den)(k:Ent Ty den->St Ty den->Option R):Option R:=
 let ls:=S1 E s dS args
 match E.cons f with
 |none=>match E.T f (F6 ls)with
  |some (gd,.one l)=>bif gd then(let (l',s'):=Q9 dst none 0 s l;k (.one l') s')else none
  |some (gd,.tup r)=>bif gd then(let (r',s'):=U2 dst none 0 s r;k (.tup r') s')else none
  |_=>none
 |some p=>match ls.getD p .any with
  | .sl t l (some d)=>bif mem d s.live then
    match E.T f ((F6 ls).set p (.sl t l (some 0)))with
    |some (gd,.one l)=>bif gd then(let (l',s'):=Q9 dst (some d) 0 (s.kill d) l;k (.one l') s')else none
    |some (gd,.tup r)=>bif gd then(let (r',s'):=U2 dst (some d) 0 (s.kill d) r;k (.tup r') s')else none
    |_=>none
   else none
  |_=>none
def A2c:List (Leaf Ty den)->Bool
 |[]=>true
 | .sl _ _ (some _)::_=>false
 | .ptr _ _::_=>false
 |_::r=>A2c r
def A1V(s:St Ty den):DX->Option (List (List (Leaf Ty den)))
 |[]=>some []
 |d::r=>match L8 s d,A1V s r with
  |some ls,some cs=>bif A2c ls&&Ez d 1000000 then some (ls::cs)else none
  |_,_=>none
def A3F(f:Fk)(dS:List Ew)(args:List Fb)(s:St Ty den):Option (Ent Ty den):=
 let ls:=S1 E s dS args
 match E.bp f with
 |none=>match E.T f (F6 ls)with
  |some (true,.one l)=>some (.one l.close)
  |some (true,.tup r)=>some (.tup (F6 r))
  |_=>none
 |some ps=>match A17 ls ps with
  |some ds=>bif A0E ds then(match A1V s ds with
   |some cs=>match E.TR f (A5Z (F6 ls) 0 ps) cs with
    |some rs=>some (A4x (F6 rs))
    |none=>none
   |none=>none)else none
  |none=>none
def B2d(f:Fk)(dS:List Ew)(args:List Fb)(s:St Ty den)(k:Ent Ty den->Option R):Option R:=
 let ls:=S1 E s dS args
 match E.bp f with
 |none=>match E.T f (F6 ls)with
  |some (gd,.one l)=>bif gd then k (.one l.close)else none
  |some (gd,.tup r)=>bif gd then k (.tup (F6 r))else none
  |_=>none
 |some ps=>match A17 ls ps with
  |some ds=>bif A0E ds then(match A1V s ds with
   |some cs=>match E.TRg f (A5Z (F6 ls) 0 ps) cs with
    |some (gd,rs)=>bif gd then k (A4x (F6 rs))else none
    |none=>none
   |none=>none)else none
  |none=>none
def C2g{f:Fk}{dS:List Ew}{args:List Fb}{s:St Ty den}{k:Ent Ty den->Option R}{r:R}
  (h:B2d E f dS args s k=some r):∃e,A3F E f dS args s=some e/\k e=some r:=by
 unfold B2d at h;unfold A3F;dsimp only at h ⊢;split at h
 ·split at h
  ·rename_i gd l hT;cases gd with
   |false=>cases h
   |true=>exact⟨_,by simp only[hT],h⟩
  ·rename_i gd l hT;cases gd with
   |false=>cases h
   |true=>exact⟨_,by simp only[hT],h⟩
  ·cases h
 ·split at h
  ·rename_i ds kJ
   revert h
   cases A0E ds with
   |false=>intro h;cases h
   |true=>
    simp only[Eg];intro h;split at h
    ·rename_i cs cE;split at h
     ·rename_i gd rs hT;cases gd with
      |false=>cases h
      |true=>exact⟨_,by simp only[cE,Env.TR,hT,L3],h⟩
     ·cases h
    ·cases h
  ·cases h
def B1r:Leaf Ty den->Bool
 | .nils=>true
 |_=>false
def B7F(t u:Ew)(x y:Fb)(dst:Ed)(s:St Ty den)(k:Ent Ty den->St Ty den->Option R):Option R:=
 match E.tb t,(bif A0c x||B1r (opl E s t x)then(match E.tb t with
   | .slice t' _=>(Leaf.sl t' [] (some (C4 dst)),s.fresh (C4 dst))
   |_=>(Leaf.any,s))else(opl E s t x,s))with
 | .slice t' _,(.sl t0 l0 (some d),s1)=>match P8 E.U t' t0 l0 with
  |some l=>bif mem d s1.live then
    match E.tb u,opl E s u y with
    | .slice _ _,.sl v m _=>match P8 E.U t' v m with
     |some m'=>bif A3 (l.length+m'.length) (E.U.bytes t')then k (.one (.sl t' (l++m') (some d))) (s1.fresh d)else none
     |none=>none
    | .str,.str b=>match E.U.ofBytes t' with
     |some f=>bif A3 (l.length+b.length) (E.U.bytes t')then k (.one (.sl t' (l++f b) (some d))) (s1.fresh d)else none
     |none=>none
    |_,_=>none
   else none
  |none=>none
 |_,_=>none
def A2b(b:Builtin)(dS:List Ew)(args:List Fb)(dst:Ed)(s:St Ty den)(k:Ent Ty den->St Ty den->Option R):Option R:=
 match b,dS,args with
 | .len,[t],[x]=>match E.tb t,opl E s t x with
  | .slice _ _,.sl _ l _=>k (.one (.int .i64 l.length)) s
  | .str,.str b=>k (.one (.int .i64 b.length)) s
  |_,_=>none
 | .min,_,[x,y]=>match opl E s 0 x,opl E s 0 y with
  | .int k0 a,.int _ b=>k (.one (.int k0 (if b<a then b else a))) s
  |_,_=>none
 | .max,_,[x,y]=>match opl E s 0 x,opl E s 0 y with
  | .int k0 a,.int _ b=>k (.one (.int k0 (if b>a then b else a))) s
  |_,_=>none
 | .append,[t,u],[x,y]=>B7F E t u x y dst s k
 |_,_,_=>none
def A29(s:St Ty den)(ty:Ew):Nat->List (Nat×Fb)->Option (List (Leaf Ty den))
 |_,[]=>some []
 |i,(j,x)::r=>bif Ey i j then(A29 s ty (i+1) r).map ((opl E s ty x).close:: ·)else none
def B3S:Leaf Ty den->Value->Bool
 | .int k n,.int k' n'=>decide (k=k')&&decide (n=n')
 | .bool b,.bool b'=>b==b'
 | .str [],.string s=>s.data.toList.isEmpty
 | .sl _ [] none,.slice none 0 0=>true
 |_,_=>false
def B0Z:List (Leaf Ty den)->Ea->Bool
 |[],[]=>true
 |l::r,v::s=>B3S l v&&B0Z r s
 |_,_=>false
def A9z(e:Ew)(u:Ty)(s:St Ty den)(x:Fb):Option (den u):=match opl E s 0 x with
 | .agg u' y=>(match P8 E.U u u' [y]with
  |some [y']=>some y'
  |_=>none)
 |_=>match x,E.zr e with
  | .const (.agg vs),some zs=>bif B0Z zs vs.toList then E.U.dec u zs else none
  |_,_=>none
def A3Y(e:Ew)(u:Ty)(s:St Ty den):Nat->List (Nat×Fb)->Option (List (den u))
 |_,[]=>some []
 |i,(j,x)::r=>bif Ey i j then(match A9z E e u s x,A3Y e u s (i+1) r with
  |some y',some l=>some (y'::l)
  |_,_=>none)else none
def A8j(U:UO Ty den)(t:Ty):List (Leaf Ty den)->Option (List (den t))
 |[]=>some []
 |l::r=>match U.dec t [l],A8j U t r with
  |some x,some xs=>some (x::xs)
  |_,_=>none
def T5{α:Type}(ls:List α)(o:Nat)(ys:List α):List α:=ls.take o++(ys++ls.drop (o+ys.length))
def A5F:Leaf Ty den->Bool
 | .int _ _| .bool _| .str _| .sl _ _ _| .elem _ _ _| .ifc _ _ _| .one1 _ _| .nils=>true
 | .ptr _ o=>Fj 1000000000 o
 |_=>false
def cellsOf(n:Nat):Leaf Ty den->Option (List (Leaf Ty den))
 | .agg u y=>bif Ey (E.U.size u) n then some (E.U.cells u y)else none
 |l=>bif A5F l&&Ey n 1 then some [l]else none
def A2h(cl:Leaf Ty den->Leaf Ty den)(s:St Ty den)(fs:List (Nat×Nat)):List (Nat×Fb)->List (Leaf Ty den)->Option (List (Leaf Ty den))
 |[],ls=>some ls
 |(j,x)::r,ls=>match fs[j]? with
  |some (o,n)=>match cellsOf E n (cl (opl E s 0 x))with
   |some ys=>bif Fj (o+n) ls.length then A2h cl s fs r (T5 ls o ys)else none
   |none=>none
  |none=>none
def bnO(d:Ed):Nat:=match d with|some i=>E.bn i|none=>99
def mbO(d:Ed):Bool:=match d with|some i=>E.mb i|none=>false
def tyN(t:Ew):Ed:=match E.zr t with
 |some zs=>some zs.length
 |none=>none
def A9(o:Oper)(s:St Ty den)(k:Ent Ty den->St Ty den->Option R):Option R:=
 match o.op with
 | .move x=>k (opd E s o.type x) s
 | .assign x=>bif A0c x then
   (match opl E s o.type x with
   | .sl u l _=>k (.one (.sl u l (some (C4 o.dst)))) (s.fresh (C4 o.dst))
   |l=>k (.one l) s)
  else k (opd E s o.type x) s
 | .pick c a b=>match opl E s 0 c with
  | .bool true=>k (.one (opl E s o.type a)) s
  | .bool false=>k (.one (opl E s o.type b)) s
  |_=>none
 | .extract x i=>match opd E s 0 x with
  | .tup ls=>match ls[i]? with
   |some l=>k (.one l) s
   |none=>none
  |_=>none
 | .binOp op t x y _=>match opl E s t x,opl E s t y with
  | .int k0 a,.int k1 b=>match op with
   | .shr=>bif decide (0<=b)&&decide (b<=31)&&decide (k0=.i32)then k (.one (.int k0 (a / 2^b.toNat))) s else none
   | .shl=>bif decide (0<=b)&&decide (b<=31)&&decide (k0=.i32)then k (.one (.int k0 (k0.wrap (a*2^b.toNat)))) s else none
   | .quo=>bif decide (k0=k1)&& !decide (b=0)then k (.one (.int k0 (k0.wrap (a.tdiv b)))) s else none
   | .rem=>bif decide (k0=k1)&& !decide (b=0)then k (.one (.int k0 (a.tmod b))) s else none
   |_=>bif decide (k0=k1)then(match B3U op k0 a b with|some l=>k (.one l) s|none=>none)else none
  | .str a,.str b=>match op with
   | .add=>bif decide (a.length+b.length<=9223372036854775807)then k (.one (.str (a++b))) s else none
   | .eql=>k (.one (.bool (a==b))) s
   | .neq=>k (.one (.bool (!(a==b)))) s
   |_=>none
  | .bool a,.bool b=>match E.tb t with
   | .bool=>match op with
    | .eql=>k (.one (.bool (a==b))) s
    | .neq=>k (.one (.bool (!(a==b)))) s
    |_=>none
   |_=>none
  |_,_=>none
 | .unOp op _ x=>match op,opl E s 0 x with
  | .not,.bool b=>k (.one (.bool (!b))) s
  | .neg,.int k0 n=>k (.one (.int k0 (k0.wrap (0 - n)))) s
  |_,_=>none
 | .convert src dst x=>match E.tb src,E.tb dst,opl E s src x with
  | .int _,.int k0,.int _ n=>k (.one (.int k0 (k0.wrap n))) s
  | .slice t e,.str,.sl u l _=>match E.tb e,P8 E.U t u l,E.U.toBytes t,E.U.toRunes t with
   | .int .u8,some l',some f,_=>k (.one (.str (f l'))) s
   | .int .i32,some l',_,some f=>k (.one (.str (A4M (f l')))) s
   |_,_,_,_=>none
  | .str,.slice t e,.str b=>match E.tb e,E.U.ofBytes t,E.U.ofRunes t with
   | .int .u8,some f,_=>bif A3 b.length 1 then k (.one (.sl t (f b) none)) s else none
   | .int .i32,_,some f=>bif A3 b.length 1 then k (.one (.sl t (f ((Gv ⟨b.toArray⟩ b.length 0 #[]).toList.map λ| .int _ n=>n|_=>0)) (some (C4 o.dst)))) (s.fresh (C4 o.dst))else none
   |_,_,_=>none
  | .slice t e,.slice _ _,.sl u l (some d)=>match P8 E.U t u l,E.tb e with
   |some l',.int .u8=>bif Ey src dst&&(mem d s.live&&Ez 0 l'.length)then k (.one (.sl t l' none)) (s.kill d)else none
   |_,_=>none
  |_,_,_=>none
 | .indexAddr t x i=>match E.tb t,opl E s t x,opl E s 0 i with
  | .slice t' _,.sl u l _,.int _ n=>match P8 E.U t' u l with
   |some l'=>match idx l' n with
    |some y=>k (.one (.elem t' y 0)) s
    |none=>none
   |none=>none
  |_,_,_=>none
 | .index t x i=>match E.tb t,opl E s t x,opl E s 0 i with
  | .str,.str b,.int _ n=>match idx b n with
   |some y=>k (.one (.int .u8 (y.toNat:Int))) s
   |none=>none
  |_,_,_=>none
 | .build t ps=>bif mbO E o.dst then(match E.tb t,E.zr t with
  | .struct _ fs,some zs=>match A2h E Leaf.close s fs ps.toList (A1I (bnO E o.dst) 0 zs)with
   |some ls=>k (.st ls) (A4s (bnO E o.dst) 0 s zs)
   |none=>none
  |_,_=>none)else match E.tb t with
  | .struct u fs=>match E.zr t with
   |some zs=>match A2h E Leaf.close s fs ps.toList zs with
    |some ls=>match E.U.dec u ls with
     |some x=>k (.one (.agg u x)) s
     |none=>none
    |none=>none
   |none=>none
  |_=>none
 | .alloc t=>match o.dst,E.zr t with
  |some i,some zs=>bif E.oz i then(bif Ez 0 zs.length then k (.one (.ptr (C4 (some i)) 0)) ((A4s (C4 (some i)) 0 (s.fresh (C4 (some i))) zs).set (bxi (C4 (some i))) (.bx (C4 (some i)) (A5y (Ey t E.U.bty) (C4 (some i)) (A1I (C4 (some i)) 0 zs))))else none)
   else bif Ez 0 zs.length then k (.one (.ptr (C4 (some i)) 0)) ((s.fresh (C4 (some i))).set (bxi (C4 (some i))) (.bx (C4 (some i)) zs))else none
  |_,_=>none
 | .box t x=>match o.dst,E.zr t with
  |some i,some zs=>match opd E s t x with
   | .st ys=>bif E.mb i&&(Ey ys.length zs.length&&Ez 0 zs.length)then k (.one (.ptr (C4 (some i)) 0)) ((s.fresh (C4 (some i))).set (bxi (C4 (some i))) (.bx (C4 (some i)) (A5y (Ey t E.U.bty) (C4 (some i)) (ys.map (·.strip (C4 (some i)))))))else none
   |_=>match cellsOf E zs.length (opl E s t x).close with
   |some ys=>bif E.mb i then(bif Ez 0 zs.length then k (.one (.ptr (C4 (some i)) 0)) ((s.fresh (C4 (some i))).set (bxi (C4 (some i))) (.bx (C4 (some i)) ys))else none)
    else(match opl E s t x with
    | .agg u y=>bif Ey (E.U.size u) zs.length then k (.one (.elem u y 0)) s else none
    |_=>none)
   |none=>none
  |_,_=>none
 | .nilCheck x=>match opl E s 0 x with
  | .elem u y off=>k (.one (.elem u y off)) s
  | .ptr d off=>bif Ez off 1000000 then k (.one (.ptr d off)) s else none
  |_=>none
 | .store t x y=>match o.dst,opl E s 0 x,tyN E t with
  |none,.ptr d off,some n=>match opd E s t y with
   | .st ys=>(match L8 s d with
    |some ls=>bif Ey ys.length n&&(Fj (off+n) ls.length&&Ez off 1000000)then k (.one .any) (s.set (bxi d) (.bx d (T5 ls off ys)))else none
    |none=>none)
   |_=>match L8 s d,cellsOf E n (opl E s t y)with
   |some ls,some ys=>bif Fj (off+n) ls.length&&Ez off 1000000 then k (.one .any) (s.set (bxi d) (.bx d (T5 ls off ys)))else none
   |_,_=>none
  |_,_,_=>none
 | .fieldAddr t x i=>match E.tb t,opl E s 0 x with
  | .struct v fs,.elem u y off=>match fs[i]? with
   |some (o,n)=>bif Ez 0 n then k (.one (.elem u y (off+o))) s else none
   |none=>none
  | .struct v fs,.ptr d off=>match fs[i]? with
   |some (o,n)=>bif Ez 0 n&&(Ez off 1000000&&Ez (off+o) 1000000)then k (.one (.ptr d (off+o))) s else none
   |none=>none
  |_,_=>none
 | .load t x=>match E.tb t with
  | .other=>none
  | .iface u=>match opl E s 0 x with
   | .elem u' y off=>match(bif Ey off 0 then P8 E.U u u' [y]else none)with
    |some [y']=>k (.one (.one1 u y')) s
    |_=>none
   |_=>none
  | .struct u _=>match opl E s 0 x with
   | .elem u' y off=>match(bif Ey off 0 then P8 E.U u u' [y]else none)with
    |some [y']=>k (.one (.agg u y')) s
    |_=>match E.U.dec u (((E.U.cells u' y).drop off).take (E.U.size u))with
     |some z=>k (.one (.agg u z)) s
     |none=>none
   | .ptr d off=>match L8 s d with
    |some ls=>bif Ez off 1000000 then(match E.U.dec u (F6 ((ls.drop off).take (E.U.size u)))with
     |some z=>k (.one (.agg u z)) s
     |none=>none)else none
    |none=>none
   |_=>none
  |_=>match opl E s 0 x with
   | .elem u y off=>match(E.U.cells u y)[off]? with
    |some l=>k (.one l.close) s
    |none=>none
   | .ptr d off=>match L8 s d with
    |some ls=>bif Ez off 1000000 then(match ls[off]? with
     |some l=>k (.one l) s
     |none=>none)else none
    |none=>none
   |_=>none
 | .makeInterface t x=>match E.tb t,opl E s t x with
  | .struct u _,.agg u' y=>match P8 E.U u u' [y]with
   |some [y']=>k (.one (.ifc t u y')) s
   |_=>none
  |_,_=>none
 | .slice t x lo hi mx=>match E.tb t,opl E s t x with
  | .str,.str b=>match mx,W8 E s 0 lo,W8 E s b.length hi with
   |none,some a,some c=>match sub b a c with
    |some r=>k (.one (.str r)) s
    |none=>none
   |_,_,_=>none
  | .slice t' _,.sl u l _=>match P8 E.U t' u l with
   |some l'=>match W8 E s 0 lo,W8 E s l'.length hi,mx with
    |some a,some c,none=>match sub l' a c with
     |some r=>k (.one (.sl t' r none)) s
     |none=>none
    |some a,some c,some m=>match opl E s 0 m with
     | .int _ m=>bif hi.isSome&&decide (m=c)then(match sub l' a c with
      |some r=>k (.one (.sl t' r none)) s
      |none=>none)else none
     |_=>none
    |_,_,_=>none
   |none=>none
  |_,_=>none
 | .buildSlice t n ps=>match E.tb t with
  | .slice u e=>match E.tb e with
   | .struct _ _=>match A3Y E e u s 0 ps.toList with
    |some xs=>bif Ey xs.length n&&Ez (n*E.U.size u) 65536 then k (.one (.sl u xs (some (C4 o.dst)))) (s.fresh (C4 o.dst))else none
    |none=>none
   |_=>match A29 E s e 0 ps.toList with
   |some ls=>match A8j E.U u ls with
    |some xs=>bif Ey xs.length n&&(Ey (E.U.size u) 1&&Ez n 65536)then k (.one (.sl u xs (some (C4 o.dst)))) (s.fresh (C4 o.dst))else none
    |none=>none
   |none=>none
  |_=>none
 | .makeSlice t l c=>match E.tb t,opl E s 0 l,opl E s 0 c with
  | .slice u _,.int _ 0,.int _ m=>bif decide (0<=m)&&A3 m.toNat (E.U.bytes u)then k (.one (.sl u [] (some (C4 o.dst)))) (s.fresh (C4 o.dst))else none
  |_,_,_=>none
 | .range t x=>match E.tb t,opl E s t x with
  | .str,.str b=>k (.iter b 0) s
  |_,_=>none
 | .next (.tmp i) true=>match s.get i with
  | .iter b pos=>bif decide (pos<b.length)then
    k (.tup [.bool true,.int .i64 (pos:Int),.int .i32 ((Gi ⟨b.toArray⟩ pos).1:Int)]) (s.set i (.iter b (pos+(Gi ⟨b.toArray⟩ pos).2)))
   else k (.tup [.bool false]) s
  |_=>none
 | .call c=>match c.callee with
  | .value (.func f)=>match E.bp f with
   |some ps=>bif E.ro f then B2d E f c.argTypes.toList c.args.toList s λe=>k e s
    else C1f E f ps c.argTypes.toList c.args.toList o.dst s k
   |none=>B6O E f c.argTypes.toList c.args.toList o.dst s k
  | .builtin b=>A2b E b c.argTypes.toList c.args.toList o.dst s k
  | .invoke x nm=>B0O (E.TIg nm) (E.bi nm) (opl E s 0 x::S1 E s c.argTypes.toList c.args.toList) o.dst s k
  |_=>none
 |_=>none
def isR:Leaf Ty den->Bool
 | .ptr _ o=>Fj 1000000000 o
 |_=>false
def clR(l:Leaf Ty den):Leaf Ty den:=bif isR l then l else l.close
def rmO(d:Ed):Bool:=match d with|some i=>E.rm i|none=>false
def rnO(d:Ed):Nat:=match d with|some i=>1000000+i|none=>1000000
def T0(o:Oper)(s:St Ty den):Bool:=
 match o.op with
 | .assign x=>A0c x&&rmO E o.dst
 | .build _ _=>mbO E o.dst
 | .buildSlice _ _ _=>rmO E o.dst
 | .indexAddr t x _=>isR (opl E s t x)
 | .load _ _=>mbO E o.dst
 | .slice t x _ _ _=>isR (opl E s t x)
 | .call c=>match c.callee with
  | .builtin .append=>rmO E o.dst
  | .value (.func f)=>E.nw f
  | .builtin .len=>match c.argTypes.toList,c.args.toList with
   |[t],[x]=>isR (opl E s t x)||B1r (opl E s t x)
   |_,_=>false
  |_=>false
 |_=>false
def A3X(U:UO Ty den)(t:Ty)(l:List (den t)):List (Leaf Ty den):=l.flatMap (U.cells t)
def okW(n t sz:Nat):Bool:=Ez n 10000&&(Ez t 1000&&Ez sz 100)
def A8z(d:Nat)(ls:List (Leaf Ty den))(s:St Ty den):St Ty den:=(s.fresh d).set (bxi d) (.bx d (ls.map (·.strip d)))
def I4(o:Oper)(s:St Ty den)(k:Ent Ty den->St Ty den->Option R):Option R:=
 match o.op with
 | .assign _=>k (.one .nils) s
 | .build t ps=>match E.tb t,E.zr t with
  | .struct _ fs,some zs=>match A2h E clR s fs ps.toList zs with
   |some ls=>k (.st ls) s
   |none=>none
  |_,_=>none
 | .buildSlice t _ _=>A9 E o s λe _=>match e with
  | .one (.sl u xs _)=>bif Ez 0 xs.length&&okW xs.length t (E.U.size u)then k (.one (.ptr (rnO o.dst) (A0V xs.length t (E.U.size u)))) (A8z (rnO o.dst) (A3X E.U u xs) s)else none
  |_=>none
 | .indexAddr t x i=>match E.tb t,opl E s t x,opl E s 0 i with
  | .slice u _,.ptr d off,.int _ n=>bif decide (0<=n)&&(Ez n.toNat (rN off)&&(Ey (rS off) (E.U.size u)&&Ez (n.toNat*rS off) 1000000))then k (.one (.ptr d (n.toNat*rS off))) s else none
  |_,_,_=>none
 | .load t x=>match E.tb t,opl E s 0 x with
  | .struct u _,.ptr d off=>match L8 s d with
   |some ls=>bif Ez off 1000000&&Fj (off+E.U.size u) ls.length then k (.st ((ls.drop off).take (E.U.size u))) s else none
   |none=>none
  |_,_=>none
 | .slice t x none (some y) none=>match E.tb t,opl E s t x,opl E s 0 y with
  | .slice _ _,.ptr d off,.int _ n=>bif decide (0<=n)&&Fj n.toNat (rN off)then k (.one (.ptr d (A0V n.toNat (rT off) (rS off)))) s else none
  |_,_,_=>none
 | .call c=>match c.callee,c.argTypes.toList,c.args.toList with
  | .builtin .len,[t],[x]=>match E.tb t,opl E s t x with
   | .slice _ _,.ptr _ off=>k (.one (.int .i64 (rN off))) s
   | .slice _ _,.nils=>k (.one (.int .i64 0)) s
   |_,_=>none
  | .builtin .append,[t,u],[x,y]=>match E.tb t,E.tb u,opl E s u y with
   | .slice t' _,.slice _ _,.sl v m _=>match P8 E.U t' v m with
    |some m'=>bif Ez 0 m'.length then(match opl E s t x with
     | .nils=>bif okW m'.length t (E.U.size t')&&A3 m'.length (E.U.bytes t')then k (.one (.ptr (rnO o.dst) (A0V m'.length t (E.U.size t')))) (A8z (rnO o.dst) (A3X E.U t' m') s)else none
     | .ptr d off=>match L8 s d with
      |some ls=>bif(Fj 1000000 d&&(Fj 1000000000 off&&Fj (rN off*rS off) ls.length))&&(Ey (rS off) (E.U.size t')&&(okW (rN off+m'.length) t (E.U.size t')&&A3 (rN off+m'.length) (E.U.bytes t')))then
       k (.one (.ptr d (A0V (rN off+m'.length) t (E.U.size t')))) (A8z d (ls.take (rN off*rS off)++A3X E.U t' m') s)else none
      |none=>none
     |_=>none)else none
    |none=>none
   |_,_,_=>none
  | .value (.func f),dS,args=>match o.dst,E.TNg f (F6 (S1 E s dS args))with
   |some i,some (gd,ls)=>bif gd&&Ez i 900000 then k (.one (.ptr (C4 (some i)) 0)) ((s.fresh (C4 (some i))).set (bxi (C4 (some i))) (.bx (C4 (some i)) ls))else none
   |_,_=>none
  |_,_,_=>none
 |_=>none
def O1(o:Oper)(s:St Ty den)(k:Ent Ty den->St Ty den->Option R):Option R:=
 bif E.rw&&T0 E o s then I4 E o s k else A9 E o s k
def A4N:Value->Bool
 | .bool _=>false
 |_=>true
def okd(m n:Nat)(d:Ed):Bool:=match d with|some i=>Ez i n&&Fj m i|none=>true
def B4y(d:Nat):Fb->Bool
 | .tmp t=> !Ey t d
 |_=>true
def A9R(o o2:Oper)(s:St Ty den):Option (Nat×Leaf Ty den):=
 match o.op,o.dst,o2.op with
 | .alloc t,some d,.store t2 (.tmp d2) y=>bif Ey d d2&&(Ey t t2&&(B4y d y&&(o2.guard.isNone&&o2.dst.isNone)))then(match E.tb t,opl E s 0 y with
  | .struct u _,.agg u' x=>(match P8 E.U u u' [x]with
   |some [x']=>some (d,.elem u x' 0)
   |_=>none)
  |_,_=>none)else none
 |_,_,_=>none
def R2:Op->Bool
 | .alloc _=>true
 |_=>false
def A53(ops:Array Oper):List Oper->Bool->St Ty den->(St Ty den->Option R)->Option R
 |[],_,s,k=>k s
 |_::r,true,s,k=>A53 ops r false s k
 |o::r,false,s,k=>bif okd E.np E.nt o.dst then match o.guard with
  |none=>bif R2 o.op&& !(mbO E o.dst)then(match r with
    |o2::_=>(match A9R E o o2 s with
     |some (d,l)=>A53 ops r true (s.set d (.one l)) k
     |none=>none)
    |[]=>none)
   else O1 E o s λe s'=>A53 ops r false (s'.setO o.dst e) k
  |some (j,aY)=>match(ops[j]?).bind (·.dst)with
   |some g=>match s.get g with
    | .one (.bool b)=>bif b==aY
     then O1 E o (s.set g (.one (.bool aY))) λe s'=>A53 ops r false (s'.setO o.dst e) k
     else A53 ops r false ((s.set g (.one (.bool (!aY)))).setO o.dst (.one (.val undef))) k
    | .one (.val v)=>bif A4N v then A53 ops r false (s.setO o.dst (.one (.val undef))) k else none
    |_=>none
   |none=>none
  else none
def A20(ops:Array Oper)(os:List Oper)(s:St Ty den)(k:St Ty den->Option R):Option R:=A53 E ops os false s k
def Leaf.has(d:Nat):Leaf Ty den->Bool
 | .sl _ _ (some e)=>Ey e d
 | .ptr e _=>Ey e d
 |_=>false
def Ent.has(d:Nat):Ent Ty den->Bool
 | .one l=>l.has d
 | .tup ls=>ls.any (·.has d)
 | .st ls=>ls.any (·.has d)
 | .bx e ls=>bif Ey e d then true else ls.any (·.has d)
 |_=>false
def A1J(d:Nat):List (Nat×Ent Ty den)->Bool
 |[]=>false
 |(_,e)::r=>bif e.has d then true else A1J d r
def R8(o:Oper):Bool:=
 match o.op with
 | .move _| .pick .. | .extract .. | .binOp .. | .unOp .. | .indexAddr .. | .index .. | .load .. | .slice .. | .fieldAddr .. | .nilCheck _=>true
 | .build .. => !mbO E o.dst
 | .assign _=>true
 | .buildSlice _ _ _=>true
 | .makeInterface _ _=>true
 | .convert _ d _=>match E.tb d with| .slice _ _=>false|_=>true
 | .call c=>match c.callee with
  | .value (.func f)=>(E.bp f).isNone||E.ro f
  | .builtin .len| .builtin .min| .builtin .max=>true
  |_=>false
 |_=>false
def A4O(o:Oper)(j:Nat):Bool:=o.after.toList.any λe=>Ey e.on j&&(match e.ground with| .textOnly _| .gcOnly _=>false|_=>true)
def F5:Nat->List Oper->List (Nat×Nat)
 |_,[]=>[]
 |i,o::r=>match o.dst with
  |some d=>(d,i)::F5 (i+1) r
  |none=>F5 (i+1) r
def A6U(o:Oper):Bool:=R2 o.op&&(o.guard.isNone&&mbO E o.dst)
def A1x(o:Oper):Bool:=R8 E o||A6U E o
def P1:List Oper->Nat
 |[]=>0
 |o::r=>bif A1x E o then P1 r+1 else 0
def gcE(e:Edge):Bool:=match e.ground with| .gcOnly _=>true|_=>false
def txE(e:Edge):Bool:=match e.ground with| .textOnly _=>true|_=>false
def B9u(ops:Array Oper)(m i:Nat)(e:Edge):Bool:=Ez e.on i||(gcE e&&(Ez e.on m&&(match ops[e.on]? with|some o=>o.after.toList.all txE|none=>false)))
def B8e(ops:Array Oper)(m:Nat)(jr:List (Nat×Nat))(i:Nat)(o:Oper):Bool:=
 A1x E o&&(o.after.toList.all (B9u ops m i)&&(o.looksAt ops).all λt=>Ez t 1000000&&jr.all λp=> !Ey p.1 t||A4O o p.2)
def A9O(e:Edge):Bool:=match e.ground with| .textOnly _| .gcOnly _=>false|_=>true
def A57(cl:List DX):List Edge->DX
 |[]=>[]
 |e::r=>bif A9O e then e.on::(cl.getD e.on []++A57 cl r)else A57 cl r
def A3I(o:Oper):Bool:=o.guard.isNone&&(match o.op with| .move (.tmp _)=>true|_=>false)
def A61(o:Oper):Bool:=o.guard.isNone&&(match o.op with| .extract (.tmp _) _=>true|_=>false)
def A6P(ops:Array Oper)(oi:Oper)(i:Nat):Nat->List Oper->Bool
 |_,[]=>true
 |j,o::r=>(Ey j i||(A4O o i||oi.apart ops o))&&A6P ops oi i (j+1) r
def B0w:List Oper->Bool
 |[]=>true
 |o::r=>(match o.op with| .select _ _=>false|_=>true)&&B0w r
def B9T(ds:DX)(o:Oper):Bool:=match o.op with| .move (.tmp t)=> !mem t ds|_=>false
def D5V:List Edge->Bool
 |[]=>true
 |_=>false
def A1K(ops:Array Oper)(m:Nat)(ds:DX)(i:Nat)(o:Oper):Bool:=
 Ez i m&&(A3I o&&(D5V o.after.toList&&(A6P ops o i 0 ops.toList&&B9T ds o)))
def tl1(ops:Array Oper)(m:Nat)(i:Nat)(o:Oper):Bool:=
 Fj m i&&((A3I o||A61 o)&&A6P ops o i (i+1) (ops.toList.drop (i+1)))
def flL(ops:Array Oper)(m:Nat)(ds:DX):Nat->List Oper->DX
 |_,[]=>[]
 |i,o::r=>bif A1K ops m ds i o||tl1 ops m i o then i::flL ops m ds (i+1) r else flL ops m ds (i+1) r
def A9x(fl:DX):Nat->DX->Bool
 |0,_=>true
 |n+1,l=>(mem n l||mem n fl)&&A9x fl n l
def A9G(fl:DX)(m:Nat):Nat->List Oper->List DX->Bool
 |_,[],_=>true
 |i,o::r,cl=>o.after.toList.all (λe=>Ez e.on i||(Ez i m&&Ez e.on m))&&((Ez i m||A9x fl i (A57 cl o.after.toList))&&A9G fl m (i+1) r (cl++[A57 cl o.after.toList]))
def A6X(ops:Array Oper)(m:Nat)(jr:List (Nat×Nat)):Nat->List Oper->Bool
 |_,[]=>true
 |i,o::r=>B8e E ops m jr i o&&A6X ops m jr (i+1) r
def V6:DX->Bool
 |[]=>true
 |x::r=> !mem x r&&V6 r
def A6w:DX->Bool
 |[]=>true
 |x::r=>Ez x 1000000&&A6w r
def C0Y(ops:Array Oper)(m:Nat):Bool:=
 A6X E ops m (F5 0 (ops.toList.take m)) 0 (ops.toList.take m)&&(A9G (flL ops m ((F5 0 (ops.toList.take m)).map (·.1)) 0 ops.toList) m 0 ops.toList []&&(V6 ((F5 0 ops.toList).map (·.1))&&(A6w ((F5 0 ops.toList).map (·.1))&&B0w ops.toList)))
def T7:DX->Nat
 |[]=>0
 |_::r=>T7 r+1
def Ent.close1:Ent Ty den->Ent Ty den
 | .one l=>.one l.close
 |e=>e
def A34(o:Oper)(s:St Ty den)(k:Ent Ty den->Option R):Option R:=
 match o.op with
 | .buildSlice _ _ _=>A9 E o s λe _=>k e.close1
 | .assign x=>bif A0c x then(match opl E s o.type x with
   | .sl u l _=>k (.one (.sl u l none))
   |_=>none)else O1 E o s λe s'=>bif Ey (T7 s'.live) (T7 s.live)then k e else none
 | .call c=>match c.callee with
  | .value (.func f)=>B2d E f c.argTypes.toList c.args.toList s k
  |_=>O1 E o s λe s'=>bif Ey (T7 s'.live) (T7 s.live)then k e else none
 |_=>O1 E o s λe s'=>bif Ey (T7 s'.live) (T7 s.live)then k e else none
def T2(o:Oper):Bool:=
 match o.op with
 | .buildSlice _ _ _=>true
 | .assign x=>A0c x
 |_=>false
def A3d(s:St Ty den):List Oper->Bool
 |[]=>true
 |o::r=>bif T2 o then !A1J (C4 o.dst) s.fr&&A3d s r else A3d s r
def Z4(ops:Array Oper):List Oper->St Ty den->(St Ty den->Option R)->Option R
 |[],s,k=>bif A3d s (ops.toList.take (P1 E ops.toList))then k s else none
 |o::r,s,k=>bif okd E.np E.nt o.dst then match o.guard with
  |none=>bif R2 o.op then Z4 ops r (s.setO o.dst (.one .any)) k else A34 E o s λe=>Z4 ops r (s.setO o.dst e) k
  |some (j,aY)=>match(ops[j]?).bind (·.dst)with
   |some g=>match s.get g with
    | .one (.bool b)=>bif b==aY
     then A34 E o s λe=>Z4 ops r ((s.set g (.one (.bool aY))).setO o.dst e) k
     else Z4 ops r ((s.set g (.one (.bool (!aY)))).setO o.dst (.one (.val undef))) k
    | .one (.val v)=>bif A4N v then Z4 ops r (s.setO o.dst (.one (.val undef))) k else none
    |_=>none
   |none=>none
  else none
def Y5(ops:Array Oper):List Oper->St Ty den->(St Ty den->Option R)->Option R
 |[],s,k=>k s
 |o::r,s,k=>bif okd E.np E.nt o.dst then match o.guard with
  |none=>O1 E o s λe s'=>Y5 ops r (s'.setO o.dst e) k
  |some (j,aY)=>match(ops[j]?).bind (·.dst)with
   |some g=>match s.get g with
    | .one (.bool b)=>bif b==aY
     then O1 E o (s.set g (.one (.bool aY))) λe s'=>Y5 ops r (s'.setO o.dst e) k
     else Y5 ops r ((s.set g (.one (.bool (!aY)))).setO o.dst (.one (.val undef))) k
    | .one (.val v)=>bif A4N v then Y5 ops r (s.setO o.dst (.one (.val undef))) k else none
    |_=>none
   |none=>none
  else none
def A0Q:Nat->List Oper->Option (Nat×Nat×Ew)
 |_,[]=>none
 |i,o::r=>match o.op,o.dst with
  | .alloc t,some d=>some (i,d,t)
  |_,_=>A0Q (i+1) r
def A8k:List Oper->Bool
 |[]=>true
 |o::r=> !R2 o.op&&A8k r
def U8(i:Nat)(zs:List (Leaf Ty den))(s:St Ty den):St Ty den:=
 ((s.fresh (C4 (some i))).set (bxi (C4 (some i))) (.bx (C4 (some i)) zs)).set i (.one (.ptr (C4 (some i)) 0))
def B2a(ops:Array Oper)(i:Nat):List Oper->Bool
 |[]=>true
 |o::r=> !mem i (o.looksAt ops)&&B2a ops i r
def B2V(ops:Array Oper)(s:St Ty den)(k:St Ty den->Option R):Option R:=
 bif C0Y E ops (P1 E ops.toList)then
  Z4 E ops (ops.toList.take (P1 E ops.toList)) (s.dels ((F5 0 (ops.toList.take (P1 E ops.toList))).map (·.1))) λsF=>
   match A0Q 0 (ops.toList.take (P1 E ops.toList))with
   |none=>Y5 E ops (ops.toList.drop (P1 E ops.toList)) sF k
   |some (ia,i,t)=>match E.zr t with
    |some zs=>bif A8k ((ops.toList.take (P1 E ops.toList)).drop (ia+1))&&(B2a ops i (ops.toList.take (P1 E ops.toList))&&(Ez 0 zs.length&&(A2c zs&&(!A1J (C4 (some i)) sF.fr&& !E.oz i))))then
     Y5 E ops (ops.toList.drop (P1 E ops.toList)) (U8 i zs sF) k else none
    |none=>none
 else none
def A12(m:Nat):Array Bool:=(Kk m true++Kk 6 false).toArray
def A7U:DX->DX->Bool
 |[],[]=>true
 |a::x,b::y=>Ey a b&&A7U x y
 |_,_=>false
def rdy(ops:Array Oper)(l:Array Bool)(rs:DX):Bool:=A7U (Jw .any ops l) rs
def tk1(ops:Array Oper)(l:Array Bool)(i:Nat):Bool:=Region.free .any ops l i&&(Jw .any ops l).contains i
abbrev seT(l:Array Bool)(i:Nat):Array Bool:=l.setIfInBounds i true
def ls4(m:Nat):Array Bool:=seT (seT (seT (seT (A12 m) m) (m+1)) (m+3)) (m+4)
def A8E(ops:Array Oper)(m:Nat):Bool:=
 Ey ops.size (m+6)&&(Region.noSelect ops&&(rdy ops (A12 m) [m]&&(tk1 ops (seT (A12 m) m) (m+1)&&(tk1 ops (seT (seT (A12 m) m) (m+1)) (m+3)&&
  (tk1 ops (seT (seT (seT (A12 m) m) (m+1)) (m+3)) (m+4)&&(rdy ops (ls4 m) [m+2,m+5]&&(rdy ops (seT (ls4 m) (m+2)) [m+5]&&
  (rdy ops (seT (ls4 m) (m+5)) [m+2]&&rdy ops (seT (seT (ls4 m) (m+2)) (m+5)) []))))))))
def A5E(s:St Ty den):DX->St Ty den
 |[]=>s
 |d::r=>A5E (s.set d (.one .any)) r
def B2A(ops:Array Oper)(m:Nat)(s:St Ty den)(k:St Ty den->Option R):Option R:=
 match ops.toList.drop m with
 |[⟨some dA,.call c,_,_,_,none⟩,⟨some dI,.indexAddr t2 (.tmp a2) (.tmp jn),_,_,_,none⟩,⟨none,.store t3 (.tmp i3) (.tmp jv),_,_,_,none⟩,⟨some dN,.nilCheck (.tmp jp),_,_,_,none⟩,⟨some dF,.fieldAddr t5 (.tmp n5) fi,_,_,_,none⟩,⟨none,.store t6 (.tmp f6) (.tmp a6),_,_,_,none⟩]=>
  match c.callee,c.argTypes.toList,c.args.toList with
  | .builtin .append,[t1,u1],[x1,y1]=>
   bif A7U [dA,dI,dN,dF,dA,t1] [a2,i3,n5,f6,a6,t2]&&(V6 [dA,dI,dN,dF]&&((!mem jn [dA,dI,dN,dF]&&(!mem jv [dA,dI,dN,dF]&& !mem jp [dA,dI,dN,dF]))&&[dA,dI,dN,dF].all λd=>okd E.np E.nt (some d)))then
    match E.tb t1,E.tb u1,opl E s t1 x1,opl E s u1 y1,opl E s 0 (.tmp jv),opl E s 0 (.tmp jn),E.tb t5 with
    | .slice t' _,.slice _ _,.sl t0 l0 (some d),.sl u0 m0 _,.agg v0 x0,.int .i64 n,.struct _ fs=>
     match opl E (s.fresh d) 0 (.tmp jp)with
     | .ptr b off=>(match P8 E.U t' t0 l0,P8 E.U t' u0 m0,P8 E.U t' v0 [x0],fs[fi]?,L8 (s.fresh d) b,tyN E t3,tyN E t6 with
     |some l,some [_],some [x],some (o,n1),some ls,some sz,some ya=>
      bif(mem d s.live&&(Ey sz (E.U.size t')&&(Ey ya 1&&(Ez 0 n1&&(Fj (off+o+1) ls.length&&(Ez off 1000000&&Ez (off+o) 1000000))))))&&(decide (n=(l.length:Int))&&A3 (l.length+1) (E.U.bytes t'))then
       k ((A5E (s.fresh d) [dA,dI,dN,dF]).set (bxi b) (.bx b (T5 ls (off+o) [.sl t' (l++[x]) (some d)])))
      else none
     |_,_,_,_,_,_,_=>none)
     |_=>none
    |_,_,_,_,_,_,_=>none
   else none
  |_,_,_=>none
 |_=>none
def C3F(ops:Array Oper)(m:Nat):Bool:=
 A6X E ops m (F5 0 (ops.toList.take m)) 0 (ops.toList.take m)&&(((ops.toList.drop m).all λo=>(Gb m).all λj=>A4O o j)&&(V6 ((F5 0 ops.toList).map (·.1))&&(A6w ((F5 0 ops.toList).map (·.1))&&A8k (ops.toList.take m))))
def B52(ops:Array Oper)(s:St Ty den)(k:St Ty den->Option R):Option R:=
 bif A8E ops (P1 E ops.toList)then(bif C3F E ops (P1 E ops.toList)then
  Z4 E ops (ops.toList.take (P1 E ops.toList)) (s.dels ((F5 0 (ops.toList.take (P1 E ops.toList))).map (·.1))) λsF=>B2A E ops (P1 E ops.toList) sF k else none)
 else B2V E ops s k
def C8(body:St Ty den->(Ex->St Ty den->Option R)->Option R):Nat->St Ty den->(Ex->St Ty den->Option R)->Option R
 |0,_,_=>none
 |n+1,s,k=>body s λe s'=>match e with
  | .normal=>C8 body n s' k
  |e=>k e s'
def C1(b:St Ty den->(Ex->St Ty den->Option R)->Option R)(k:Ex->St Ty den->Option R):Ex->St Ty den->Option R
 | .normal,s=>b s k
 |e,s=>k e s
def A7(id:Nat)(k:Ex->St Ty den->Option R):Ex->St Ty den->Option R
 | .exit j,s=>bif Ey j id then k .normal s else k (.exit j) s
 |e,s=>k e s
def A3Q(d:Nat):DX->DX
 |[]=>[d]
 |e::r=>bif Ez d e then d::e::r else e::A3Q d r
def gcN(fr:List (Nat×Ent Ty den)):DX->DX
 |[]=>[]
 |d::r=>bif A1J d fr then A3Q d (gcN fr r)else gcN fr r
def St.gc(s:St Ty den):St Ty den:={s with live:=gcN s.fr s.live}
def A9X:Code->Nat
 | .region id _ _=>id
 | .seq a _=>A9X a
 | .block _ c=>A9X c
 |_=>9999
def A3c(ds:DX)(k:Ex->St Ty den->Option R):Ex->St Ty den->Option R
 | .normal,s=>k .normal (s.dels ds).gc
 |e,s=>k e s
def B2(n:Nat):Code->St Ty den->(Ex->St Ty den->Option R)->Option R
 | .skip,s,k=>k .normal s
 | .region id ops false,s,k=>A20 E ops ops.toList s λs'=>k .normal (s'.dels (E.drop id)).gc
 | .region id ops true,s,k=>B52 E ops s λs'=>k .normal (s'.dels (E.drop id)).gc
 | .seq a b,s,k=>B2 n a s (C1 (B2 n b) k)
 | .cond c a b,s,k=>match opl E s 0 c with
  | .bool t=>bif t then B2 n a s k else B2 n b s k
  |_=>none
 | .block id c,s,k=>B2 n c s (A7 id k)
 | .loop c,s,k=>C8 (λs' k'=>B2 n c s' (A3c (E.drop (10000+A9X c)) k')) n (s.dels (E.drop (10000+A9X c))).gc k
 | .exit id,s,k=>k (.exit id) s
 | .ret,s,k=>k .ret s
 |_,_,_=>none
def A6N(s:St Ty den)(j:Nat):Leaf Ty den->Leaf Ty den
 | .sl t l (some d)=>bif mem d s.live then .sl t l (some (bif Ey d 0 then 0 else j+1))else .sl t l none
 | .ptr _ _=>.any
 |l=>l
def B53(s:St Ty den)(ty:Ew)(l:Leaf Ty den):Option (Leaf Ty den):=match E.tb ty,l with
 | .struct u _,.ptr d off=>match L8 s d with
  |some ls=>bif Ez off 1000000 then(match E.fty ty with
   |some u'=>bif Ey (E.U.size u') (E.U.size u)then(E.U.dcx u' (F6 ((ls.drop off).take (E.U.size u)))).map (.agg u')else none
   |none=>(E.U.dec u (F6 ((ls.drop off).take (E.U.size u)))).map (.agg u))else none
  |none=>none
 |_,_=>none
def A0g:Nat->St Ty den->List Fx->Option (List (Leaf Ty den))
 |_,_,[]=>some []
 |j,s,.tmp t::r=>match s.get t with
  | .one l=>(A0g (j+1) (match l with| .sl _ _ (some d)=>s.kill d|_=>s) r).map (A6N s j l:: ·)
  |_=>none
 |j,s,.cell t ty::r=>match s.get t with
  | .one l=>match B53 E s ty l,A0g (j+1) s r with
   |some l',some ls=>some (l'::ls)
   |_,_=>none
  |_=>none
def K7:St Ty den->List Fx->St Ty den
 |s,[]=>s
 |s,.tmp t::r=>K7 (match s.get t with| .one (.sl _ _ (some d))=>s.kill d|_=>s) r
 |s,_::r=>K7 s r
def A8o(U:UO Ty den)(u:Ty):Nat->List (Leaf Ty den)->Option (List (den u))
 |0,_=>some []
 |n+1,ls=>match U.dcx u (ls.take (U.size u)),A8o U u n (ls.drop (U.size u))with
  |some x,some r=>some (x::r)
  |_,_=>none
def A5s(d:Nat)(ls:List (Leaf Ty den)):Leaf Ty den->Leaf Ty den
 | .ptr e off=>bif Ey e d then(bif Fj 1000000000 off then(match E.fty (rT off)with
  |some u=>bif Ey (E.U.size u) (rS off)&&Fj (rN off*rS off) ls.length then(match A8o E.U u (rN off) (F6 ls)with
   |some l=>.sl u l none
   |none=>.any)else .any
  |none=>.any)else .any)else .ptr e off
 |l=>l.strip d
def A4n(d:Nat)(ls:List (Leaf Ty den)):Ent Ty den->Ent Ty den
 | .one l=>.one (A5s E d ls l)
 | .tup xs=>.tup (xs.map (A5s E d ls))
 | .st xs=>.st (xs.map (A5s E d ls))
 | .bx e xs=>bif Ey e d then .one .any else .bx e (xs.map (A5s E d ls))
 |e=>e
def A6n(d:Nat)(ls:List (Leaf Ty den)):List (Nat×Ent Ty den)->List (Nat×Ent Ty den)
 |[]=>[]
 |(i,e)::r=>(i,A4n E d ls e)::A6n d ls r
def A7J:DX->St Ty den->St Ty den
 |[],s=>s
 |d::r,s=>A7J r (match L8 s d with
  |some ls=>{fr:=A6n E d ls s.fr,live:=rem d s.live}
  |none=>s)
def B1u(rs:List Fx)(s0:St Ty den):Option (Ent Ty den):=
 let s:=A7J E E.fzs s0
 match A0g E 0 s rs with
 |some [l]=>some (.one l)
 |some ls=>some (.tup ls)
 |none=>none
def B3(rs:List Fx):Ex->St Ty den->Option (Ent Ty den)
 | .normal,s| .ret,s=>B1u E rs s
 |_,_=>none
def A4w:Nat->List (Leaf Ty den)->List (Nat×Ent Ty den)
 |_,[]=>[]
 |i,l::r=>(i,.one l)::A4w (i+1) r
def P0:List (Leaf Ty den)->Bool
 |[]=>false
 | .sl _ _ (some 0)::_=>true
 |_::r=>P0 r
def A13(args:List (Leaf Ty den)):St Ty den:={fr:=A4w 0 args,live:=bif P0 args then [0]else []}
def A5(n:Nat)(fn:Func)(args:List (Leaf Ty den)):Option (Ent Ty den):=
 match fn.body with
 |some c=>bif Fj args.length E.nt then B2 E n c (A13 args) (B3 E fn.results.toList)else none
 |none=>none
def D5b(rs:List Fx):Ex->St Ty den->Option (List (Leaf Ty den))
 | .normal,s| .ret,s=>match rs with
  |[.tmp t]=>match s.get t with
   | .one (.ptr d o)=>bif Ey o 0&&Ez d 1000000 then L8 s d else none
   |_=>none
  |_=>none
 |_,_=>none
def B3o(n:Nat)(fn:Func)(args:List (Leaf Ty den)):Option (List (Leaf Ty den)):=
 match fn.body with
 |some c=>bif Fj args.length E.nt then(match B2 E n c (A13 args) (D5b fn.results.toList)with
  |some ls=>bif A2c ls&&Ez 0 ls.length then some ls else none
  |none=>none)else none
 |none=>none
def A0P:List (Leaf Ty den)->DX
 |[]=>[]
 | .sl _ _ (some d)::r=>d::A0P r
 | .ptr d _::r=>d::A0P r
 |_::r=>A0P r
def B4D:Nat->St Ty den->List (List (Leaf Ty den))->St Ty den
 |_,s,[]=>s
 |k,s,c::r=>B4D (k+1) (s.set (bxi (C0 k)) (.bx (C0 k) c)) r
def P4:Nat->Nat->DX
 |_,0=>[]
 |k,n+1=>C0 k::P4 (k+1) n
def pinned(s:St Ty den):Nat->DX->Bool
 |_,[]=>true
 |k,p::ps=>(match s.get p with| .one (.ptr d 0)=>Ey d (C0 k)&&Ez p E.np|_=>false)&&pinned s (k+1) ps
def B2o:List (List (Leaf Ty den))->List (List (Leaf Ty den))->Bool
 |[],[]=>true
 |a::r,b::r'=>Ey a.length b.length&&B2o r r'
 |_,_=>false
def L9(rs:List Fx)(ps:DX)(cs:List (List (Leaf Ty den))):Ex->St Ty den->Option (List (Leaf Ty den)×List (List (Leaf Ty den)))
 | .normal,s| .ret,s=>match A0g E 0 s rs,pkB 0 (K7 s rs) (P4 0 cs.length)with
  |some ls,some (ay,s')=>bif B2o cs ay&&(pinned E s 0 ps&&(A1W s' (P4 0 cs.length)&&Ez rs.length 100))then some (ls,ay)else none
  |_,_=>none
 |_,_=>none
def B1s(args:List (Leaf Ty den)):Nat->DX->Bool
 |_,[]=>true
 |k,p::ps=>(match args[p]? with|some (.ptr d 0)=>Ey d (C0 k)|_=>false)&&B1s args (k+1) ps
def C5(n:Nat)(fn:Func)(ps:DX)(args:List (Leaf Ty den))(cs:List (List (Leaf Ty den))):Option (List (Leaf Ty den)×List (List (Leaf Ty den))):=
 match fn.body with
 |some c=>bif Fj args.length E.nt&&(B1s args 0 ps&&(Ey ps.length cs.length&&Ez cs.length 100))then
  B2 E n c (B4D 0 {fr:=A4w 0 args,live:=A0P (F4 0 cs)} cs) (L9 E fn.results.toList ps cs)else none
 |none=>none
end ev
end Go.Aev
end
namespace Go.Aev
open Go
def D5(w:World)(b:Nat):Nat->Ea->World
 |_,[]=>w
 |o,v::r=>D5 (w.setCell ⟨b,o,none⟩ v) b (o+1) r
def A9r(w:World)(b o:Nat)(v:Value)(c:Array Value)(e:Ew)(fz:Nat×Nat)(h:w.heap[b]?=some (.cells c e fz)):
  (w.setCell ⟨b,o,none⟩ v).heap[b]?=some (.cells (c.setIfInBounds o v) e fz):=by
 simp[Jt,Hu,h]
def A8U(w:World)(b o k:Nat)(v:Value)(h:k≠b):(w.setCell ⟨b,o,none⟩ v).heap[k]?=w.heap[k]? :=by
 simp only[Jt,Hu];rw[Ek (by simpa using λe=>h e.symm)]
def A3O(P:Fg)(b:Nat)(e:Ew)(fz:Nat×Nat):∀(vs:Ea)(o:Nat)(w:World)(c:Array Value),
  w.heap[b]?=some (.cells c e fz)->o+vs.length<=c.size->(∀j,o<=j->j<o+vs.length->¬(fz.1<=j/\j<fz.2))->(∀v∈vs,v.oneCell'=true)->
  (∀(a:Addr)(i:Nat),a=⟨b,o - i,none⟩->i<=o->(Hx a vs i).run P w=.ok () (D5 w b o vs))/\
  (∃c',(D5 w b o vs).heap[b]?=some (.cells c' e fz)/\c'.size=c.size/\(∀j,j<o\/o+vs.length<=j->c'[j]?=c[j]?)/\(∀j v,vs[j]?=some v->c'[o+j]?=some v))/\
  (D5 w b o vs).heap.size=w.heap.size/\(∀k,k≠b->(D5 w b o vs).heap[k]?=w.heap[k]?)/\
  (D5 w b o vs).os=w.os/\(D5 w b o vs).tape=w.tape/\(D5 w b o vs).output=w.output:=by
 intro vs
 induction vs with
 |nil=>
  intro o w c h _ _ _;exact⟨λa i _ _=>rfl,⟨c,h,rfl,λ_ _=>rfl,λj v hj=>by simp at hj⟩,rfl,λ_ _=>rfl,rfl,rfl,rfl⟩
 |cons v vs ih=>
  intro o w c h hl hf h1;have dp:o<c.size:=by simp at hl;omega
  have aL:w.cell? ⟨b,o,none⟩=some c[o]:=by
   simp[Fs,h,dp]
  have nD:w.frozen? ⟨b,o,none⟩=false:=by
   have:=hf o (Fe _) Eo;simp only[World.frozen?,h];simp;omega
  have h':=A9r w b o v c e fz h;obtain⟨i1,⟨c',i2,i3,i4,i5⟩,i6,i7,i8,i9,Ak⟩:=ih (o+1) (w.setCell ⟨b,o,none⟩ v) _ h' (by simp at hl ⊢;omega)
   (λj a1 a2=>hf j Du Es) (λu hu=>h1 u (by simp[hu]))
  refine⟨?_,⟨c',i2,by simpa using i3,?_,?_⟩,by simpa [D5]using i6,?_,i8.trans rfl,by simpa [D5]using i9,Ak.trans rfl⟩
  ·intro a i ha hi;subst ha;have cL:(Io b (o - i) none).add i=⟨b,o,none⟩:=by
    unfold Addr.add;by_cases h0:i=0
    ·subst h0;simp
    ·simp[h0];omega
   have cU:=run_store P w ⟨b,o,none⟩ v .plain (h1 v Eo);simp only[aL,nD]at cU;simp only[Hx,Jv,cL,cU,Result.andThen_ok,Jm,if_false];exact i1 _ (i+1) Eo Du
  ·intro j hj;rw[i4 j (by simp at hj ⊢;omega)];simp at hj;rw[Jn];rw[Ek Du]
  ·intro j u hu;cases j with
   |zero=>
    simp at hu;subst hu;rw[i4 (o+0) Du];simp[dp]
   |succ j=>
    simp at hu;have:=i5 j u hu;rw[show o+(j+1)=o+1+j from Du];exact this
  ·intro k hk;simp only[D5];rw[i7 k hk,A8U w b o k v hk]
def A73(P:Fg)(u:Ew):Prop:=(∃e',P.underlying u=some (.slice e'))\/P.underlying u=some .string
def B1B{P:Fg}(w:World)(t u ty e:Ew)(i:Ia)(z:Value)(ht:P.underlying t=some (.slice e))(hu:A73 P u)(hi:P.info? e=some i)(hz:i.zero=some z)
  (base:Option Addr)(dq eZ:Nat)(dg:Ea)
  (cf:∀w':World,w'.heap=w.heap->(Gn i.size dq (.slice base dq eZ)).run P w'=.ok dg.toArray w')
  (x:Value)(m:Nat)(aR:Ea)(av:(He x).run P w=.ok m w)
  (js:∀w':World,w'.heap=w.heap->(Gn i.size m x).run P w'=.ok aR.toArray w')
  (hg:eZ<dq+m)(uw:dq+m<=9223372036854775807)(hb:(dq+m)*i.bytes<=140737488355328):
  (Gw #[t,u] ty #[.slice base dq eZ,x]).run P w=
    .ok (.slice (some ⟨w.heap.size,0,none⟩) (dq+m) (Gr w (dq+m) eZ e))
     (w.drew.alloc (.cells (dg.toArray++aR.toArray++Lb z.cells (Gr w (dq+m) eZ e - (dq+m))) e)):=by
 have hn:¬(dq+m<=eZ):=Du
 have oC:¬(9223372036854775807<((dq:Int)+(m:Int))):=Du
 have mF:=growslice_fits hg hb;have uy:¬(281474976710656<Builtin.nextslicecap (dq+m) eZ*i.bytes):=Du
 have hf:=js w.drew rfl;have Al:=cf w.drew rfl;rcases hu with⟨_,hd⟩|hd<;>
  (simp[Gw,Fc ht,Fc hd,sizeOf,Fp,zeroValue,hi,hz,av,hn,oC,uy,Iw,hf,Al,Gp,Gr]
   congr 2
   apply Im;simp[List.append_assoc])
def A7R{P:Fg}(w:World)(t u ty e:Ew)(i:Ia)(ht:P.underlying t=some (.slice e))(hu:A73 P u)(hi:P.info? e=some i)
  (base:Option Addr)(dq eZ:Nat)(x:Value)(m:Nat)(aR:Ea)(av:(He x).run P w=.ok m w)
  (js:(Gn i.size m x).run P w=.ok aR.toArray w)(w':World)
  (cU:∀a,base=some a->(Hx (a.add (dq*i.size)) aR).run P w=.ok () w')(qK:base=none->w'=w)
  (hg:dq+m<=eZ):
  (Gw #[t,u] ty #[.slice base dq eZ,x]).run P w=.ok (.slice base (dq+m) eZ) w':=by
 cases base with
 |none=>
  have:=qK rfl;subst this;rcases hu with⟨_,hd⟩|hd<;>
   (simp[Gw,Fc ht,Fc hd,sizeOf,Fp,hi,av,hg,js])
 |some a=>
  have hs:=cU a rfl;rcases hu with⟨_,hd⟩|hd<;>
   (simp[Gw,Fc ht,Fc hd,sizeOf,Fp,hi,av,hg,js,hs])
end Go.Aev
namespace Go.Aev
variable {Ty:Type}{den:Ty->Type}
def flat(U:UO Ty den)(t:Ty)(l:List (den t)):List (Leaf Ty den):=l.flatMap (U.cells t)
structure UO.Ok(U:UO Ty den):Prop where
 pos:∀t,0<U.size t
 bpos:∀t,0<U.bytes t
 len:∀t x,(U.cells t x).length=U.size t
 dec:∀t ls x,U.dec t ls=some x->U.cells t x=ls
 ofBytes:∀t f,U.ofBytes t=some f->∀b:DT,(f b).length=b.length/\flat U t (f b)=b.map λc=>.int .u8 (c.toNat:Int)
 ofRunes:∀t f,U.ofRunes t=some f->∀b:DS,(f b).length=b.length/\flat U t (f b)=b.map λc=>.int .i32 c
 solid:∀t x lf,lf∈U.cells t x->lf≠ .any/\(∀v,lf≠ .val v)/\∀u y,lf≠ .agg u y
 closed:∀t x lf,lf∈U.cells t x->lf.close=lf
 ofBytes1:∀t f,U.ofBytes t=some f->U.size t=1
 ofRunes1:∀t f,U.ofRunes t=some f->U.size t=1
 toRunes1:∀t f,U.toRunes t=some f->U.size t=1
 toRunes:∀t f,U.toRunes t=some f->∀l,flat U t l=(f l).map λn=>.int .i32 n
 toBytes1:∀t f,U.toBytes t=some f->U.size t=1
 toBytes:∀t f,U.toBytes t=some f->∀l,∃ns:DS,flat U t l=ns.map (λn=>.int .u8 n)/\f l=ns.map λn=>Iv n.toNat
def PS(v:Value):Prop:=(∃p,v=.pointer p)\/∃a l c,v=.slice a l c
section
variable (U:UO Ty den)
inductive CRep (w:World)(wm:Nat->Nat):Leaf Ty den->Value->Prop
 |any (v:Value):CRep w wm .any v
 |int (k:Gc) (n:Int):CRep w wm (.int k n) (.int k n)
 |bool (b:Bool):CRep w wm (.bool b) (.bool b)
 |str (s:DT):CRep w wm (.str s) (.string ⟨s.toArray⟩)
 |val (v:Value):CRep w wm (.val v) v
 |nil (t:Ty) (own:Ed) (a:Option Addr) (cap:Nat):CRep w wm (.sl t [] own) (.slice a 0 cap)
 |sl (t:Ty) (l:List (den t)) (own:Ed) (b off cap:Nat) (cs:Nat->Value) (a7:l.length<=cap) (bj:off+l.length*U.size t<=wm b)
  (hc:∀j lf,(flat U t l)[j]?=some lf->w.cell? ⟨b,off+j,none⟩=some (cs j)) (hr:∀j lf,(flat U t l)[j]?=some lf->CRep w wm lf (cs j)):
  CRep w wm (.sl t l own) (.slice (some ⟨b,off,none⟩) l.length cap)
 |elem (t:Ty) (x:den t) (off b o:Nat) (cs:Nat->Value) (bj:o+U.size t<=wm b)
  (hc:∀j lf,(U.cells t x)[j]?=some lf->w.cell? ⟨b,o+j,none⟩=some (cs j)) (hr:∀j lf,(U.cells t x)[j]?=some lf->CRep w wm lf (cs j)):
  CRep w wm (.elem t x off) (.pointer (some ⟨b,o+off,none⟩))
 |agg (t:Ty) (x:den t) (vs:Ea) (hl:vs.length=U.size t) (cs:Nat->Value) (hc:∀j lf,(U.cells t x)[j]?=some lf->vs[j]?=some (cs j)) (hr:∀j lf,(U.cells t x)[j]?=some lf->CRep w wm lf (cs j)):
  CRep w wm (.agg t x) (.agg vs.toArray)
 |ifc (T:Ew) (t:Ty) (x:den t) (v:Value) (h:CRep w wm (.agg t x) v):CRep w wm (.ifc T t x) (.iface T v)
 |one1 (t:Ty) (x:den t) (lf:Leaf Ty den) (v:Value) (hl:U.cells t x=[lf]) (h:CRep w wm lf v):CRep w wm (.one1 t x) v
 |ptr (d off:Nat) (v:Value) (h:PS v):CRep w wm (.ptr d off) v
 |nils:CRep w wm .nils (.slice none 0 0)
end
def CRep.pt{U:UO Ty den}{w:World}{wm:Nat->Nat}(d off:Nat)(p:Option Addr):CRep U w wm (.ptr d off) (.pointer p):=.ptr _ _ _ (.inl ⟨p,rfl⟩)
def A1r{U:UO Ty den}(hU:U.Ok)(t:Ty)(l:List (den t)):(flat U t l).length=l.length*U.size t:=by
 induction l with
 |nil=>simp[flat]
 |cons x l ih=>
  simp only[flat,Ks,Jj,hU.len,Gl]at ih ⊢;rw[ih,Fu];omega
structure Ext(w:World)(wm:Nat->Nat)(w':World)(wm':Nat->Nat):Prop where
 ty:∀(b:Nat)(c:Array Value)(e:Ew)(fz:Nat×Nat),w.heap[b]?=some (.cells c e fz)->∃(c':Array Value)(jb:Nat×Nat),w'.heap[b]?=some (.cells c' e jb)
 cell:∀b off,off<wm b->w'.cell? ⟨b,off,none⟩=w.cell? ⟨b,off,none⟩
 le:∀b,wm b<=wm' b
abbrev TyP(w w':World):Prop:=∀(b:Nat)(c:Array Value)(e:Ew)(fz:Nat×Nat),w.heap[b]?=some (.cells c e fz)->∃(c':Array Value)(jb:Nat×Nat),w'.heap[b]?=some (.cells c' e jb)
def A1D{w w':World}{o:Obj}(h:w'.heap=w.heap.push o):TyP w w':=λb c e fz h1=>by
 have hb:=(Fv.1 h1).1;exact⟨c,fz,by rw[h,Gf,Ek Du];exact h1⟩
def A6Z{w w':World}(h:w'.heap=w.heap):TyP w w':=λ_ c _ fz h1=>⟨c,fz,by rw[h];exact h1⟩
def A6Y{w w':World}{b:Nat}{c c':Array Value}{e:Ew}{fz jb:Nat×Nat}(hb:w.heap[b]?=some (.cells c e fz))(bH:w'.heap[b]?=some (.cells c' e jb))(ho:∀k,k≠b->w'.heap[k]?=w.heap[k]?):TyP w w':=λk c1 e1 f1 h1=>by
 by_cases hk:k=b
 ·subst hk;rw[hb]at h1;cases h1;exact⟨_,_,bH⟩
 ·exact⟨c1,f1,by rw[ho k hk];exact h1⟩
def D3U{w w':World}{b:Nat}(hb:∀c e fz,w.heap[b]? ≠some (.cells c e fz))(ho:∀k,k≠b->w'.heap[k]?=w.heap[k]?):TyP w w':=λk c1 e1 f1 h1=>by
 by_cases hk:k=b
 ·subst hk;exact absurd h1 (hb _ _ _)
 ·exact⟨c1,f1,by rw[ho k hk];exact h1⟩
def Ext.refl(w:World)(wm:Nat->Nat):Ext w wm w wm:=⟨λ_ c _ fz h=>⟨c,fz,h⟩,λ_ _ _=>rfl,λ_=>Fe _⟩
def Ext.trans{w1 w2 w3:World}{m1 m2 m3:Nat->Nat}(h:Ext w1 m1 w2 m2)(k:Ext w2 m2 w3 m3):Ext w1 m1 w3 m3:=
 ⟨λb c e fz h0=>by
  obtain⟨c1,f1,h1⟩:=h.ty b c e fz h0;exact k.ty b c1 e f1 h1,λb o ho=>(k.cell b o (Kf ho (h.le b))).trans (h.cell b o ho),λb=>Gz (h.le b) (k.le b)⟩
def CRep.mono{U:UO Ty den}(hU:U.Ok){w w':World}{wm wm':Nat->Nat}(hx:Ext w wm w' wm'){lf:Leaf Ty den}{v:Value}(h:CRep U w wm lf v):CRep U w' wm' lf v:=by
 induction h with
 |any v=>exact .any v
 |int k n=>exact .int k n
 |bool b=>exact .bool b
 |str s=>exact .str s
 |val v=>exact .val v
 |nil t own a cap=>exact .nil t own a cap
 |sl t l own b off cap cs a7 bj hc _ ih=>
  refine .sl t l own b off cap cs a7 (Gz bj (hx.le b)) (λj lf hj=>?_) ih;have bC:j<(flat U t l).length:=by
   rcases Ft j (flat U t l).length with h|h
   ·exact h
   ·rw[Hr h]at hj;cases hj
  rw[A1r hU]at bC;rw[hx.cell b _ Du];exact hc j lf hj
 |agg t x vs hl cs hc _ ih=>exact .agg t x vs hl cs hc ih
 |ifc T t x v _ ih=>exact .ifc T t x v ih
 |one1 t x lf v hl _ ih=>exact .one1 t x lf v hl ih
 |ptr d off v h=>exact .ptr d off v h
 |nils=>exact .nils
 |elem t x off b o cs bj hc _ ih=>
  refine .elem t x off b o cs (Gz bj (hx.le b)) (λj lf hj=>?_) ih;have bC:j<(U.cells t x).length:=by
   rcases Ft j (U.cells t x).length with h|h
   ·exact h
   ·rw[Hr h]at hj;cases hj
  rw[hU.len]at bC;rw[hx.cell b _ Du];exact hc j lf hj
def CRep.close{U:UO Ty den}{w:World}{wm:Nat->Nat}{lf:Leaf Ty den}{v:Value}(h:CRep U w wm lf v):CRep U w wm lf.close v:=by
 cases h with
 |nil t own a cap=>exact .nil t none a cap
 |sl t l own b off cap cs a7 bj hc hr=>exact .sl t l none b off cap cs a7 bj hc hr
 |any v=>exact .any v
 |int k n=>exact .int k n
 |bool b=>exact .bool b
 |str s=>exact .str s
 |val v=>exact .val v
 |elem t x off b o cs bj hc hr=>exact .elem t x off b o cs bj hc hr
 |agg t x vs hl cs hc hr=>exact .agg t x vs hl cs hc hr
 |ifc T t x v h=>exact .ifc T t x v h
 |one1 t x lf v hl h=>exact .one1 t x lf v hl h
 |ptr d off b=>exact .any _
 |nils=>exact .nils
def CRep.own{U:UO Ty den}{w:World}{wm:Nat->Nat}{t:Ty}{l:List (den t)}{o:Ed}{v:Value}(h:CRep U w wm (.sl t l o) v)(o':Ed):CRep U w wm (.sl t l o') v:=by
 cases h with
 |nil t own a cap=>exact .nil t o' a cap
 |sl t l own b off cap cs a7 bj hc hr=>exact .sl t l o' b off cap cs a7 bj hc hr
structure Gh where
 wm:Nat->Nat
 G:Nat->Value
 Gs:Nat->Nat
 ib:Nat->Nat
def B17(U:UO Ty den)(w:World)(b:Nat):Prop:=∃c fz,w.heap[b]?=some (.cells c U.bty fz)
def PtrAt(U:UO Ty den)(w:World)(b n off:Nat)(v:Value):Prop:=(v=.pointer (some ⟨b,off,none⟩)/\Ez off 1000000=true)\/(off=B4/\B17 U w b/\(v=.pointer none\/v=.pointer (some ⟨b,0,none⟩)))\/
 (1000000000<=off/\∃c,v=.slice (some ⟨b,0,none⟩) (rN off) c/\rN off<=c/\c*rS off<=n)
def PtrAt.mono{U:UO Ty den}{w w':World}{m m':Nat->Nat}(hx:Ext w m w' m'){b n off:Nat}{v:Value}(h:PtrAt U w b n off v):PtrAt U w' b n off v:=by
 rcases h with h|⟨h1,⟨c,fz,h2⟩,h3⟩|h
 ·exact .inl h
 ·obtain⟨c',jb,h4⟩:=hx.ty b c _ fz h2;exact .inr (.inl ⟨h1,⟨c',jb,h4⟩,h3⟩)
 ·exact .inr (.inr h)
def PtrAt.at{U:UO Ty den}{w:World}{b n off:Nat}{v:Value}(h:PtrAt U w b n off v)(ho:Ez off 1000000=true):v=.pointer (some ⟨b,off,none⟩):=by
 rw[Ga]at ho;rcases h with h|h|h
 ·exact h.1
 ·have:=h.1;unfold B4 at this;omega
 ·have:=h.1;omega
def PtrAt.row{U:UO Ty den}{w:World}{b n off:Nat}{v:Value}(h:PtrAt U w b n off v)(ho:1000000000<=off):∃c,v=.slice (some ⟨b,0,none⟩) (rN off) c/\rN off<=c/\c*rS off<=n:=by
 rcases h with h|h|h
 ·have:=h.2;rw[Ga]at this;omega
 ·have:=h.1;unfold B4 at this;omega
 ·exact h.2
def PtrAt.ptr{U:UO Ty den}{w:World}{b n off:Nat}{v:Value}(h:PtrAt U w b n off v):PS v:=by
 rcases h with h|⟨_,_,h|h⟩|⟨_,_,h,_⟩
 ·exact .inl ⟨_,h.1⟩
 ·exact .inl ⟨_,h⟩
 ·exact .inl ⟨_,h⟩
 ·exact .inr ⟨_,_,_,h⟩
def TyB(U:UO Ty den)(w:World)(t:Ty)(v:Value):Prop:=∀e a len cap,U.ety t=some e->v=.slice (some a) len cap->∃c fz,w.heap[a.block]?=some (.cells c e fz)
def TyB.ext{U:UO Ty den}{w w':World}{m m':Nat->Nat}(hx:Ext w m w' m'){t:Ty}{v:Value}(h:TyB U w t v):TyB U w' t v:=λe a len cap h1 h2=>by
 obtain⟨c,fz,h4⟩:=h e a len cap h1 h2;exact hx.ty _ c e fz h4
def TyB.nil{U:UO Ty den}{w:World}{t:Ty}{len cap:Nat}:TyB U w t (.slice none len cap):=λe a oD cap h1 h2=>by cases h2
def TyB.new{U:UO Ty den}{w:World}{t:Ty}{b off len cap:Nat}{c:Array Value}{e:Ew}{fz:Nat×Nat}(he:∀e',U.ety t=some e'->e'=e)(hb:w.heap[b]?=some (.cells c e fz)):TyB U w t (.slice (some ⟨b,off,none⟩) len cap):=λe' a' oD fx h1 h2=>by
 cases h2;rw[he e' h1];exact⟨c,fz,hb⟩
def TyB.len{U:UO Ty den}{w:World}{t:Ty}{a:Addr}{len oD cap:Nat}(h:TyB U w t (.slice (some a) len cap)):TyB U w t (.slice (some a) oD cap):=λe a' Am fx h1 h2=>by
 cases h2;exact h e a len cap h1 rfl
def Own(w:World)(g:Gh)(U:UO Ty den)(lf:Leaf Ty den)(v:Value):Prop:=(∀t l d,lf=.sl t l (some d)->v=g.G d/\U.size t=g.Gs d/\TyB U w t v)/\
 ∀d off,lf=.ptr d off->∃b n,g.G d=.slice (some ⟨b,0,none⟩) 0 n/\PtrAt U w b n off v
def LRep(U:UO Ty den)(w:World)(g:Gh)(lf:Leaf Ty den)(v:Value):Prop:=CRep U w g.wm lf v/\Own w g U lf v
def LsRep(U:UO Ty den)(w:World)(g:Gh):List (Leaf Ty den)->Ea->Prop
 |[],[]=>True
 |l::ls,v::vs=>LRep U w g l v/\LsRep U w g ls vs
 |_,_=>False
def BoxOk(U:UO Ty den)(w:World)(g:Gh)(d:Nat)(ls:List (Leaf Ty den)):Prop:=
 ∃b n,g.G d=.slice (some ⟨b,0,none⟩) 0 n/\(0<ls.length/\ls.length<=n/\(Ez d 1000000=true->n=ls.length))/\g.Gs d=1/\∀(j:Nat) lf,ls[j]?=some lf->∃u,w.cell? ⟨b,j,none⟩=some u/\u.oneCell'=true/\u.cells= #[u]/\LRep U w g lf u
def ERep(U:UO Ty den)(w:World)(g:Gh)(e:Ent Ty den)(v:Value):Prop:=
 match e with
 | .one l=>LRep U w g l v
 | .tup ls=>∃vs:Ea,v=.tuple vs.toArray/\LsRep U w g ls vs
 | .iter s pos=>∃b,v=.pointer (some ⟨b,0,none⟩)/\w.heap[b]?=some (.stringIter ⟨s.toArray⟩ pos)
 | .bx d ls=>BoxOk U w g d ls
 | .st ls=>∃vs:Ea,v=.agg vs.toArray/\LsRep U w g ls vs/\∀u∈vs,u.oneCell'=true/\u.cells= #[u]
def Tip(w:World)(wm:Nat->Nat)(v:Value)(sz:Nat):Prop:=
 ∃a len cap,v=.slice a len cap/\len<=cap/\(cap=0\/∃b off c e fz,a=some ⟨b,off,none⟩/\w.heap[b]?=some (.cells c e fz)/\off+cap*sz<=c.size/\
  wm b=off+len*sz/\fz.2<=wm b)
def spare(v:Value):Ed:=
 match v with
 | .slice (some a) len cap=>if cap=0 then none else some a.block
 |_=>none
structure Bs where
 w:World
 wm:Nat->Nat
 M:Nat->Prop
 np:Nat
 pv:Nat->Value
structure Rel(U:UO Ty den)(B:Bs)(g:Gh)(s:St Ty den)(a:Act)(w:World):Prop where
 os:w.os=B.w.os
 tape:w.tape=B.w.tape
 output:w.output=B.w.output
 size:B.w.heap.size<=w.heap.size
 frame:∀b,b<B.w.heap.size->¬B.M b->w.heap[b]?=B.w.heap[b]? /\g.wm b=B.wm b
 ext:Ext B.w B.wm w g.wm
 zero:∀b,w.heap.size<=b->g.wm b=0
 ent:∀i,ERep U w g (s.get i) (a.tmps.getD i undef)
 tip:∀d,mem d s.live=true->Tip w g.wm (g.G d) (g.Gs d)
 disj:∀d e b,mem d s.live=true->mem e s.live=true->d≠e->spare (g.G d)=some b->spare (g.G e)≠some b
 mine:∀d b,mem d s.live=true->spare (g.G d)=some b->B.w.heap.size<=b\/B.M b
 iter:∀i c pos,s.get i=.iter c pos->a.tmps.getD i undef=.pointer (some ⟨g.ib i,0,none⟩)/\B.w.heap.size<=g.ib i
 idis:∀i j c p c' p',i≠j->s.get i=.iter c p->s.get j=.iter c' p'->g.ib i≠g.ib j
 defers:a.defers=[]
 bxl:∀i d ls,s.get i=.bx d ls->mem d s.live=true/\i=1000000+d
 pin:∀i,i<B.np->a.tmps.getD i undef=B.pv i
def REL(U:UO Ty den)(B:Bs)(s:St Ty den)(a:Act)(w:World):Prop:=∃g,Rel U B g s a w
end Go.Aev
namespace Go.Aev
variable {Ty:Type}{den:Ty->Type}
def F2(a b:Nat):Ey a b=true↔a=b:=Nat.beq_eq ▸ Iff.rfl
def K4{a b:Nat}(h:a≠b):Ey a b=false:=by
 cases hb:Ey a b with
 |false=>rfl
 |true=>exact absurd ((F2 a b).1 hb) h
def H5(a:Nat):Ey a a=true:=(F2 a a).2 rfl
def O7(d e:Nat)(l:DX):mem e (rem d l)=true↔mem e l=true/\e≠d:=by
 induction l with
 |nil=>simp[mem,rem]
 |cons x l ih=>
  by_cases hx:x=d
  ·subst hx;simp only[rem,H5,Eg,mem,ih];by_cases he:x=e
   ·subst he;simp
   ·rw[K4 he];simp
  ·simp only[rem,K4 hx,Eh,mem];by_cases he:x=e
   ·subst he;simp[H5,hx]
   ·simp only[K4 he,Eh,ih]
def mem_cons(d e:Nat)(l:DX):mem e (d::l)=true↔d=e\/mem e l=true:=by
 by_cases h:d=e
 ·subst h;simp[mem,H5]
 ·simp[mem,K4 h,h]
def D1U(fr:List (Nat×Ent Ty den))(i j:Nat)(e:Ent Ty den):look (ins fr i e) j=if i=j then e else look fr j:=by
 induction fr with
 |nil=>
  by_cases h:i=j
  ·simp[ins,look,h,H5]
  ·simp[ins,look,K4 h,h]
 |cons p r ih=>
  obtain⟨k,x⟩:=p;by_cases hk:k=i
  ·subst hk;simp only[ins,H5,Eg,look];by_cases h:k=j
   ·simp[h,H5]
   ·simp[K4 h,h]
  ·simp only[ins,K4 hk,Eh];cases hb:Ez i k with
   |true=>
    simp only[Eg,look];by_cases h:i=j
    ·simp[h,H5]
    ·simp[K4 h,h]
   |false=>
    simp only[Eh,look,ih];by_cases h:k=j
    ·subst h;simp[H5,Fo hk]
    ·simp[K4 h]
def D7u(fr:List (Nat×Ent Ty den))(ds:DX)(i:Nat):look (del fr ds) i=.one .any\/look (del fr ds) i=look fr i:=by
 induction fr with
 |nil=>exact .inl rfl
 |cons p r ih=>
  obtain⟨k,x⟩:=p;simp only[del];cases hm:mem k ds with
  |true=>
   simp only[Eg,look];by_cases h:k=i
   ·subst h
    left
    clear ih
    induction r with
    |nil=>rfl
    |cons q r yb=>
     obtain⟨k2,x2⟩:=q;simp only[del];cases fq:mem k2 ds with
     |true=>simpa using yb
     |false=>
      simp only[Eh,look];by_cases h2:k2=k
      ·subst h2;rw[hm]at fq;cases fq
      ·simp only[K4 h2,Eh];exact yb
   ·simp only[K4 h,Eh];exact ih
  |false=>
   simp only[Eh,look];by_cases h:k=i
   ·simp[h,H5]
   ·simp only[K4 h,Eh];exact ih
def C1i(d:Nat)(fr:List (Nat×Ent Ty den))(i:Nat):look (A8V d fr) i=(look fr i).strip d:=by
 induction fr with
 |nil=>rfl
 |cons p r ih=>
  obtain⟨k,x⟩:=p;simp only[A8V,look];by_cases h:k=i
  ·simp[h,H5]
  ·simp only[K4 h,Eh];exact ih
def C00{d e:Nat}:∀{l:DX},mem e (A3Q d l)=true->d=e\/mem e l=true
 |[],h=>by
  simp only[A3Q]at h;rw[mem_cons]at h;exact h
 |x::r,h=>by
  simp only[A3Q]at h;cases hb:Ez d x with
  |true=>
   rw[hb]at h;simp only[Eg]at h;rw[mem_cons]at h;exact h
  |false=>
   rw[hb]at h;simp only[Eh]at h;rw[mem_cons]at h ⊢;rcases h with h|h
   ·exact .inr (.inl h)
   ·exact(C00 h).imp id .inr
def B65{fr:List (Nat×Ent Ty den)}{d:Nat}:∀{l:DX},mem d (gcN fr l)=true->mem d l=true
 |[],h=>h
 |e::r,h=>by
  simp only[gcN]at h;cases hh:A1J e fr with
  |true=>
   rw[hh]at h;simp only[Eg]at h;rw[mem_cons];exact(C00 h).imp id B65
  |false=>
   rw[hh]at h;simp only[Eh]at h;rw[mem_cons];exact .inr (B65 h)
def G8(s:St Ty den)(i j:Nat)(e:Ent Ty den):(s.set i e).get j=if i=j then e else s.get j:=D1U _ _ _ _
def A9b(s:St Ty den)(d i:Nat):(s.kill d).get i=(s.get i).strip d:=C1i _ _ _
def A4k(s:St Ty den)(d i:Nat):(s.fresh d).get i=(s.get i).strip d:=C1i _ _ _
def B1S(a:Act)(d i:Nat)(v:Value)(h:d<a.tmps.size):(a.put (some d) v).tmps.getD i undef=if d=i then v else a.tmps.getD i undef:=by
 simp only[Ip,Il,Jn];by_cases hd:d=i
 ·subst hd;simp[h]
 ·simp[hd]
def A0s(a:Act)(d:Ed)(v:Value):(a.put d v).tmps.size=a.tmps.size:=by
 cases d<;>simp[Ip]
def B2N(a:Act)(d:Ed)(v:Value):(a.put d v).defers=a.defers:=by
 cases d<;>simp[Ip]
def Leaf.strip_cases(d:Nat)(lf:Leaf Ty den):lf.strip d=lf\/(∃t l,lf=.sl t l (some d)/\lf.strip d=.sl t l none)\/∃o,lf=.ptr d o/\lf.strip d=.any:=by
 cases lf with
 |sl t l o=>
  cases o with
  |none=>exact .inl rfl
  |some e=>
   by_cases h:e=d
   ·subst h;exact .inr (.inl ⟨t,l,rfl,by simp[Leaf.strip,H5]⟩)
   ·exact .inl (by simp[Leaf.strip,K4 h])
 |ptr e o=>
  by_cases h:e=d
  ·subst h;exact .inr (.inr ⟨o,rfl,by simp[Leaf.strip,H5]⟩)
  ·exact .inl (by simp[Leaf.strip,K4 h])
 |_=>exact .inl rfl
def Leaf.strip_ptr(d e o:Nat)(lf:Leaf Ty den)(h:lf.strip d=.ptr e o):e≠d/\lf=.ptr e o:=by
 cases lf with
 |sl t' l' o=>
  cases o<;>simp[Leaf.strip]at h
 |ptr x y=>
  by_cases hx:x=d
  ·subst hx;simp[Leaf.strip,H5]at h
  ·simp only[Leaf.strip,K4 hx,Eh]at h;have h2:=h;simp only[Leaf.ptr.injEq]at h2;exact⟨by rw[<-h2.1];exact hx,h⟩
 |_=>simp[Leaf.strip]at h
def Leaf.strip_own(d e:Nat)(lf:Leaf Ty den)(t:Ty)(l:List (den t))(h:lf.strip d=.sl t l (some e)):e≠d/\lf=.sl t l (some e):=by
 cases lf with
 |sl t' l' o=>
  cases o with
  |none=>simp[Leaf.strip]at h
  |some x=>
   by_cases hx:x=d
   ·subst hx;simp[Leaf.strip,H5]at h
   ·simp only[Leaf.strip,K4 hx,Eh]at h;have h2:=h;simp only[Leaf.sl.injEq,Ff]at h2;obtain⟨_,_,rfl⟩:=h2;exact⟨hx,h⟩
 |ptr x y=>
  by_cases hx:x=d
  ·subst hx;simp[Leaf.strip,H5]at h
  ·simp[Leaf.strip,K4 hx]at h
 |_=>simp[Leaf.strip]at h
variable {U:UO Ty den}
def CRep.strip{w:World}{wm:Nat->Nat}{lf:Leaf Ty den}{v:Value}(h:CRep U w wm lf v)(d:Nat):CRep U w wm (lf.strip d) v:=by
 rcases lf.strip_cases d with e|⟨t,l,rfl,e⟩|⟨o,rfl,e⟩
 ·rw[e];exact h
 ·rw[e];exact h.own none
 ·rw[e];exact .any v
structure Gh.off(g g':Gh)(d:Nat):Prop where
 G:∀e,e≠d->g'.G e=g.G e
 Gs:∀e,e≠d->g'.Gs e=g.Gs e
def LRep.step(hU:U.Ok){w w':World}{g g':Gh}{d:Nat}(hx:Ext w g.wm w' g'.wm)(ho:g.off g' d){lf:Leaf Ty den}{v:Value}(h:LRep U w g lf v):LRep U w' g' (lf.strip d) v:=by
 refine⟨(h.1.strip d).mono hU hx,λt l e he=>?_,λe o he=>?_⟩
 ·obtain⟨h1,h2⟩:=Leaf.strip_own d e lf t l he;rw[ho.G e h1,ho.Gs e h1];have:=h.2.1 t l e h2;exact⟨this.1,this.2.1,this.2.2.ext hx⟩
 ·obtain⟨h1,h2⟩:=Leaf.strip_ptr d e o lf he;rw[ho.G e h1];obtain⟨b,n,h3,h4⟩:=h.2.2 e o h2;exact⟨b,n,h3,h4.mono hx⟩
def LsRep.step(hU:U.Ok){w w':World}{g g':Gh}{d:Nat}(hx:Ext w g.wm w' g'.wm)(ho:g.off g' d):∀{ls:List (Leaf Ty den)}{vs:Ea},LsRep U w g ls vs->LsRep U w' g' (ls.map (·.strip d)) vs
 |[],[],_=>trivial
 |_::_,_::_,h=>⟨h.1.step hU hx ho,LsRep.step hU hx ho h.2⟩
def BoxOk.ex{w:World}{g:Gh}{d:Nat}{ls:List (Leaf Ty den)}(b:Nat)(h1:g.G d=.slice (some ⟨b,0,none⟩) 0 ls.length)(h2:0<ls.length)(h3:g.Gs d=1)(h4:∀(j:Nat) lf,ls[j]?=some lf->∃u,w.cell? ⟨b,j,none⟩=some u/\u.oneCell'=true/\u.cells= #[u]/\LRep U w g lf u):BoxOk U w g d ls:=
 ⟨b,_,h1,⟨h2,Fe _,λ_=>rfl⟩,h3,h4⟩
def BoxOk.spare{w:World}{g:Gh}{d:Nat}{ls:List (Leaf Ty den)}(h:BoxOk U w g d ls):∃b n,g.G d=.slice (some ⟨b,0,none⟩) 0 n/\Go.Aev.spare (g.G d)=some b:=by
 obtain⟨b,n,h1,⟨h2,h3,_⟩,_⟩:=h;refine⟨b,n,h1,?_⟩;rw[h1];simp only[Go.Aev.spare];rw[Ek Du]
def BoxOk.step(hU:U.Ok){w w':World}{g g':Gh}{d d':Nat}{ls:List (Leaf Ty den)}(hx:Ext w g.wm w' g'.wm)(ho:g.off g' d)(h:BoxOk U w g d' ls)(hd:d'≠d)(hb:∀b,Go.Aev.spare (g.G d')=some b->w'.heap[b]?=w.heap[b]?):BoxOk U w' g' d' (ls.map (·.strip d)):=by
 obtain⟨b0,n0,e1,e2⟩:=h.spare;obtain⟨b,n,h1,h2,h3,h4⟩:=h;rw[h1]at e1;cases e1;refine⟨b0,n0,by rw[ho.G d' hd,h1],by rw[Ji];exact h2,by rw[ho.Gs d' hd,h3],λj lf hj=>?_⟩;rw[Fm]at hj;obtain⟨l0,cV,rfl⟩:=Gk.1 hj;obtain⟨u,u1,u2,u3,u4⟩:=h4 j l0 cV;exact⟨u,by rw[<-u1];exact Fq (a:=⟨b0,j,none⟩) (hb b0 e2),u2,u3,u4.step hU hx ho⟩
def ERep.step(hU:U.Ok){w w':World}{g g':Gh}{d:Nat}(hx:Ext w g.wm w' g'.wm)(ho:g.off g' d){e:Ent Ty den}{v:Value}(h:ERep U w g e v)
  (hi:∀c pos,e=.iter c pos->∀b,v=.pointer (some ⟨b,0,none⟩)->w'.heap[b]?=w.heap[b]?)
  (hb:∀d' ls,e=.bx d' ls->d'≠d->∀b,spare (g.G d')=some b->w'.heap[b]?=w.heap[b]?):ERep U w' g' (e.strip d) v:=by
 cases e with
 |bx d' ls=>
  simp only[Ent.strip];by_cases hd:d'=d
  ·subst hd;rw[H5];exact⟨.any v,λt l d h=>by(cases h),λ_ _ h=>by(cases h)⟩
  ·rw[K4 hd];exact BoxOk.step hU hx ho h hd (hb d' ls rfl hd)
 |one l=>exact LRep.step hU hx ho h
 |tup ls=>obtain⟨vs,hv,hr⟩:=h;exact⟨vs,hv,LsRep.step hU hx ho hr⟩
 |st ls=>obtain⟨vs,hv,hr,h1⟩:=h;exact⟨vs,hv,LsRep.step hU hx ho hr,h1⟩
 |iter c pos=>
  obtain⟨b,hv,hb⟩:=h;exact⟨b,hv,(hi c pos rfl b hv).trans hb⟩
def LRep.same(hU:U.Ok){w w':World}{g g':Gh}(hx:Ext w g.wm w' g'.wm)(hG:g'.G=g.G)(cX:g'.Gs=g.Gs){lf:Leaf Ty den}{v:Value}(h:LRep U w g lf v):LRep U w' g' lf v:=
 ⟨h.1.mono hU hx,λt l e he=>by rw[hG,cX];have:=h.2.1 t l e he;exact⟨this.1,this.2.1,this.2.2.ext hx⟩,λe o he=>by rw[hG];obtain⟨b,n,h3,h4⟩:=h.2.2 e o he;exact⟨b,n,h3,h4.mono hx⟩⟩
def BoxOk.same(hU:U.Ok){w w':World}{g g':Gh}{d:Nat}{ls:List (Leaf Ty den)}(hx:Ext w g.wm w' g'.wm)(hG:g'.G=g.G)(cX:g'.Gs=g.Gs)(h:BoxOk U w g d ls)(hb:∀b,Go.Aev.spare (g.G d)=some b->w'.heap[b]?=w.heap[b]?):BoxOk U w' g' d ls:=by
 obtain⟨b0,n0,e1,e2⟩:=h.spare;obtain⟨b,n,h1,h2,h3,h4⟩:=h;rw[h1]at e1;cases e1;refine⟨b0,n0,by rw[hG,h1],h2,by rw[cX,h3],λj lf hj=>?_⟩;obtain⟨u,u1,u2,u3,u4⟩:=h4 j lf hj;exact⟨u,by rw[<-u1];exact Fq (a:=⟨b0,j,none⟩) (hb b0 e2),u2,u3,u4.same hU hx hG cX⟩
def LsRep.same(hU:U.Ok){w w':World}{g g':Gh}(hx:Ext w g.wm w' g'.wm)(hG:g'.G=g.G)(cX:g'.Gs=g.Gs):∀{ls:List (Leaf Ty den)}{vs:Ea},LsRep U w g ls vs->LsRep U w' g' ls vs
 |[],[],_=>trivial
 |_::_,_::_,h=>⟨h.1.same hU hx hG cX,LsRep.same hU hx hG cX h.2⟩
def ERep.same(hU:U.Ok){w w':World}{g g':Gh}(hx:Ext w g.wm w' g'.wm)(hG:g'.G=g.G)(cX:g'.Gs=g.Gs){e:Ent Ty den}{v:Value}(h:ERep U w g e v)
  (hi:∀c pos,e=.iter c pos->∀b,v=.pointer (some ⟨b,0,none⟩)->w'.heap[b]?=w.heap[b]?)
  (hb:∀d' ls,e=.bx d' ls->∀b,spare (g.G d')=some b->w'.heap[b]?=w.heap[b]?):ERep U w' g' e v:=by
 cases e with
 |bx d' ls=>exact BoxOk.same hU hx hG cX h (hb d' ls rfl)
 |one l=>exact LRep.same hU hx hG cX h
 |tup ls=>obtain⟨vs,hv,hr⟩:=h;exact⟨vs,hv,LsRep.same hU hx hG cX hr⟩
 |st ls=>obtain⟨vs,hv,hr,h1⟩:=h;exact⟨vs,hv,LsRep.same hU hx hG cX hr,h1⟩
 |iter c pos=>
  obtain⟨b,hv,hb⟩:=h;exact⟨b,hv,(hi c pos rfl b hv).trans hb⟩
def ERep.any(w:World)(g:Gh)(v:Value):ERep U w g (.one .any:Ent Ty den) v:=⟨.any v,λt l d h=>by(cases h),λ_ _ h=>by(cases h)⟩
def Ent.isIter:Ent Ty den->Bool
 | .iter _ _=>true
 | .bx _ _=>true
 |_=>false
variable {B:Bs}{g:Gh}{s:St Ty den}{a:Act}{w:World}
def Rel.set(h:Rel U B g s a w){e:Ent Ty den}{v:Value}(he:ERep U w g e v)(hi:e.isIter=false)(d:Nat)(hd:d<a.tmps.size/\B.np<=d):Rel U B g (s.set d e) (a.put (some d) v) w:=by
 have uz:=hd.2;have hd:=hd.1;have aO:=B1S a d;refine{h with ent:=λi=>?_,iter:=λi c pos hc=>?_,idis:=λi j c p c' p' cG h1 h2=>?_,defers:=by rw[B2N];exact h.defers,bxl:=λi e ls hc=>?_,pin:=λi hi=>by rw[aO i v hd,Ek Du];exact h.pin i hi}
 ·rw[G8,aO i v hd];by_cases cR:d=i
  ·simp only[El cR];exact he
  ·simp only[Ek cR];exact h.ent i
 ·rw[G8]at hc;rw[aO i v hd];by_cases cR:d=i
  ·rw[El cR]at hc;subst hc;cases hi
  ·rw[Ek cR]at hc ⊢;exact h.iter i c pos hc
 ·rw[G8]at h1 h2;by_cases cR:d=i
  ·rw[El cR]at h1;subst h1;cases hi
  ·by_cases kp:d=j
   ·rw[El kp]at h2;subst h2;cases hi
   ·rw[Ek cR]at h1;rw[Ek kp]at h2;exact h.idis i j c p c' p' cG h1 h2
 ·rw[G8]at hc;by_cases cR:d=i
  ·rw[El cR]at hc;subst hc;cases hi
  ·rw[Ek cR]at hc;exact h.bxl i e ls hc
def Rel.weaken{s':St Ty den}(h:Rel U B g s a w)(he:∀i,s'.get i=.one .any\/s'.get i=s.get i)(hl:∀d,mem d s'.live=true->mem d s.live=true)(qL:∀i d ls,s'.get i=.bx d ls->mem d s.live=true->mem d s'.live=true):Rel U B g s' a w:=by
 refine{h with ent:=λi=>?_,tip:=λd hd=>h.tip d (hl d hd),disj:=λd e b hd mG=>h.disj d e b (hl d hd) (hl e mG),mine:=λd b hd=>h.mine d b (hl d hd),iter:=λi c pos hc=>?_,idis:=λi j c p c' p' cG h1 h2=>?_,bxl:=λi d ls hc=>?_}
 ·rcases he i with h1|h1
  ·rw[h1];exact .any _ _ _
  ·rw[h1];exact h.ent i
 ·rcases he i with h1|h1
  ·rw[h1]at hc;cases hc
  ·rw[h1]at hc;exact h.iter i c pos hc
 ·rcases he i with e1|e1
  ·rw[e1]at h1;cases h1
  ·rcases he j with e2|e2
   ·rw[e2]at h2;cases h2
   ·rw[e1]at h1;rw[e2]at h2;exact h.idis i j c p c' p' cG h1 h2
 ·have eT:=hc;rcases he i with e1|e1
  ·rw[e1]at hc;cases hc
  ·rw[e1]at hc;obtain⟨h1,h2⟩:=h.bxl i d ls hc;exact⟨qL i d ls eT h1,h2⟩
def D20{fr:List (Nat×Ent Ty den)}{d:Nat}:∀{i:Nat}{e:Ent Ty den},look fr i=e->e.has d=true->A1J d fr=true:=by
 induction fr with
 |nil=>intro i e h1 h2;simp only[look]at h1;subst h1;cases h2
 |cons p r ih=>
  obtain⟨k,x⟩:=p;intro i e h1 h2;simp only[look]at h1;simp only[A1J];cases hx:x.has d with
  |true=>rfl
  |false=>
   cases hk:Ey k i with
   |true=>rw[hk]at h1;simp only[Eg]at h1;subst h1;rw[hx]at h2;cases h2
   |false=>rw[hk]at h1;exact ih h1 h2
def B0e{d e:Nat}:∀{l:DX},d=e\/mem e l=true->mem e (A3Q d l)=true
 |[],h=>by
  simp only[A3Q];rw[mem_cons];exact h
 |x::r,h=>by
  simp only[A3Q];cases hb:Ez d x with
  |true=>simp only[Eg];rw[mem_cons];exact h
  |false=>
   simp only[Eh];rw[mem_cons];rcases h with h|h
   ·exact .inr (B0e (.inl h))
   ·rw[mem_cons]at h;exact h.imp id λh=>B0e (.inr h)
def B7D{fr:List (Nat×Ent Ty den)}{d:Nat}(hd:A1J d fr=true):∀{l:DX},mem d l=true->mem d (gcN fr l)=true
 |[],h=>h
 |e::r,h=>by
  simp only[gcN];rw[mem_cons]at h;rcases h with h|h
  ·subst h;rw[hd];exact B0e (.inl rfl)
  ·cases A1J e fr with
   |true=>exact B0e (.inr (B7D hd h))
   |false=>exact B7D hd h
def Rel.clean(h:Rel U B g s a w)(ds:DX):Rel U B g (s.dels ds).gc a w:=
 h.weaken (λi=>D7u _ _ _) (λ_ hd=>B65 hd) (λi d ls hi hd=>B7D (D20 hi (by simp[Ent.has,H5])) hd)
def Rel.world(hU:U.Ok)(h:Rel U B g s a w){w':World}{wm':Nat->Nat}(jQ:w'.os=w.os)(cY:w'.tape=w.tape)(dy:w'.output=w.output)(az:w.heap.size<=w'.heap.size)
  (hx:Ext w g.wm w' wm')(M:Nat->Prop)(An:∀b,M b->∃c e fz,w.heap[b]?=some (.cells c e fz))(yc:∀d b,mem d s.live=true->spare (g.G d)=some b->¬M b\/(Tip w' wm' (g.G d) (g.Gs d)/\∀i ls,s.get i≠ .bx d ls))
  (Ao:∀b,M b->B.w.heap.size<=b\/B.M b)
  (nD:∀b,b<w.heap.size->¬M b->w'.heap[b]?=w.heap[b]? /\wm' b=g.wm b)(hz:∀b,w'.heap.size<=b->wm' b=0):Rel U B {g with wm:=wm'} s a w':=by
 have aH:∀{b:Nat}{o:Obj},w.heap[b]?=some o->b<w.heap.size:=λhb=>(Fv.1 hb).1;refine{os:=jQ.trans h.os,tape:=cY.trans h.tape,output:=dy.trans h.output,size:=Gz h.size az,frame:=λb hb hM=>?_,ext:=h.ext.trans hx,zero:=hz,ent:=λi=>ERep.same (g':={g with wm:=wm'}) hU hx rfl rfl (h.ent i) (λc pos hc b hv=>?_) (λd ls hc b hs=>?_),tip:=λd hd=>?_,disj:=h.disj,mine:=h.mine,iter:=h.iter,idis:=h.idis,defers:=h.defers,bxl:=h.bxl,pin:=h.pin}
 ·have h1:=h.frame b hb hM;have h2:=nD b (Kf hb h.size) (λe=>by
   rcases Ao b e with h3|h3
   ·omega
   ·exact hM h3)
  exact⟨h2.1.trans h1.1,h2.2.trans h1.2⟩
 ·have he:=h.ent i;rw[hc]at he;obtain⟨b',dt,bH⟩:=he;rw[hv]at dt;cases dt;exact(nD b (aH bH) (λe=>by obtain⟨_,_,_,h3⟩:=An b e;rw[bH]at h3;cases h3)).1
 ·obtain⟨hl,_⟩:=h.bxl i d ls hc;refine(nD b ?_ ((yc d b hl hs).resolve_right (λh2=>h2.2 i ls hc))).1;obtain⟨a0,len,cap,hv,bh,cH⟩:=h.tip d hl;rw[hv]at hs;cases a0 with
  |none=>simp[spare]at hs
  |some a1=>
   by_cases dp:cap=0
   ·simp[spare,dp]at hs
   ·obtain⟨b',off,c,e,fz,ha,hb,_⟩:=cH.resolve_left dp;cases ha;simp[spare,dp]at hs;subst hs;exact aH hb
 ·obtain⟨a0,len,cap,hv,bh,hc⟩:=h.tip d hd;by_cases dp:cap=0
  ·exact⟨a0,len,cap,hv,bh,.inl dp⟩
  refine(hc.resolve_left dp).elim λb cH=>?_;obtain⟨off,c,e,fz,ha,hb,cE,bj,nF⟩:=cH;rcases yc d b hd (by rw[hv,ha];simp[spare,dp])with Ap|⟨hT,_⟩
  case inr=>exact hT
  refine⟨a0,len,cap,hv,bh,.inr ?_⟩;have:=nD b (aH hb) Ap;exact⟨b,off,c,e,fz,ha,this.1.trans hb,cE,this.2.trans bj,by show fz.2<=wm' b;rw[this.2];exact nF⟩
def Gh.put(g:Gh)(d:Nat)(v:Value)(sz:Nat):Gh:={g with G:=λe=>if e=d then v else g.G e,Gs:=λe=>if e=d then sz else g.Gs e}
def Gh.put_off(g:Gh)(d:Nat)(v:Value)(sz:Nat):g.off (g.put d v sz) d:=
 ⟨λe he=>by simp[Gh.put,he],λe he=>by simp[Gh.put,he]⟩
def Ent.strip_iter{d:Nat}{e:Ent Ty den}{c:DT}{pos:Nat}(h:e.strip d=.iter c pos):e=.iter c pos:=by
 cases e with
 |iter c' p'=>simpa [Ent.strip]using h
 |one l=>simp[Ent.strip]at h
 |tup ls=>simp[Ent.strip]at h
 |st ls=>simp[Ent.strip]at h
 |bx d' ls=>
  simp only[Ent.strip]at h;cases hb:Ey d' d<;>rw[hb]at h<;>cases h
def Ent.strip_bx{d d':Nat}{e:Ent Ty den}{ls:List (Leaf Ty den)}(h:e.strip d=.bx d' ls):d'≠d/\∃bY,e=.bx d' bY:=by
 cases e with
 |iter c' p'=>simp[Ent.strip]at h
 |one l=>simp[Ent.strip]at h
 |tup ls=>simp[Ent.strip]at h
 |st ls=>simp[Ent.strip]at h
 |bx x y=>
  simp only[Ent.strip]at h;by_cases hx:x=d
  ·subst hx;rw[H5]at h;cases h
  ·rw[K4 hx]at h;simp only[Eh,Ent.bx.injEq]at h;obtain⟨rfl,_⟩:=h;exact⟨hx,y,rfl⟩
def Rel.fresh(hU:U.Ok)(h:Rel U B g s a w)(d:Nat)(v:Value)(sz:Nat)(ht:Tip w g.wm v sz)
  (hd:∀e b,mem e s.live=true->e≠d->spare v=some b->spare (g.G e)≠some b)(hm:∀b,spare v=some b->B.w.heap.size<=b\/B.M b):
  Rel U B (g.put d v sz) (s.fresh d) a w:=by
 have hG:∀e,e≠d->(g.put d v sz).G e=g.G e:=λe he=>by simp[Gh.put,he]
 have cX:∀e,e≠d->(g.put d v sz).Gs e=g.Gs e:=λe he=>by simp[Gh.put,he]
 have iM:(g.put d v sz).G d=v:=by simp[Gh.put]
 have uA:(g.put d v sz).Gs d=sz:=by simp[Gh.put]
 have aG:∀e,mem e (s.fresh d).live=true->e=d\/(e≠d/\mem e s.live=true):=λe he=>by
  simp only[St.fresh]at he;rw[mem_cons,O7]at he;rcases he with rfl|⟨h1,h2⟩
  ·exact .inl rfl
  ·exact .inr ⟨h2,h1⟩
 refine{os:=h.os,tape:=h.tape,output:=h.output,size:=h.size,frame:=h.frame,ext:=h.ext,zero:=h.zero,ent:=λi=>?_,tip:=λe he=>?_,disj:=λe f b he hf aC h1=>?_,mine:=λe b he h1=>?_,iter:=λi c pos hc=>?_,idis:=λi j c p c' p' cG h1 h2=>?_,defers:=h.defers,bxl:=λi e ls hc=>?_,pin:=h.pin}
 ·rw[A4k];exact ERep.step (g':=g.put d v sz) (w':=w) hU (Ext.refl w g.wm) (g.put_off d v sz) (h.ent i) (λ_ _ _ _ _=>rfl) (λ_ _ _ _ _ _=>rfl)
 ·rcases aG e he with rfl|⟨h1,h2⟩
  ·rw[iM,uA];exact ht
  ·rw[hG e h1,cX e h1];exact h.tip e h2
 ·rcases aG e he with rfl|⟨e1,e2⟩
  ·rcases aG f hf with rfl|⟨f1,f2⟩
   ·exact absurd rfl aC
   ·rw[iM]at h1;rw[hG f f1];exact hd f b f2 f1 h1
  ·rw[hG e e1]at h1;rcases aG f hf with rfl|⟨f1,f2⟩
   ·rw[iM];exact λh2=>hd e b e2 e1 h2 h1
   ·rw[hG f f1];exact h.disj e f b e2 f2 aC h1
 ·rcases aG e he with rfl|⟨e1,e2⟩
  ·rw[iM]at h1;exact hm b h1
  ·rw[hG e e1]at h1;exact h.mine e b e2 h1
 ·rw[A4k]at hc;exact h.iter i c pos (Ent.strip_iter hc)
 ·rw[A4k]at h1 h2;exact h.idis i j c p c' p' cG (Ent.strip_iter h1) (Ent.strip_iter h2)
 ·rw[A4k]at hc;obtain⟨h1,bY,h2⟩:=Ent.strip_bx hc;obtain⟨h3,h4⟩:=h.bxl i e bY h2;refine⟨?_,h4⟩;simp only[St.fresh];rw[mem_cons,O7];exact .inr ⟨h3,h1⟩
def Rel.kill(hU:U.Ok)(h:Rel U B g s a w)(d:Nat):Rel U B g (s.kill d) a w:=by
 have aG:∀e,mem e (s.kill d).live=true->mem e s.live=true:=λe he=>((O7 d e s.live).1 he).1;refine{h with ent:=λi=>?_,tip:=λe he=>h.tip e (aG e he),disj:=λe f b he hf=>h.disj e f b (aG e he) (aG f hf),mine:=λe b he=>h.mine e b (aG e he),iter:=λi c pos hc=>?_,idis:=λi j c p c' p' cG h1 h2=>?_,bxl:=λi e ls hc=>?_}
 ·rw[A9b];exact(h.ent i).step hU (Ext.refl _ _) ⟨λ_ _=>rfl,λ_ _=>rfl⟩ (λ_ _ _ _ _=>rfl) (λ_ _ _ _ _ _=>rfl)
 ·rw[A9b]at hc;exact h.iter i c pos (Ent.strip_iter hc)
 ·rw[A9b]at h1 h2;exact h.idis i j c p c' p' cG (Ent.strip_iter h1) (Ent.strip_iter h2)
 ·rw[A9b]at hc;obtain⟨h1,bY,h2⟩:=Ent.strip_bx hc;obtain⟨h3,h4⟩:=h.bxl i e bY h2;exact⟨(O7 d e s.live).2 ⟨h3,h1⟩,h4⟩
def A4r{w:World}{wm:Nat->Nat}{v:Value}{sz b:Nat}(h:Tip w wm v sz)(hs:spare v=some b):∃c e fz,w.heap[b]?=some (.cells c e fz):=by
 obtain⟨a0,len,cap,rfl,bh,cH⟩:=h;cases a0 with
 |none=>simp[spare]at hs
 |some a1=>
  by_cases dp:cap=0
  ·simp[spare,dp]at hs
  ·obtain⟨b',off,c,e,fz,ha,hb,_⟩:=cH.resolve_left dp;cases ha;simp[spare,dp]at hs;subst hs;exact⟨c,e,fz,hb⟩
def C1O{w:World}{wm:Nat->Nat}{v:Value}{sz b:Nat}(h:Tip w wm v sz)(hs:spare v=some b):b<w.heap.size:=by
 obtain⟨a0,len,cap,hv,_,cH⟩:=h;rw[hv]at hs;simp only[spare]at hs;split at hs
 ·rename_i a1 l1 c1 cb;cases cb;split at hs
  ·cases hs
  ·rename_i dp;rcases cH with h3|⟨b',off,c,e,fz,ha,hb,_⟩
   ·exact absurd h3 dp
   ·cases ha;simp at hs;subst hs;exact(Fv.1 hb).1
 ·cases hs
def Rel.redo{U:UO Ty den}{B:Bs}{g:Gh}{s:St Ty den}{a:Act}{w:World}(hU:U.Ok)(hr:Rel U B g s a w){d b:Nat}(du:mem d s.live=true)(bm:Go.Aev.spare (g.G d)=some b){c c':Array Value}{e:Ew}{fz:Nat×Nat}(hb:w.heap[b]?=some (.cells c e fz))
  {w':World}(bH:w'.heap[b]?=some (.cells c' e fz))(ck:∀k,k≠b->w'.heap[k]?=w.heap[k]?)(az:w'.heap.size=w.heap.size)(jQ:w'.os=w.os)(cY:w'.tape=w.tape)(dy:w'.output=w.output)
  {wm':Nat->Nat}(hx:Ext w g.wm w' wm')(bj:∀k,k≠b->wm' k=g.wm k)(v:Value)(sz:Nat)(ht:Tip w' wm' v sz)(jt:∀k,Go.Aev.spare v=some k->k=b):
  Rel U B (({g with wm:=wm'}:Gh).put d v sz) (s.fresh d) a w':=by
 have qM:=(Fv.1 hb).1;have h1:=(hr.kill hU d).world hU (w':=w') (wm':=wm') jQ cY dy (Nat.le_of_eq az.symm) hx (λb'=>b'=b) (λb' bH=>by cases bH;exact⟨c,e,fz,hb⟩)
  (λe1 b' iN eE=>.inl λbH=>by
   cases bH;have ej:=(O7 d e1 s.live).1 iN;exact hr.disj d e1 b du ej.1 (Fo ej.2) bm eE)
  (λb' bH=>by cases bH;exact hr.mine d b du bm)
  (λb' bH aC=>⟨ck b' aC,bj b' aC⟩)
  (λb' bH=>by rw[az]at bH;rw[bj b' Du];exact hr.zero b' bH)
 have h2:=h1.fresh hU d v sz ht
  (λe1 b' iN aC eE eU=>by
   cases jt b' eE;have ej:=(O7 d e1 s.live).1 iN;exact hr.disj d e1 b du ej.1 (Fo aC) bm eU)
  (λb' eE=>by cases jt b' eE;exact hr.mine d b du bm)
 have cU:∀lf:Leaf Ty den,(lf.strip d).strip d=lf.strip d:=λlf=>by
  cases lf with
  |sl t l o=>
   cases o with
   |none=>rfl
   |some e=>
    simp only[Leaf.strip];cases hb:Ey e d<;>simp[hb]
  |ptr e o=>
   simp only[Leaf.strip];cases hb:Ey e d with
   |true=>rfl
   |false=>simp[hb,Leaf.strip]
  |_=>rfl
 refine h2.weaken (λi=>.inr ?_) (λe1 iN=>?_) (λi d' ls _ hl=>?_)
 ·rw[A4k,A4k,A9b];cases ed:s.get i with
  |one lf=>simp only[Ent.strip];rw[cU]
  |st ls=>simp only[Ent.strip,Jg];congr 1;exact Jh λlf _=>(cU lf).symm
  |tup ls=>simp only[Ent.strip,Jg];congr 1;exact Jh λlf _=>(cU lf).symm
  |iter c p=>rfl
  |bx d' ls=>
   simp only[Ent.strip];cases hb:Ey d' d with
   |true=>rfl
   |false=>simp only[Eh,Ent.strip,hb,Jg];congr 1;exact Jh λlf _=>(cU lf).symm
 ·simp only[St.fresh,St.kill]at iN ⊢;rw[mem_cons,O7]at iN ⊢;exact iN.imp id λh3=>⟨(O7 d e1 _).2 h3,h3.2⟩
 ·simp only[St.fresh,St.kill]at hl ⊢;rw[mem_cons,O7]at hl ⊢;exact hl.imp id λh3=>⟨((O7 d d' _).1 h3.1).1,h3.2⟩
end Go.Aev
namespace Go.Aev
variable {Ty:Type}{den:Ty->Type}
def Q6(P:Fg)(U:UO Ty den)(t:Ew):TK Ty->Prop
 | .int k=>P.underlying t=some (.int k)
 | .str=>P.underlying t=some .string
 | .bool=>P.underlying t=some .bool
 | .slice u e=>(P.underlying t=some (.slice e)/\∃i z,P.info? e=some i/\i.size=U.size u/\i.bytes=U.bytes u/\i.zero=some z/\z.cells.size=U.size u)/\∀e',U.ety u=some e'->e'=e
 | .struct u pl=>∃fs i z,P.underlying t=some (.struct fs)/\fs.toList.mapM (λf=>(P.info? f.type).map λi=>(f.offset,i.size))=some pl/\
  P.info? t=some i/\i.size=U.size u/\i.zero=some z/\z.cells.size=U.size u
 | .iface u=>(∃m,P.underlying t=some (.interface m))/\U.size u=1
 | .other=>True
section
variable {U:UO Ty den}{w:World}{g:Gh}{wm:Nat->Nat}
def CRep.int_inv{k:Gc}{n:Int}{v:Value}(h:CRep U w wm (.int k n) v):v=.int k n:=by cases h;rfl
def CRep.bool_inv{b:Bool}{v:Value}(h:CRep U w wm (.bool b) v):v=.bool b:=by cases h;rfl
def CRep.str_inv{s:DT}{v:Value}(h:CRep U w wm (.str s) v):v=.string ⟨s.toArray⟩:=by cases h;rfl
def CRep.sl_inv{t:Ty}{l:List (den t)}{o:Ed}{v:Value}(h:CRep U w wm (.sl t l o) v):∃a cap,v=.slice a l.length cap:=by
 cases h with
 |nil t o a cap=>exact⟨a,cap,rfl⟩
 |sl t l o b off cap=>exact⟨_,cap,rfl⟩
def LRep.int(k:Gc)(n:Int):LRep U w g (.int k n) (.int k n):=⟨.int k n,λ_ _ _ h=>by(cases h),λ_ _ h=>by(cases h)⟩
def LRep.bool(b:Bool):LRep U w g (.bool b) (.bool b):=⟨.bool b,λ_ _ _ h=>by(cases h),λ_ _ h=>by(cases h)⟩
def LRep.str(s:DT):LRep U w g (.str s) (.string ⟨s.toArray⟩):=⟨.str s,λ_ _ _ h=>by(cases h),λ_ _ h=>by(cases h)⟩
def LRep.any(v:Value):LRep U w g .any v:=⟨.any v,λ_ _ _ h=>by(cases h),λ_ _ h=>by(cases h)⟩
def LRep.closed{lf:Leaf Ty den}{v:Value}(h:CRep U w g.wm lf v):LRep U w g lf.close v:=
 ⟨h.close,λt l d e=>by(cases lf<;>simp[Leaf.close]at e),λd o e=>by(cases lf<;>simp[Leaf.close]at e)⟩
def B9F(s:ByteArray):(⟨s.data.toList.toArray⟩:ByteArray)=s:=by cases s;simp
def C6S(v:Value):LRep U w g (C5a v) v:=by
 cases v<;>first
  |exact LRep.int _ _
  |exact LRep.bool _
  |exact LRep.any _
  |(rename_i s;have:=LRep.str (U:=U) (w:=w) (g:=g) s.data.toList;rw[B9F]at this;exact this)
end
section
variable {E:Env Ty den}{B:Bs}{g:Gh}{s:St Ty den}{a:Act}{w:World}
def A36(h:Rel E.U B g s a w)(ty:Ew)(x:Fb):ERep E.U w g (opd E s ty x) (a.eval x):=by
 cases x with
 |tmp t=>
  have he:=h.ent t;simp only[opd,Hw];cases hg:s.get t with
  |iter c p=>exact ERep.any _ _ _
  |one l=>rw[hg]at he;exact he
  |tup ls=>rw[hg]at he;exact he
  |st ls=>rw[hg]at he;exact he
  |bx d ls=>exact ERep.any _ _ _
 |const v=>
  simp only[opd,Hw];split
  ·split
   ·exact⟨.nil _ _ _ _,λt l d e=>by(simp at e),λ_ _ e=>by(cases e)⟩
   ·exact ERep.any _ _ _
  ·exact C6S v
 |global g'=>exact ERep.any _ _ _
 |func f=>exact ERep.any _ _ _
def G2(h:Rel E.U B g s a w)(ty:Ew)(x:Fb):LRep E.U w g (opl E s ty x) (a.eval x):=by
 have he:=A36 h ty x;unfold opl;cases hd:opd E s ty x with
 |one l=>rw[hd]at he;exact he
 |tup ls=>exact LRep.any _
 |st ls=>exact LRep.any _
 |iter c p=>exact LRep.any _
 |bx d ls=>exact LRep.any _
def B3j(s:St Ty den)(ty:Ew)(x:Fb):(opd E s ty x).isIter=false:=by
 cases x with
 |tmp t=>
  simp only[opd];cases hg:s.get t<;>rfl
 |const v=>
  simp only[opd];split
  ·split<;>rfl
  ·rfl
 |_=>rfl
def V1{ty:Ew}{x:Fb}{k:Gc}{n:Int}(h:Rel E.U B g s a w)(he:opl E s ty x=.int k n):a.eval x=.int k n:=by
 have:=G2 h ty x;rw[he]at this;exact this.1.int_inv
def A6q{ty:Ew}{x:Fb}{b:Bool}(h:Rel E.U B g s a w)(he:opl E s ty x=.bool b):a.eval x=.bool b:=by
 have:=G2 h ty x;rw[he]at this;exact this.1.bool_inv
def A5e{ty:Ew}{x:Fb}{c:DT}(h:Rel E.U B g s a w)(he:opl E s ty x=.str c):a.eval x=.string ⟨c.toArray⟩:=by
 have:=G2 h ty x;rw[he]at this;exact this.1.str_inv
def REL.setO(h:Rel E.U B g s a w){e:Ent Ty den}{v:Value}(he:ERep E.U w g e v)(hi:e.isIter=false)(d:Ed)(hd:∀i,d=some i->i<a.tmps.size/\B.np<=i):REL E.U B (s.setO d e) (a.put d v) w:=by
 cases d with
 |none=>exact⟨g,h⟩
 |some i=>exact⟨g,h.set he hi i (hd i rfl)⟩
def H6(E:Env Ty den)(B:Bs){R:Type}(o:Oper)(a:Act)(k:Ent Ty den->St Ty den->Option R)(r:R)(next:Act->World->Prop):Prop:=
 ∀e s' v w',k e s'=some r->REL E.U B (s'.setO o.dst e) (a.put o.dst v) w'->next (a.put o.dst v) w'
variable {P:Fg}{R:Type}{o:Oper}{k:Ent Ty den->St Ty den->Option R}{r:R}{next:Act->World->Prop}{Q:Exit->Act->World->Prop}
def O5{v:Value}{w':World}(ah:(Fa a.eval o).run P w=.ok (.value v) w')(hn:next (a.put o.dst v) w'):o.wp P a w next Q:=by
 unfold Ix;rw[ah];exact hn
def G6(h:Rel E.U B g s a w)(hd:∀i,o.dst=some i->i<a.tmps.size/\B.np<=i)(hn:H6 E B o a k r next){e:Ent Ty den}{v:Value}(hk:k e s=some r)
  (he:ERep E.U w g e v)(hi:e.isIter=false)(ah:(Fa a.eval o).run P w=.ok (.value v) w):o.wp P a w next Q:=
 O5 ah (hn e s v w hk (REL.setO h he hi _ hd))
end
section
variable {E:Env Ty den}{B:Bs}{g:Gh}{s:St Ty den}{a:Act}{w:World}
variable {P:Fg}{R:Type}{o:Oper}{k:Ent Ty den->St Ty den->Option R}{r:R}{next:Act->World->Prop}{Q:Exit->Act->World->Prop}
variable (hT:∀t,Q6 P E.U t (E.tb t))(hU:E.U.Ok)
def D2k{x:Fb}(ai:o.op=.move x)(h:A9 E o s k=some r)(hr:Rel E.U B g s a w)(hd:∀i,o.dst=some i->i<a.tmps.size/\B.np<=i)(hn:H6 E B o a k r next):o.wp P a w next Q:=by
 simp only[A9,ai]at h;exact G6 hr hd hn h (A36 hr _ _) (B3j _ _ _) (by simp[Fa,ai])
def D25{c x y:Fb}(ai:o.op=.pick c x y)(h:A9 E o s k=some r)(hr:Rel E.U B g s a w)(hd:∀i,o.dst=some i->i<a.tmps.size/\B.np<=i)(hn:H6 E B o a k r next):o.wp P a w next Q:=by
 simp only[A9,ai]at h;split at h
 ·rename_i hc;exact G6 (v:=a.eval x) hr hd hn h (show ERep _ _ _ (.one _) _ from G2 hr _ _) rfl (by simp[Fa,ai,A6q hr hc,asBool])
 ·rename_i hc;exact G6 (v:=a.eval y) hr hd hn h (show ERep _ _ _ (.one _) _ from G2 hr _ _) rfl (by simp[Fa,ai,A6q hr hc,asBool])
 ·cases h
def LsRep.get{U:UO Ty den}{w:World}{g:Gh}:∀{ls:List (Leaf Ty den)}{vs:Ea},LsRep U w g ls vs->∀{i:Nat}{l:Leaf Ty den},ls[i]?=some l->∃v,vs[i]?=some v/\LRep U w g l v
 |_::_,_::_,h,0,l,hl=>by simp at hl;subst hl;exact⟨_,rfl,h.1⟩
 |_::_,_::_,h,i+1,l,hl=>by simpa using LsRep.get h.2 (i:=i) (by simpa using hl)
 |[],_,_,i,l,hl=>by simp at hl
def C6o{x:Fb}{i:Nat}(ai:o.op=.extract x i)(h:A9 E o s k=some r)(hr:Rel E.U B g s a w)(hd:∀i,o.dst=some i->i<a.tmps.size/\B.np<=i)(hn:H6 E B o a k r next):o.wp P a w next Q:=by
 simp only[A9,ai]at h;split at h
 ·rename_i ls hx;split at h
  ·rename_i l hl;have he:=A36 hr 0 x;rw[hx]at he;obtain⟨vs,hv,mH⟩:=he;obtain⟨v,eW,ax⟩:=mH.get hl;exact G6 hr hd hn h ax rfl (by simp[Fa,ai,hv,Instr.extract,eW])
  ·cases h
 ·cases h
def D5F(P:Fg)(w:World)(t:Ew)(a b:Int)(k':Gc)(h0:0<=b)(h1:b<=31):(binOp .shr t (.int .i32 a) (.int k' b)).run P w=.ok (.int .i32 (a / 2^b.toNat)) w:=by
 rw[binOp_shr,shift_shr_i32 _ _ _ h0 Du];rfl
def D3G(P:Fg)(w:World)(t:Ew)(a b:Int)(k':Gc)(h0:0<=b)(h1:b<=31):(binOp .shl t (.int .i32 a) (.int k' b)).run P w=.ok (.int .i32 (IntKind.i32.wrap (a*2^b.toNat))) w:=by
 rw[binOp_shl,shift_shl_i32 _ _ _ h0 Du];rfl
def A8{α:Type}{c:Bool}{x:Option α}{y:α}(h:(bif c then x else none)=some y):c=true/\x=some y:=by
 cases c with
 |true=>exact⟨rfl,h⟩
 |false=>cases h
def C9r(op:BinOp)(k0:Gc)(x y:Int)(l:Leaf Ty den)(t:Ew)(h:B3U op k0 x y=some l):
  ∃v,(binOp op t (.int k0 x) (.int k0 y)).run P w=.ok v w/\LRep E.U w g l v:=by
 cases op<;>simp only[B3U,Ff,reduceCtorEq]at h<;>subst h<;>
  first
  |(refine⟨_,?_,LRep.int _ _⟩;simp[binOp,Op.intArith];done)
  |(refine⟨_,?_,LRep.bool _⟩;simp[binOp,Op.intCmp];done)
  |(refine⟨_,?_,LRep.int _ _⟩;first|(rw[binOp_and,intBits_and];rfl)|(rw[binOp_or,intBits_or];rfl))
include hT in
def D0R{op:BinOp}{t yt:Ew}{x y:Fb}(ai:o.op=.binOp op t x y yt)(h:A9 E o s k=some r)(hr:Rel E.U B g s a w)(hd:∀i,o.dst=some i->i<a.tmps.size/\B.np<=i)(hn:H6 E B o a k r next):o.wp P a w next Q:=by
 simp only[A9,ai]at h;split at h
 ·rename_i k0 x' k1 y' hx hy;have ex:=V1 hr hx;have ey:=V1 hr hy;have bU:∀(l:Leaf Ty den)(v:Value),k (.one l) s=some r->(binOp op t (.int k0 x') (.int k1 y')).run P w=.ok v w->LRep E.U w g l v->o.wp P a w next Q:=λl v hk ah hl=>
   G6 hr hd hn hk (show ERep _ _ _ (.one l) _ from hl) rfl (by simp[Fa,ai,ex,ey,eqGuard_at_int,ah])
  split at h
  ·obtain⟨hc,h'⟩:=A8 h;clear h;simp only[Fl,decide_eq_true_eq]at hc;obtain⟨⟨h0,h1⟩,rfl⟩:=hc;exact bU _ _ h' (D5F P w t x' y' k1 h0 h1) (LRep.int _ _)
  ·obtain⟨hc,h'⟩:=A8 h;clear h;simp only[Fl,decide_eq_true_eq]at hc;obtain⟨⟨h0,h1⟩,rfl⟩:=hc;exact bU _ _ h' (D3G P w t x' y' k1 h0 h1) (LRep.int _ _)
  ·obtain⟨hc,h'⟩:=A8 h;clear h;simp only[Fl,decide_eq_true_eq,Ld,decide_eq_false_iff_not]at hc;obtain⟨rfl,h0⟩:=hc;exact bU _ _ h' (by simp[binOp,Op.intDiv,h0]) (LRep.int _ _)
  ·obtain⟨hc,h'⟩:=A8 h;clear h;simp only[Fl,decide_eq_true_eq,Ld,decide_eq_false_iff_not]at hc;obtain⟨rfl,h0⟩:=hc;exact bU _ _ h' (by simp[binOp,Op.intDiv,h0]) (LRep.int _ _)
  ·obtain⟨hc,h'⟩:=A8 h;clear h;simp only[decide_eq_true_eq]at hc;subst hc;split at h'
   ·rename_i l hl;obtain⟨v,hv,ax⟩:=C9r (P:=P) (w:=w) (g:=g) (E:=E) op k0 x' y' l t hl;exact bU l v h' hv ax
   ·cases h'
 ·rename_i x' y' hx hy;have ex:=A5e hr hx;have ey:=A5e hr hy;have bU:∀(l:Leaf Ty den)(v:Value),k (.one l) s=some r->(binOp op t (.string ⟨x'.toArray⟩) (.string ⟨y'.toArray⟩)).run P w=.ok v w->LRep E.U w g l v->o.wp P a w next Q:=λl v hk ah hl=>
   G6 hr hd hn hk (show ERep _ _ _ (.one l) _ from hl) rfl (by simp[Fa,ai,ex,ey,eqGuard_at_string,ah])
  split at h
  ·obtain⟨hc,h'⟩:=A8 h;clear h;simp only[decide_eq_true_eq]at hc;refine bU _ (.string ⟨(x'++y').toArray⟩) h' ?_ (LRep.str _);have e1:(⟨x'.toArray⟩:ByteArray)++⟨y'.toArray⟩=⟨(x'++y').toArray⟩:=by
    apply ByteArray.ext;simp
   have e2:(Hc x'.toArray).size=x'.length:=by simp[Jl]
   have e3:(Hc y'.toArray).size=y'.length:=by simp[Jl]
   have bh:¬(9223372036854775807<(x'.length:Int)+(y'.length:Int)):=Du
   simp[binOp,Iy,e1,e2,e3,bh]
  ·exact bU _ _ h (by simp[binOp,Iy]) (LRep.bool _)
  ·exact bU _ _ h (by simp[binOp,Iy]) (LRep.bool _)
  ·cases h
 ·rename_i x' y' hx hy;have ex:=A6q hr hx;have ey:=A6q hr hy;split at h
  ·rename_i ht;have fa:=hT t;rw[ht]at fa;split at h
   ·exact G6 hr hd hn h (show ERep _ _ _ (.one _) _ from LRep.bool _) rfl (by simp[Fa,ai,ex,ey,Jr,run_eql_bool w t x' y' fa])
   ·exact G6 hr hd hn h (show ERep _ _ _ (.one _) _ from LRep.bool _) rfl (by simp[Fa,ai,ex,ey,Jr,run_neq_bool w t x' y' fa])
   ·cases h
  ·cases h
 ·cases h
def D4X{op:UnOp}{t:Ew}{x:Fb}(ai:o.op=.unOp op t x)(h:A9 E o s k=some r)(hr:Rel E.U B g s a w)(hd:∀i,o.dst=some i->i<a.tmps.size/\B.np<=i)(hn:H6 E B o a k r next):o.wp P a w next Q:=by
 simp only[A9,ai]at h;split at h
 ·rename_i b hx;exact G6 hr hd hn h (show ERep _ _ _ (.one _) _ from LRep.bool _) rfl (by simp[Fa,ai,A6q hr hx,Op.unary])
 ·rename_i k0 n hx;exact G6 hr hd hn h (show ERep _ _ _ (.one _) _ from LRep.int _ _) rfl (by simp[Fa,ai,V1 hr hx,Op.unary,Op.intArith])
 ·cases h
end
end Go.Aev
namespace Go.Aev
variable {Ty:Type}{den:Ty->Type}
section
variable {U:UO Ty den}
def A7n(t:Ty)(x:den t)(l:List (den t)):flat U t (x::l)=U.cells t x++flat U t l:=rfl
def C2a(t:Ty)(l m:List (den t)):flat U t (l++m)=flat U t l++flat U t m:=by simp[flat]
def flat_get(hU:U.Ok)(t:Ty):∀(l:List (den t))(i:Nat)(x:den t)(j:Nat),l[i]?=some x->j<U.size t->(flat U t l)[i*U.size t+j]?=(U.cells t x)[j]?
 |[],i,x,j,h,_=>by simp at h
 |y::l,0,x,j,h,hj=>by
  simp at h;subst h;rw[A7n,Nat.zero_mul,Iz,Gm (by rw[hU.len];exact hj)]
 |y::l,i+1,x,j,h,hj=>by
  have:=flat_get hU t l i x j (by simpa using h) hj;rw[A7n,Gu (by rw[hU.len,Fu];omega),hU.len];rw[<-this];congr 1;rw[Fu];omega
def C2z(hU:U.Ok)(t:Ty):∀(l:List (den t))(i:Nat),flat U t (l.drop i)=(flat U t l).drop (i*U.size t)
 |l,0=>Eo
 |[],i+1=>by simp[flat]
 |x::l,i+1=>by
  have:=C2z hU t l i;rw[List.drop_succ_cons,this,A7n,Fu,Jb,Kh];rw[<-List.drop_drop]
  congr 1
  rw[<-hU.len t x];simp
def C4V(hU:U.Ok)(t:Ty):∀(l:List (den t))(i:Nat),flat U t (l.take i)=(flat U t l).take (i*U.size t)
 |l,0=>by simp[flat]
 |[],i+1=>by simp[flat]
 |x::l,i+1=>by
  have:=C4V hU t l i;rw[List.take_succ_cons,A7n,this,A7n,Fu,Jb,Kh];rw[List.take_append,hU.len]
  congr 1
  ·rw[List.take_of_length_le (by rw[hU.len];omega)]
  ·congr 1;omega
def I0{α:Type}{l:List α}{i:Nat}{x:α}(h:l[i]?=some x):i<l.length:=by
 rcases Ft i l.length with h'|h'
 ·exact h'
 ·rw[Hr h']at h;cases h
variable {w:World}{g:Gh}{wm:Nat->Nat}
def CRep.sl_cells{t:Ty}{l:List (den t)}{o:Ed}{v:Value}(hU:U.Ok)(h:CRep U w wm (.sl t l o) v):
  (l=[]/\∃a cap,v=.slice a 0 cap)\/∃(b off cap:Nat)(cs:Nat->Value),v=.slice (some ⟨b,off,none⟩) l.length cap/\l.length<=cap/\off+l.length*U.size t<=wm b/\
   (∀j lf,(flat U t l)[j]?=some lf->w.cell? ⟨b,off+j,none⟩=some (cs j))/\(∀j lf,(flat U t l)[j]?=some lf->CRep U w wm lf (cs j)):=by
 cases h with
 |nil t o a cap=>exact .inl ⟨rfl,a,cap,rfl⟩
 |sl t l o b off cap cs a7 bj hc hr=>exact .inr ⟨b,off,cap,cs,rfl,a7,bj,hc,hr⟩
def B5B(lf:Leaf Ty den):Prop:=lf≠ .any/\(∀v,lf≠ .val v)/\∀u y,lf≠ .agg u y
def CRep.one(hU:U.Ok){lf:Leaf Ty den}{v:Value}(h:CRep U w wm lf v)(hs:B5B lf):v.oneCell'=true/\v.cells= #[v]:=by
 induction h with
 |any v=>exact absurd rfl hs.1
 |val v=>exact absurd rfl (hs.2.1 v)
 |agg t x vs hl cs hc hr=>exact absurd rfl (hs.2.2 t x)
 |one1 t x lf v hl h ih=>exact ih (hU.solid t x lf (by rw[hl];simp))
 |ptr d off v h=>rcases h with⟨p,rfl⟩|⟨a,l,c,rfl⟩<;>exact⟨rfl,rfl⟩
 |_=>exact⟨rfl,rfl⟩
def A93(hU:U.Ok){t:Ty}{l:List (den t)}{j:Nat}{lf:Leaf Ty den}(h:(flat U t l)[j]?=some lf):B5B lf:=by
 have hm:=Ha h;unfold flat at hm;obtain⟨x,_,hx⟩:=List.mem_flatMap.1 hm;exact hU.solid t x lf hx
end
section
variable {U:UO Ty den}{B:Bs}{g:Gh}{s:St Ty den}{a:Act}{w:World}
def C6(wm:Nat->Nat)(b n:Nat):Nat->Nat:=λk=>if k=b then n else wm k
def Rel.alloc(hU:U.Ok)(h:Rel U B g s a w)(o:Obj)(n:Nat)(w':World)(hw:w'.heap=w.heap.push o)(jQ:w'.os=w.os)(cY:w'.tape=w.tape)(dy:w'.output=w.output):
  Rel U B {g with wm:=C6 g.wm w.heap.size n} s a w':=by
 have dT:∀b,b<w.heap.size->w'.heap[b]?=w.heap[b]? :=λb hb=>by rw[hw,Gf,Ek Du]
 refine h.world hU jQ cY dy (by rw[hw];simp) ⟨A1D hw,λb off ho=>?_,λb=>?_⟩ (λ_=>False) (λb e=>e.elim) (λ_ _ _ _=>.inl λe=>e) (λb e=>e.elim) (λb hb _=>⟨dT b hb,?_⟩) (λb hb=>?_)
 ·rcases Ft b w.heap.size with h1|h1
  ·exact Fq (a:=⟨b,off,none⟩) (dT b h1)
  ·rw[h.zero b h1]at ho;omega
 ·unfold C6;by_cases hb:b=w.heap.size
  ·subst hb;rw[El rfl,h.zero _ (Fe _)];exact Fi _
  ·rw[Ek hb];exact Fe _
 ·simp only[C6];rw[Ek Du]
 ·rw[hw]at hb;simp at hb;simp only[C6];rw[Ek Du];exact h.zero b Du
def Rel.drew(hU:U.Ok)(h:Rel U B g s a w):Rel U B g s a w.drew:=
 h.world hU (w':=w.drew) (wm':=g.wm) rfl rfl rfl (Fe _) ⟨A6Z rfl,λ_ _ _=>rfl,λ_=>Fe _⟩ (λ_=>False) (λb e=>e.elim) (λ_ _ _ _=>.inl λe=>e) (λb e=>e.elim) (λb _ _=>⟨rfl,rfl⟩) h.zero
def C4x(hU:U.Ok){t:Ty}{l:List (den t)}{w':World}{wm':Nat->Nat}{b:Nat}{c:Array Value}{e:Ew}{fz:Nat×Nat}(hb:w'.heap[b]?=some (.cells c e fz))(cap:Nat)(a7:l.length<=cap)
  (bj:l.length*U.size t<=wm' b)(hr:∀(j:Nat)(lf:Leaf Ty den),(flat U t l)[j]?=some lf->∃v:Value,c[j]?=some v/\CRep U w' wm' lf v)(o:Ed):CRep U w' wm' (.sl t l o) (.slice (some ⟨b,0,none⟩) l.length cap):=by
 refine .sl t l o b 0 cap (λj=>c.getD j undef) a7 Du (λj lf hj=>?_) (λj lf hj=>?_)
 ·obtain⟨v,hv,_⟩:=hr j lf hj;simp[Fs,hb,hv,Il]
 ·obtain⟨v,hv,ax⟩:=hr j lf hj;simpa [Il,hv]using ax
end
section
variable {E:Env Ty den}{B:Bs}{g:Gh}{s:St Ty den}{a:Act}{w:World}
variable {P:Fg}{R:Type}{o:Oper}{k:Ent Ty den->St Ty den->Option R}{r:R}{next:Act->World->Prop}{Q:Exit->Act->World->Prop}
variable (hT:∀t,Q6 P E.U t (E.tb t))(hU:E.U.Ok)
include hT in
def P9{t:Ew}{u:Ty}{e:Ew}(h:E.tb t=.slice u e):P.underlying t=some (.slice e)/\∃i z,P.info? e=some i/\i.size=E.U.size u/\i.bytes=E.U.bytes u/\i.zero=some z/\z.cells.size=E.U.size u:=by
 have:=hT t;rw[h]at this;exact this.1
include hT in
def A6b{t:Ew}{u:Ty}{e:Ew}(h:E.tb t=.slice u e):∀e',E.U.ety u=some e'->e'=e:=by
 have:=hT t;rw[h]at this;exact this.2
include hT in
def A2S{t:Ew}(h:E.tb t=.str):P.underlying t=some .string:=by
 have:=hT t;rw[h]at this;exact this
include hT in
def A4G{t:Ew}{k:Gc}(h:E.tb t=.int k):P.underlying t=some (.int k):=by
 have:=hT t;rw[h]at this;exact this
def A81{U:UO Ty den}{t u:Ty}{l:List (den u)}{l':List (den t)}(h:P8 U t u l=some l'):∃e:u=t,e ▸ l=l':=by
 unfold P8 at h;split at h
 ·rename_i e _;exact⟨e,by simpa using h⟩
 ·cases h
def A3E{U:UO Ty den}{t u:Ty}{l:List (den u)}{l':List (den t)}(h:P8 U t u l=some l'){w:World}{wm:Nat->Nat}{o:Ed}{v:Value}(hr:CRep U w wm (.sl u l o) v):CRep U w wm (.sl t l' o) v/\l.length=l'.length:=by
 obtain⟨e,he⟩:=A81 h;subst e;subst he;exact⟨hr,rfl⟩
def C42{α:Type}{l:List α}{i:Int}{x:α}(h:idx l i=some x):0<=i/\l[i.toNat]?=some x:=by
 unfold idx at h;obtain⟨h1,h2⟩:=A8 h;exact⟨by simpa using h1,h2⟩
def B4S{α:Type}{l r:List α}{lo hi:Int}(h:sub l lo hi=some r):0<=lo/\lo<=hi/\hi<=(l.length:Int)/\r=(l.drop lo.toNat).take (hi.toNat - lo.toNat):=by
 unfold sub at h;obtain⟨h1,h2⟩:=A8 h;simp only[Fl,decide_eq_true_eq]at h1;exact⟨h1.1,h1.2.1,h1.2.2,by simpa using h2.symm⟩
include hT hU in
def D1b{t:Ew}{x i:Fb}(ai:o.op=.indexAddr t x i)(h:A9 E o s k=some r)(hr:Rel E.U B g s a w)(hd:∀i,o.dst=some i->i<a.tmps.size/\B.np<=i)(hn:H6 E B o a k r next):o.wp P a w next Q:=by
 simp only[A9,ai]at h;split at h
 ·rename_i u e u0 l0 own k0 n ht hx hi;split at h
  ·rename_i l cO;split at h
   ·rename_i y hy;obtain⟨h0,iO⟩:=C42 hy;obtain⟨cI,ie,z,bR,az,_,_,_⟩:=P9 hT ht;have ei:=V1 hr hi;have bS:=G2 hr t x;rw[hx]at bS;have ax:=(A3E cO bS.1).1;have aH:=I0 iO;rcases ax.sl_cells hU with⟨rfl,_⟩|⟨b,off,cap,cs,hv,a7,bj,hc,fb⟩
    ·simp at iO
    ·have cS:0<=n/\n<(l.length:Int):=⟨h0,Du⟩;have dz:(n.toNat+1)*E.U.size u<=l.length*E.U.size u:=Ib _ Du;rw[Fu,Jb]at dz;refine G6 (e:=.one (.elem u y 0)) (v:=.pointer (some ⟨b,(off+n.toNat*E.U.size u)+0,none⟩)) hr hd hn h ?_ rfl ?_
     ·refine⟨.elem u y 0 b (off+n.toNat*E.U.size u) (λj=>cs (n.toNat*E.U.size u+j)) Du (λj lf hj=>?_) (λj lf hj=>?_),λ_ _ _ e=>by(cases e),λ_ _ e=>by(cases e)⟩
      ·have bC:=I0 hj;rw[hU.len]at bC;have:=hc (n.toNat*E.U.size u+j) lf (by rw[flat_get hU u l n.toNat y j iO bC];exact hj);rw[Ic];exact this
      ·have bC:=I0 hj;rw[hU.len]at bC;exact fb (n.toNat*E.U.size u+j) lf (by rw[flat_get hU u l n.toNat y j iO bC];exact hj)
     ·have cL:(Io b off none).add (n.toNat*E.U.size u)=⟨b,off+n.toNat*E.U.size u,none⟩:=Gj _ _ _;simp[Fa,ai,hv,ei,Instr.indexAt,asIntOf,Fc cI,cS.1,cS.2,Ge,Fp,bR,az,cL]
   ·cases h
  ·cases h
 ·cases h
def A4g(b:DT):(Hc b.toArray).size=b.length:=by simp[Jl]
include hT in
def D5Q{t:Ew}{x i:Fb}(ai:o.op=.index t x i)(h:A9 E o s k=some r)(hr:Rel E.U B g s a w)(hd:∀i,o.dst=some i->i<a.tmps.size/\B.np<=i)(hn:H6 E B o a k r next):o.wp P a w next Q:=by
 simp only[A9,ai]at h;split at h
 ·rename_i b k0 n ht hx hi;split at h
  ·rename_i y hy;obtain⟨h0,iO⟩:=C42 hy;have cI:=A2S hT ht;have ei:=V1 hr hi;have ex:=A5e hr hx;have aH:=I0 iO;have hg:(Hc b.toArray)[n.toNat]?=some y:=by
    rw[ByteArray.getElem?_lt' _ _ (by rw[A4g];exact aH)]
    congr 1
    rw[Fh aH]at iO;have:=Fz iO;rw[<-this];rfl
   exact G6 (e:=.one (.int .u8 (y.toNat:Int))) (v:=.int .u8 (y.toNat:Int)) hr hd hn h (LRep.int _ _) rfl (by simp[Fa,ai,ex,ei,Instr.index,asIntOf,Fc cI,h0,hg])
  ·cases h
 ·cases h
def C9o{t:Ew}{k:TK Ty}(h:Q6 P E.U t k)(hk:∀(_:k=.other),False)(de:∀u pl (_:k=.struct u pl),False)(w:World):(isAgg t).run P w=.ok false w:=by
 cases k with
 |int k=>simp[isAgg,Fc (show P.underlying t=some (.int k)from h)]
 |str=>simp[isAgg,Fc (show P.underlying t=some .string from h)]
 |bool=>simp[isAgg,Fc (show P.underlying t=some .bool from h)]
 |slice u e=>simp[isAgg,Fc h.1.1]
 |struct u pl=>exact(de u pl rfl).elim
 |iface u=>obtain⟨⟨m,h⟩,_⟩:=h;simp[isAgg,Fc h]
 |other=>exact(hk rfl).elim
def B39{t:Ew}{fs:Array Field}(h:P.underlying t=some (.struct fs))(w:World):(isAgg t).run P w=.ok true w:=by simp[isAgg,Fc h]
def C1k{α β:Type}{f:α->Option β}:∀{l:List α}{r:List β},l.mapM f=some r->r.length=l.length
 |[],r,h=>by simp at h;subst h;rfl
 |x::l,r,h=>by
  simp only[Ie,Kc,Kb,Jz,Ff]at h;obtain⟨b,_,r',bV,rfl⟩:=h;simp[C1k bV]
def C2v{α β:Type}{f:α->Option β}:∀{l:List α}{r:List β},l.mapM f=some r->∀(i:Nat)(x:α),l[i]?=some x->∃y,r[i]?=some y/\f x=some y
 |[],r,h,i,x,hx=>by simp at hx
 |a::l,r,h,i,x,hx=>by
  simp only[Ie,Kc,Kb,Jz,Ff]at h;obtain⟨b,hb,r',bV,rfl⟩:=h;cases i with
  |zero=>simp at hx;subst hx;exact⟨b,Eo,hb⟩
  |succ i=>obtain⟨y,h1,h2⟩:=C2v bV i x (by simpa using hx);exact⟨y,by simpa using h1,h2⟩
include hT in
def A3m{t:Ew}{u:Ty}{pl:List (Nat×Nat)}(h:E.tb t=.struct u pl):∃fs i z,P.underlying t=some (.struct fs)/\fs.toList.mapM (λf=>(P.info? f.type).map λi=>(f.offset,i.size))=some pl/\
  P.info? t=some i/\i.size=E.U.size u/\i.zero=some z/\z.cells.size=E.U.size u:=by
 have:=hT t;rw[h]at this;exact this
def A8b{U:UO Ty den}{w:World}{wm:Nat->Nat}{t:Ty}{x:den t}{v:Value}(h:CRep U w wm (.agg t x) v):
  ∃vs:Ea,v=.agg vs.toArray/\vs.length=U.size t/\∃cs:Nat->Value,(∀j lf,(U.cells t x)[j]?=some lf->vs[j]?=some (cs j))/\∀j lf,(U.cells t x)[j]?=some lf->CRep U w wm lf (cs j):=by
 cases h with
 |agg t x vs hl cs hc hr=>exact⟨vs,rfl,hl,cs,hc,hr⟩
def B0d{U:UO Ty den}{t u:Ty}{y:den u}{y':den t}(h:P8 U t u [y]=some [y']):∃e:u=t,e ▸ y=y':=by
 unfold P8 at h;split at h
 ·rename_i e _;subst e;simp only[Ff,Kt]at h;exact⟨rfl,h.1⟩
 ·cases h
def C49{U:UO Ty den}{u u':Ty}{c:Bool}{y:den u'}{y':den u}{r:List (den u)}(h:(bif c then P8 U u u' [y]else none)=some [y']):c=true/\∃e:u'=u,e ▸ y=y':=by
 cases c with
 |true=>exact⟨rfl,B0d h⟩
 |false=>cases h
def A1T(hr:Rel E.U B g s a w){d:Nat}{ls:List (Leaf Ty den)}(h:L8 s d=some ls):BoxOk E.U w g d ls/\mem d s.live=true/\s.get (bxi d)=.bx d ls:=by
 unfold L8 at h;split at h
 ·rename_i e bY he;obtain⟨h1,h2⟩:=A8 h;have:=(F2 _ _).1 h1;subst this;cases h2;have h3:=hr.ent (bxi e);rw[he]at h3;exact⟨h3,(hr.bxl _ _ _ he).1,he⟩
 ·cases h
def A4v{d off:Nat}{ls:List (Leaf Ty den)}{v:Value}(ho:Ez off 1000000=true)(hx:LRep E.U w g (.ptr d off) v)(hb:BoxOk E.U w g d ls):∃b n,g.G d=.slice (some ⟨b,0,none⟩) 0 n/\v=.pointer (some ⟨b,off,none⟩)/\(0<ls.length/\ls.length<=n/\(Ez d 1000000=true->n=ls.length))/\g.Gs d=1/\∀(j:Nat) lf,ls[j]?=some lf->∃u,w.cell? ⟨b,j,none⟩=some u/\u.oneCell'=true/\u.cells= #[u]/\LRep E.U w g lf u:=by
 obtain⟨b,n,h1,h2⟩:=hx.2.2 d off rfl;obtain⟨b',n',h3,h4,h5,h6⟩:=hb;rw[h1]at h3;cases h3;exact⟨b,n,h1,h2.at ho,h4,h5,h6⟩
def B1w:∀(ls:List (Leaf Ty den))(j:Nat),(F6 ls)[j]?=(ls[j]?).map Leaf.close
 |[],j=>by simp[F6]
 |l::r,0=>by simp[F6]
 |l::r,j+1=>by simp only[F6,Kq];exact B1w r j
include hT hU in
def C71{t:Ew}{x:Fb}(ai:o.op=.load t x)(h:A9 E o s k=some r)(hr:Rel E.U B g s a w)(hd:∀i,o.dst=some i->i<a.tmps.size/\B.np<=i)(hn:H6 E B o a k r next):o.wp P a w next Q:=by
 simp only[A9,ai]at h;split at h
 ·cases h
 ·rename_i u ht;obtain⟨⟨mm,h1⟩,eE⟩:(∃m,P.underlying t=some (.interface m))/\E.U.size u=1:=by have:=hT t;rw[ht]at this;exact this
  have ij:(isAgg t).run P w=.ok false w:=by simp[isAgg,Fc h1]
  split at h
  ·rename_i u' y off hx;split at h
   ·rename_i y' hy;obtain⟨h0,e0,he⟩:=C49 (r:=[]) hy;have h0:=(F2 _ _).1 h0;subst h0;subst e0;simp only at he;subst he;have bS:=G2 hr 0 x;rw[hx]at bS;obtain⟨hc,_⟩:=bS;generalize hv:a.eval x=v at hc;cases hc with
    |elem _ _ _ b o' cs bj aL ax=>
     have av:=hU.len u' y;rw[eE]at av;obtain⟨lf,dh⟩:∃lf,E.U.cells u' y=[lf]:=by
      match cE:E.U.cells u' y,av with
      |[lf],_=>exact⟨lf,rfl⟩
     have hj:(E.U.cells u' y)[0]?=some lf:=by rw[dh];rfl
     refine G6 (e:=.one (.one1 u' y)) (v:=cs 0) hr hd hn h ⟨.one1 u' y lf _ dh (ax 0 lf hj),λ_ _ _ he=>by(cases he),λ_ _ he=>by(cases he)⟩ rfl ?_;have:=aL 0 lf hj;rw[Je]at this;simp[Fa,ai,hv,Hs,Hb,Gg,ij,this]
   ·cases h
  ·cases h
 ·rename_i u pl ht;obtain⟨fs,ie,z,h1,_,h3,h4,_⟩:=A3m hT ht;have ij:=B39 (P:=P) h1 w;split at h
  ·rename_i u' y off hx;have bS:=G2 hr 0 x;rw[hx]at bS;obtain⟨hc,_⟩:=bS;generalize hv:a.eval x=v at hc;cases hc with
   |elem _ _ _ b o' cs bj aL ax=>
    have av:=hU.len u' y;have bU:∀(z:den u),E.U.cells u z=((E.U.cells u' y).drop off).take (E.U.size u)->k (.one (.agg u z)) s=some r->o.wp P a w next Q:=λz hz hk=>by
     have Aq:=hU.len u z;have aO:∀j lf,(E.U.cells u z)[j]?=some lf->(E.U.cells u' y)[off+j]?=some lf/\j<E.U.size u:=λj lf hj=>by
      have bC:=I0 hj;rw[hz,Hi,Hk]at hj;split at hj
      ·exact⟨hj,Du⟩
      ·cases hj
     have cZ:(Gq ⟨b,o'+off,none⟩ (E.U.size u)).run P w=.ok ((Gb (E.U.size u)).map λj=>cs (off+j)).toArray w:=
      Ir w _ _ _ λj hj=>by
       obtain⟨h5,_⟩:=aO j _ (Fh Du);have:=aL (off+j) _ h5;rw[Gj,Ic];exact this
     refine G6 (e:=.one (.agg u z)) (v:=.agg ((Gb (E.U.size u)).map λj=>cs (off+j)).toArray) hr hd hn hk ⟨.agg u z _ Eo (λj=>cs (off+j)) (λj lf hj=>?_) (λj lf hj=>ax (off+j) lf (aO j lf hj).1),λ_ _ _ he=>by(cases he),λ_ _ he=>by(cases he)⟩ rfl ?_
     ·rw[Fm,Hj (aO j lf hj).2];rfl
     ·simp[Fa,ai,hv,Hs,Hb,Gg,ij,Ge,Fp,h3,h4,cZ]
    split at h
    ·rename_i y' hy;obtain⟨h0,e0,he⟩:=C49 (r:=[]) hy;have h0:=(F2 _ _).1 h0;subst h0;subst e0;simp only at he;subst he;refine bU y ?_ h;rw[List.drop_zero, <-av,List.take_length]
    ·split at h
     ·rename_i z hz;exact bU z (hU.dec _ _ _ hz) h
     ·cases h
  ·rename_i d off hx;split at h
   ·rename_i ls bD;obtain⟨bJ,h⟩:=A8 h;split at h
    ·rename_i z hz;have bS:=G2 hr 0 x;rw[hx]at bS;obtain⟨cj,_,_⟩:=A1T hr bD;obtain⟨b,nb,hG,hv,ce,cX,aQ⟩:=A4v bJ bS cj;have tZ:=hU.dec _ _ _ hz;have Aq:=hU.len u z;have aO:∀j lf,(E.U.cells u z)[j]?=some lf->∃l0,ls[off+j]?=some l0/\lf=l0.close/\j<E.U.size u:=λj lf hj=>by
      have bC:=I0 hj;rw[tZ,B1w,Hi,Hk]at hj;split at hj
      ·obtain⟨l0,h5,rfl⟩:=Gk.1 hj;exact⟨l0,h5,rfl,Du⟩
      ·cases hj
     have cE:∀j,j<E.U.size u->∃uu,w.cell? ⟨b,off+j,none⟩=some uu/\∀lf,(E.U.cells u z)[j]?=some lf->CRep E.U w g.wm lf uu:=λj hj=>by
      obtain⟨l0,h5,h6,_⟩:=aO j _ (Fh Du);obtain⟨uu,u1,_,_,u4⟩:=aQ _ _ h5;refine⟨uu,u1,λlf dh=>?_⟩;rw[Fh Du]at dh;cases dh;rw[h6];exact u4.1.close
     have uB:∃cs:Nat->Value,∀j,j<E.U.size u->w.cell? ⟨b,off+j,none⟩=some (cs j)/\∀lf,(E.U.cells u z)[j]?=some lf->CRep E.U w g.wm lf (cs j):=
      ⟨λj=>(w.cell? ⟨b,off+j,none⟩).getD undef,λj hj=>by
       obtain⟨uu,u1,u2⟩:=cE j hj;refine⟨?_,λlf dh=>?_⟩
       ·show _=some ((w.cell? ⟨b,off+j,none⟩).getD undef);rw[u1];rfl
       ·show CRep E.U w g.wm lf ((w.cell? ⟨b,off+j,none⟩).getD undef);rw[u1];exact u2 lf dh⟩
     obtain⟨cs,cE⟩:=uB;have cZ:(Gq ⟨b,off,none⟩ (E.U.size u)).run P w=.ok ((Gb (E.U.size u)).map cs).toArray w:=
      Ir w _ _ cs λj hj=>by rw[Gj];exact(cE j hj).1
     refine G6 (e:=.one (.agg u z)) (v:=.agg ((Gb (E.U.size u)).map cs).toArray) hr hd hn h ⟨.agg u z _ Eo cs (λj lf hj=>?_) (λj lf hj=>?_),λ_ _ _ he=>by(cases he),λ_ _ he=>by(cases he)⟩ rfl ?_
     ·obtain⟨_,_,_,h7⟩:=aO j lf hj;rw[Fm,Hj h7];rfl
     ·obtain⟨_,_,_,h7⟩:=aO j lf hj;exact(cE j h7).2 lf hj
     ·simp[Fa,ai,hv,Hs,Hb,Gg,ij,Ge,Fp,h3,h4,cZ]
    ·cases h
   ·cases h
  ·cases h
 ·rename_i hk _ de;have ij:=C9o (E:=E) (hT t) hk de w;split at h
  ·rename_i u y off hx;split at h
   ·rename_i lf dh;have bS:=G2 hr 0 x;rw[hx]at bS;obtain⟨hc,_⟩:=bS;generalize hv:a.eval x=v at hc;cases hc with
    |elem _ _ _ b o' cs bj aL ax=>
     refine G6 (e:=.one lf.close) (v:=cs off) hr hd hn h (LRep.closed (ax off lf dh)) rfl ?_;simp[Fa,ai,hv,Hs,Hb,Gg,ij,aL off lf dh]
   ·cases h
  ·rename_i d off hx;split at h
   ·rename_i ls bD;obtain⟨bJ,h⟩:=A8 h;split at h
    ·rename_i l hl;have bS:=G2 hr 0 x;rw[hx]at bS;obtain⟨cj,_,_⟩:=A1T hr bD;obtain⟨b,nb,hG,hv,ce,cX,aQ⟩:=A4v bJ bS cj;obtain⟨uu,u1,_,_,u4⟩:=aQ off l hl;refine G6 (e:=.one l) (v:=uu) hr hd hn h u4 rfl ?_;simp[Fa,ai,hv,Hs,Hb,Gg,ij,u1]
    ·cases h
   ·cases h
  ·cases h
end
end Go.Aev
namespace Go.Aev
variable {Ty:Type}{den:Ty->Type}
section
variable {E:Env Ty den}{B:Bs}{g:Gh}{s:St Ty den}{a:Act}{w:World}
variable {P:Fg}{R:Type}{o:Oper}{k:Ent Ty den->St Ty den->Option R}{r:R}{next:Act->World->Prop}{Q:Exit->Act->World->Prop}
variable (hT:∀t,Q6 P E.U t (E.tb t))(hU:E.U.Ok)
def REL.newOwn(hU:E.U.Ok)(hr:Rel E.U B g s a w)(hd:∀i,o.dst=some i->i<a.tmps.size/\B.np<=i)(d:Nat){t:Ty}{l:List (den t)}{c:Array Value}{e:Ew}{fz:Nat×Nat}{cap:Nat}(hety:∀e',E.U.ety t=some e'->e'=e)(w':World)
  (hw:w'.heap=w.heap.push (.cells c e fz))(jQ:w'.os=w.os)(cY:w'.tape=w.tape)(dy:w'.output=w.output)(a7:l.length<=cap)(az:cap*E.U.size t<=c.size)
  (nF:fz.2=0)
  (hc:∀(j:Nat)(lf:Leaf Ty den),(flat E.U t l)[j]?=some lf->∃v:Value,c[j]?=some v/\CRep E.U w g.wm lf v):
  REL E.U B ((s.fresh d).setO o.dst (.one (.sl t l (some d)))) (a.put o.dst (.slice (some ⟨w.heap.size,0,none⟩) l.length cap)) w':=by
 have h1:=hr.alloc hU (.cells c e fz) (l.length*E.U.size t) w' hw jQ cY dy;have bW:w'.heap[w.heap.size]?=some (.cells c e fz):=by rw[hw];simp
 have dT:∀b,b<w.heap.size->w'.heap[b]?=w.heap[b]? :=λb hb=>by rw[hw,Gf,Ek Du]
 have hx:Ext w g.wm w' (C6 g.wm w.heap.size (l.length*E.U.size t)):=by
  refine⟨A1D hw,λb off ho=>?_,λb=>?_⟩
  ·rcases Ft b w.heap.size with h2|h2
   ·exact Fq (a:=⟨b,off,none⟩) (dT b h2)
   ·rw[hr.zero b h2]at ho;omega
  ·unfold C6;by_cases hb:b=w.heap.size
   ·subst hb;rw[El rfl,hr.zero _ (Fe _)];exact Fi _
   ·rw[Ek hb];exact Fe _
 have fc:C6 g.wm w.heap.size (l.length*E.U.size t) w.heap.size=l.length*E.U.size t:=by simp[C6]
 have ax:CRep E.U w' (C6 g.wm w.heap.size (l.length*E.U.size t)) (.sl t l (some d)) (.slice (some ⟨w.heap.size,0,none⟩) l.length cap):=
  C4x hU bW cap a7 (by rw[fc];exact Fe _) (λj lf hj=>by obtain⟨v,hv,eW⟩:=hc j lf hj;exact⟨v,hv,eW.mono hU hx⟩) _
 have h2:=h1.fresh hU d (.slice (some ⟨w.heap.size,0,none⟩) l.length cap) (E.U.size t)
  ⟨_,_,_,rfl,a7,.inr ⟨w.heap.size,0,c,e,fz,rfl,bW,Du,by simp[C6],by rw[nF];exact Fi _⟩⟩
  (λe' b he aC hs qN=>by
   have hb:b=w.heap.size:=by
    simp only[spare]at hs;split at hs
    ·cases hs
    ·exact(Fz hs).symm
   subst hb;obtain⟨a0,len,fx,hv,_,cH⟩:=hr.tip e' he;have eU:spare (g.G e')=some w.heap.size:=qN;rw[hv]at eU;simp only[spare]at eU;split at eU
   ·rename_i a1 l1 c1 cb;cases cb;split at eU
    ·cases eU
    ·rename_i dp;rcases cH with h3|⟨b,off,c,e,fz,ha,hb,_⟩
     ·exact dp h3
     ·cases ha;simp at eU;subst eU;exact absurd (Fv.1 hb).1 Du
   ·cases eU)
  (λb hs=>by
   simp only[spare]at hs;split at hs
   ·cases hs
   ·left
    have:=Fz hs;rw[<-this];exact hr.size)
 refine REL.setO h2 (e:=.one (.sl t l (some d))) ⟨ax,λt' l' d' he=>?_,λ_ _ he=>by(cases he)⟩ rfl o.dst hd;simp only[Leaf.sl.injEq,Ff]at he;obtain⟨rfl,_,rfl⟩:=he;exact⟨by simp[Gh.put],by simp[Gh.put],TyB.new hety bW⟩
def REL.newCl(hU:E.U.Ok)(hr:Rel E.U B g s a w)(hd:∀i,o.dst=some i->i<a.tmps.size/\B.np<=i){t:Ty}{l:List (den t)}{c:Array Value}{e:Ew}{fz:Nat×Nat}{cap:Nat}(w':World)
  (hw:w'.heap=w.heap.push (.cells c e fz))(jQ:w'.os=w.os)(cY:w'.tape=w.tape)(dy:w'.output=w.output)(a7:l.length<=cap)
  (hc:∀(j:Nat)(lf:Leaf Ty den),(flat E.U t l)[j]?=some lf->∃v:Value,c[j]?=some v/\CRep E.U w g.wm lf v):
  REL E.U B (s.setO o.dst (.one (.sl t l none))) (a.put o.dst (.slice (some ⟨w.heap.size,0,none⟩) l.length cap)) w':=by
 have h1:=hr.alloc hU (.cells c e fz) (l.length*E.U.size t) w' hw jQ cY dy;have bW:w'.heap[w.heap.size]?=some (.cells c e fz):=by rw[hw];simp
 have dT:∀b,b<w.heap.size->w'.heap[b]?=w.heap[b]? :=λb hb=>by rw[hw,Gf,Ek Du]
 have hx:Ext w g.wm w' (C6 g.wm w.heap.size (l.length*E.U.size t)):=by
  refine⟨A1D hw,λb off ho=>?_,λb=>?_⟩
  ·rcases Ft b w.heap.size with h2|h2
   ·exact Fq (a:=⟨b,off,none⟩) (dT b h2)
   ·rw[hr.zero b h2]at ho;omega
  ·unfold C6;by_cases hb:b=w.heap.size
   ·subst hb;rw[El rfl,hr.zero _ (Fe _)];exact Fi _
   ·rw[Ek hb];exact Fe _
 have fc:C6 g.wm w.heap.size (l.length*E.U.size t) w.heap.size=l.length*E.U.size t:=by simp[C6]
 have ax:CRep E.U w' (C6 g.wm w.heap.size (l.length*E.U.size t)) (.sl t l none) (.slice (some ⟨w.heap.size,0,none⟩) l.length cap):=
  C4x hU bW cap a7 (by rw[fc];exact Fe _) (λj lf hj=>by obtain⟨v,hv,eW⟩:=hc j lf hj;exact⟨v,hv,eW.mono hU hx⟩) _
 exact REL.setO h1 (e:=.one (.sl t l none)) ⟨ax,λ_ _ _ he=>by(cases he),λ_ _ he=>by(cases he)⟩ rfl o.dst hd
def A9T(hr:Rel E.U B g s a w){d n:Int}{x:Option Fb}(h:W8 E s d x=some n):(x=none/\n=d)\/∃y k0,x=some y/\a.eval y=.int k0 n:=by
 cases x with
 |none=>simp only[W8,Ff]at h;exact .inl ⟨rfl,h.symm⟩
 |some y=>
  simp only[W8]at h;split at h
  ·rename_i k0 m hy;simp only[Ff]at h;subst h;exact .inr ⟨y,k0,rfl,V1 hr hy⟩
  ·cases h
def A9K(P:Fg)(w:World)(uC:Bool)(len cap:Nat)(dp:len<=cap)(lo hi mx:Option Value)(l h m:Nat)(hl:(lo=none/\l=0)\/∃k,lo=some (.int k (l:Int)))(hh:(hi=none/\mx=none/\h=len)\/∃k,hi=some (.int k (h:Int)))
  (hm:(mx=none/\m=cap)\/∃k,mx=some (.int k (m:Int)))(h1:l<=h)(h2:h<=m)(h3:m<=cap):
  (Ih uC len cap lo hi mx).run P w=.ok (l,h,m) w:=by
 have a1:(l:Int)<=(h:Int):=Du
 have a2:(h:Int)<=(m:Int):=Du
 have a3:(m:Int)<=(cap:Int):=Du
 have a0:(0:Int)<=(l:Int):=Du
 have b0:(0:Int)<=(h:Int):=Du
 have c0:(0:Int)<=(m:Int):=Du
 rcases hm with⟨rfl,rfl⟩|⟨km,rfl⟩<;>rcases hh with⟨rfl,ua,rfl⟩|⟨kh,rfl⟩<;>rcases hl with⟨rfl,rfl⟩|⟨kl,rfl⟩<;>
  first
  |(cases ua;done)
  |(simp[Ih,Iq,a0,a1,a2,a3,b0,c0];done)
  |(simp[Ih,Iq,a0,a1,a2,a3,b0,c0];intros;omega)
  |(simp[Ih,Iq,a0,a1,a2,a3,b0,c0,h1,h2,h3,Jc.2 h1,Jc.2 h2,Jc.2 h3];done)
include hT hU in
def C51{t:Ew}{x:Fb}{lo hi mx:Option Fb}(ai:o.op=.slice t x lo hi mx)(h:A9 E o s k=some r)(hr:Rel E.U B g s a w)(hd:∀i,o.dst=some i->i<a.tmps.size/\B.np<=i)(hn:H6 E B o a k r next):o.wp P a w next Q:=by
 simp only[A9,ai]at h;split at h
 ·rename_i b ht hx;have cI:=A2S hT ht;have ex:=A5e hr hx;split at h
  ·rename_i va vc fy kK;split at h
   ·rename_i rr ct;obtain⟨h0,h1,h2,rfl⟩:=B4S ct;have e1:((va.toNat:Nat):Int)=va:=Du
    have e2:((vc.toNat:Nat):Int)=vc:=Du
    have hb:=A9K P w false b.length b.length (Fe _) (lo.map a.eval) (hi.map a.eval) none va.toNat vc.toNat b.length
     (by
       rcases A9T hr fy with⟨rfl,h3⟩|⟨y,k0,rfl,h3⟩
       ·left;exact⟨rfl,Du⟩
       ·right;exact⟨k0,by rw[e1];simp[h3]⟩)
     (by
       rcases A9T hr kK with⟨rfl,h3⟩|⟨y,k0,rfl,h3⟩
       ·left;exact⟨rfl,rfl,Du⟩
       ·right;exact⟨k0,by rw[e2];simp[h3]⟩)
     (.inl ⟨rfl,rfl⟩) Du Du (Fe _)
    refine G6 (e:=.one (.str _)) (v:=.string ⟨((b.drop va.toNat).take (vc.toNat - va.toNat)).toArray⟩) hr hd hn h (LRep.str _) rfl ?_;simp[Fa,ai,ex,Kv,Kw,Fc cI,A4g,hb,La]
   ·cases h
  ·cases h
 ·rename_i u e u0 l0 own ht hx;split at h
  ·rename_i l cO;obtain⟨cI,ie,z,bR,az,_,_,_⟩:=P9 hT ht;have bS:=G2 hr t x;rw[hx]at bS;have ax:=(A3E cO bS.1).1;have bU:∀(va vc:Int)(mv:Option Value)(m:Nat->Nat),0<=va->va<=vc->vc<=(l.length:Int)->W8 E s 0 lo=some va->W8 E s (l.length:Int) hi=some vc->
     (∀cap,l.length<=cap->((mv=none/\m cap=cap)\/((∃k,mv=some (.int k ((m cap:Nat):Int)))/\hi≠none/\m cap=vc.toNat)))->mx.map a.eval=mv->
     k (.one (.sl u ((l.drop va.toNat).take (vc.toNat - va.toNat)) none)) s=some r->o.wp P a w next Q:=by
    intro va vc mv m h0 h1 h2 fy kK hm oE hk;have e1:((va.toNat:Nat):Int)=va:=Du
    have e2:((vc.toNat:Nat):Int)=vc:=Du
    obtain⟨a0,Ar,yd⟩:=ax.sl_inv;have av:((l.drop va.toNat).take (vc.toNat - va.toNat)).length=vc.toNat - va.toNat:=Es
    have da:∀(a0:Option Addr)(cap:Nat),a.eval x=.slice a0 l.length cap->l.length<=cap->
      (Fa a.eval o).run P w=.ok (.value (.slice (if m cap=va.toNat then a0 else a0.map (·.add (va.toNat*E.U.size u))) (vc.toNat - va.toNat) (m cap - va.toNat))) w:=by
     intro a0 cap hv a7;have pW:=hm cap a7;have hb:=A9K P w true l.length cap a7 (lo.map a.eval) (hi.map a.eval) mv va.toNat vc.toNat (m cap)
      (by
        rcases A9T hr fy with⟨rfl,h3⟩|⟨y,k0,rfl,h3⟩
        ·left;exact⟨rfl,Du⟩
        ·right;exact⟨k0,by rw[e1];simp[h3]⟩)
      (by
        rcases A9T hr kK with⟨rfl,h3⟩|⟨y,k0,rfl,h3⟩
        ·rcases pW with⟨h4,_⟩|⟨_,h4,_⟩
         ·left;exact⟨rfl,h4,Du⟩
         ·exact absurd rfl h4
        ·right;exact⟨k0,by rw[e2];simp[h3]⟩)
      (by
        rcases pW with h4|⟨h4,_⟩
        ·exact .inl h4
        ·exact .inr h4)
      Du (by rcases pW with⟨_,h4⟩|⟨_,_,h4⟩<;>omega) (by rcases pW with⟨_,h4⟩|⟨_,_,h4⟩<;>omega)
     simp[Fa,ai,hv,Kv,Kw,Fc cI,oE,hb,Ge,Fp,bR,az]
    rcases ax.sl_cells hU with⟨rfl,a1,cap,hv⟩|⟨b,off,cap,cs,hv,a7,bj,hc,fb⟩
    ·have hz:vc.toNat - va.toNat=0:=by simp at h2;omega
     refine G6 (e:=.one (.sl u _ none)) hr hd hn hk ?_ rfl (da a1 cap hv (Fi _));refine⟨?_,λ_ _ _ e=>by(simp at e),λ_ _ e=>by(cases e)⟩;rw[hz,Ki];exact .nil u none _ _
    ·refine G6 (e:=.one (.sl u _ none)) hr hd hn hk ?_ rfl (da _ cap hv a7);refine⟨?_,λ_ _ _ e=>by(simp at e),λ_ _ e=>by(cases e)⟩;by_cases hz:vc.toNat - va.toNat=0
     ·rw[hz,Ki];exact .nil u none _ _
     ·have uD:m cap≠va.toNat:=by
       rcases hm cap a7 with⟨_,h4⟩|⟨_,_,h4⟩<;>omega
      rw[Ek uD];have cL:(Io b off none).add (va.toNat*E.U.size u)=⟨b,off+va.toNat*E.U.size u,none⟩:=Gj _ _ _;simp only[Gy,cL];have ju:∀(j:Nat)(lf:Leaf Ty den),(flat E.U u ((l.drop va.toNat).take (vc.toNat - va.toNat)))[j]?=some lf->(flat E.U u l)[va.toNat*E.U.size u+j]?=some lf:=by
       intro j lf hj;rw[C4V hU,C2z hU]at hj;rw[Hi]at hj;split at hj
       ·rw[Hk]at hj;exact hj
       ·cases hj
      have dz:(va.toNat+(vc.toNat - va.toNat))*E.U.size u<=l.length*E.U.size u:=Ib _ Du;rw[Fu]at dz;have:=CRep.sl (U:=E.U) (w:=w) (wm:=g.wm) u ((l.drop va.toNat).take (vc.toNat - va.toNat)) none b (off+va.toNat*E.U.size u) (m cap - va.toNat) (λj=>cs (va.toNat*E.U.size u+j))
       (by rw[av];rcases hm cap a7 with⟨_,h4⟩|⟨_,_,h4⟩<;>omega) (by rw[av];omega)
       (λj lf hj=>by have:=hc _ lf (ju j lf hj);rw[Ic];exact this) (λj lf hj=>fb _ lf (ju j lf hj))
      rw[av]at this;exact this
   split at h
   ·rename_i va vc fy kK;split at h
    ·rename_i rr ct;obtain⟨h0,h1,h2,rfl⟩:=B4S ct;exact bU va vc none (λc=>c) h0 h1 h2 fy kK (λcap _=>.inl ⟨rfl,rfl⟩) rfl h
    ·cases h
   ·rename_i va vc m fy kK;split at h
    ·rename_i k0 mv hm;obtain⟨hc,h'⟩:=A8 h;simp only[Fl,decide_eq_true_eq]at hc;obtain⟨ye,hc⟩:=hc;split at h'
     ·rename_i rr ct;obtain⟨h0,h1,h2,rfl⟩:=B4S ct;have em:=V1 hr hm;have As:hi≠none:=λe=>by rw[e]at ye;cases ye
      exact bU va vc (some (.int k0 vc)) (λ_=>vc.toNat) h0 h1 h2 fy kK (λcap _=>.inr ⟨⟨k0,by congr 2;omega⟩,As,rfl⟩) (by simp[em,hc]) h'
     ·cases h'
    ·cases h
   ·cases h
  ·cases h
 ·cases h
end
end Go.Aev
section
open Go.Lib
namespace Go.Aev
variable {Ty:Type}{den:Ty->Type}
section
variable {E:Env Ty den}{B:Bs}{g:Gh}{s:St Ty den}{a:Act}{w:World}
variable {P:Fg}{R:Type}{o:Oper}{k:Ent Ty den->St Ty den->Option R}{r:R}{next:Act->World->Prop}{Q:Exit->Act->World->Prop}
variable (hT:∀t,Q6 P E.U t (E.tb t))(hU:E.U.Ok)
def B8x(hr:Rel E.U B g s a w)(ty:Ew):∀(ps:List (Nat×Fb))(i:Nat)(ls:List (Leaf Ty den)),A29 E s ty i ps=some ls->
  ls.length=ps.length/\(ps.map λ(j,x)=>(j,a.eval x))=((ps.map λp=>a.eval p.2).zipIdx i).map (λx=>(x.2,x.1))/\
   ∀(j:Nat)(lf:Leaf Ty den),ls[j]?=some lf->∃v,(ps.map λp=>a.eval p.2)[j]?=some v/\CRep E.U w g.wm lf v
 |[],i,ls,h=>by
  simp only[A29,Ff]at h;subst h;exact⟨rfl,rfl,λj lf hj=>by simp at hj⟩
 |(j0,x)::ps,i,ls,h=>by
  simp only[A29]at h;obtain⟨hc,h'⟩:=A8 h;have oF:=(F2 i j0).1 hc;subst oF;cases hp:A29 E s ty (i+1) ps with
  |none=>rw[hp]at h';cases h'
  |some bY=>
   rw[hp]at h';simp only[Gy,Ff]at h';subst h';obtain⟨h1,h2,h3⟩:=B8x hr ty ps (i+1) bY hp;refine⟨by simp[h1],by simp[h2,Jf],λj lf hj=>?_⟩;cases j with
   |zero=>
    simp at hj;subst hj;exact⟨a.eval x,Eo,(G2 hr ty x).1.close⟩
   |succ j=>
    obtain⟨v,hv,ax⟩:=h3 j lf (by simpa using hj);exact⟨v,by simpa using hv,ax⟩
def C3l{U:UO Ty den}(hU:U.Ok)(t:Ty):∀(ls:List (Leaf Ty den))(xs:List (den t)),A8j U t ls=some xs->xs.length=ls.length/\flat U t xs=ls
 |[],xs,h=>by simp only[A8j,Ff]at h;subst h;exact⟨rfl,rfl⟩
 |l::ls,xs,h=>by
  simp only[A8j]at h;split at h
  ·rename_i x kL hx jx;simp only[Ff]at h;subst h;obtain⟨h1,h2⟩:=C3l hU t ls kL jx;exact⟨by simp[h1],by rw[A7n,hU.dec t [l] x hx,h2];rfl⟩
  ·cases h
def C94{lf:Leaf Ty den}{v:Value}{wm:Nat->Nat}(h:B3S lf v=true):CRep E.U w wm lf v:=by
 unfold B3S at h;split at h
 ·simp only[Fl,decide_eq_true_eq]at h;obtain⟨rfl,rfl⟩:=h;exact .int _ _
 ·rename_i b b';have:b=b':=by simpa using h
  subst this;exact .bool _
 ·rename_i s;have h0:s.data.toList=[]:=by simpa using h
  have:s=⟨([]:DT).toArray⟩:=by
   cases s with
   |mk d=>cases d;simp at h0;subst h0;rfl
  rw[this];exact .str []
 ·exact .nil _ _ _ _
 ·cases h
def C1T{wm:Nat->Nat}:∀{ls:List (Leaf Ty den)}{vs:Ea},B0Z ls vs=true->ls.length=vs.length/\∀(j:Nat) lf,ls[j]?=some lf->∃v,vs[j]?=some v/\CRep E.U w wm lf v
 |[],[],_=>⟨rfl,λj lf h=>by simp at h⟩
 |[],_::_,h=>by cases h
 |_::_,[],h=>by cases h
 |l::ls,v::vs,h=>by
  simp only[B0Z,Fl]at h;obtain⟨h1,h2⟩:=C1T (wm:=wm) h.2;refine⟨by simp[h1],λj lf hj=>?_⟩;cases j with
  |zero=>simp at hj;subst hj;exact⟨v,rfl,C94 h.1⟩
  |succ j=>exact h2 j lf (by simpa using hj)
def D4n(hU:E.U.Ok)(hr:Rel E.U B g s a w){e:Ew}{u:Ty}{x:Fb}{y:den u}(h:A9z E e u s x=some y):CRep E.U w g.wm (.agg u y) (a.eval x):=by
 have h5:=G2 hr 0 x;unfold A9z at h;split at h
 ·rename_i u' y' hy;rw[hy]at h5;split at h
  ·rename_i y2 At;cases h;obtain⟨rfl,e2⟩:=B0d At;simp only at e2;subst e2;exact h5.1
  ·cases h
 ·split at h
  ·rename_i vs zs _ hz;obtain⟨h1,h2⟩:=A8 h;obtain⟨q1,q2⟩:=C1T (E:=E) (w:=w) (wm:=g.wm) h1;have hc:=hU.dec _ _ _ h2;have hl:=hU.len u y;rw[hc]at hl;have:=CRep.agg (U:=E.U) (w:=w) (wm:=g.wm) u y vs.toList (by rw[<-q1,hl]) (λj=>vs.toList.getD j undef) (λj lf hj=>by
    rw[hc]at hj;obtain⟨v,hv,_⟩:=q2 j lf hj;simp[Ig,hv]) (λj lf hj=>by
    rw[hc]at hj;obtain⟨v,hv,ax⟩:=q2 j lf hj;have:vs.toList.getD j undef=v:=by simp[Ig,hv]
    rw[this];exact ax)
   have h6:a.eval (.const (.agg vs))=.agg vs:=rfl;rw[h6];simpa using this
  ·cases h
def C4h(hU:E.U.Ok)(hr:Rel E.U B g s a w)(e:Ew)(u:Ty):∀(ps:List (Nat×Fb))(i:Nat)(xs:List (den u)),A3Y E e u s i ps=some xs->
  xs.length=ps.length/\(ps.map λ(j,x)=>(j,a.eval x))=((ps.map λp=>a.eval p.2).zipIdx i).map (λx=>(x.2,x.1))/\
   ∀(j:Nat)(x:den u),xs[j]?=some x->∃v,(ps.map λp=>a.eval p.2)[j]?=some v/\CRep E.U w g.wm (.agg u x) v
 |[],i,xs,h=>by
  simp only[A3Y,Ff]at h;subst h;exact⟨rfl,rfl,λj x hj=>by simp at hj⟩
 |(j0,x0)::ps,i,xs,h=>by
  simp only[A3Y]at h;obtain⟨hc,h'⟩:=A8 h;have oF:=(F2 i j0).1 hc;subst oF;split at h'
  ·rename_i y' l hy jy;cases h';obtain⟨h1,h2,h3⟩:=C4h hU hr e u ps (i+1) l jy;refine⟨by simp[h1],by simp[h2,Jf],λj x hj=>?_⟩;cases j with
   |zero=>
    simp at hj;subst hj;exact⟨a.eval x0,Eo,D4n hU hr hy⟩
   |succ j=>
    obtain⟨v,hv,ax⟩:=h3 j x (by simpa using hj);exact⟨v,by simpa using hv,ax⟩
  ·cases h'
def B74{α β:Type}(f:α->List β)(c:Nat):∀(l:List α),(∀v∈l,(f v).length=c)->(l.flatMap f).length=l.length*c
 |[],_=>Eo
 |v::l,h=>by
  rw[Ks,Jj,h v Km,B74 f c l λx hx=>h x (Kn _ hx),Gl,Nat.succ_mul];omega
def A1v(P:Fg)(U:UO Ty den)(t:Ew)(zs:List (Leaf Ty den)):Prop:=
 ∃i z,P.info? t=some i/\i.size=zs.length/\i.zero=some z/\z.cells.size=zs.length/\∀(j:Nat) lf,zs[j]?=some lf->∃u,z.cells[j]?=some u/\u.oneCell'=true/\u.cells= #[u]/\(∀(w:World)(g:Gh),LRep U w g lf u)/\∀t,lf=.sl t [] none->u=.slice none 0 0
def B9E:∀(l:Ea)(k off:Nat)(cells:Array Value),off+k+l.length<=cells.size->
  ((l.zipIdx k).foldl (λcs (p:Value×Nat)=>cs.setIfInBounds (off+p.2) p.1) cells).size=cells.size/\
  ∀i,((l.zipIdx k).foldl (λcs (p:Value×Nat)=>cs.setIfInBounds (off+p.2) p.1) cells)[i]?=if off+k<=i/\i<off+k+l.length then l[i - (off+k)]? else cells[i]?
 |[],k,off,cells,h=>⟨rfl,λi=>by rw[Ek (by simp only[List.length_nil];omega)];rfl⟩
 |v::l,k,off,cells,h=>by
  simp only[Gl]at h;obtain⟨h1,h2⟩:=B9E l (k+1) off (cells.setIfInBounds (off+k) v) (by rw[Le];omega);simp only[Jf,Jk];refine⟨by rw[h1,Le],λi=>?_⟩;rw[h2 i];by_cases hi:off+(k+1)<=i/\i<off+(k+1)+l.length
  ·rw[El hi,El (by simp only[Gl];omega)];rw[show i - (off+k)=(i - (off+(k+1)))+1 from Du,Kq]
  ·rw[Ek hi,Jn];by_cases hk:off+k=i
   ·rw[El hk,El Du,El (by simp only[Gl];omega),show i - (off+k)=0 from Du];rfl
   ·rw[Ek hk,Ek (by simp only[Gl];omega)]
structure A6k(U:UO Ty den)(w:World)(g:Gh)(ls:List (Leaf Ty den))(cells:Array Value):Prop where
 size:cells.size=ls.length
 at_:∀(j:Nat) lf,ls[j]?=some lf->∃u,cells[j]?=some u/\u.oneCell'=true/\u.cells= #[u]/\LRep U w g lf u
def B0Y{α:Type}(ls:List α)(o:Nat)(ys:List α)(h:o+ys.length<=ls.length):(T5 ls o ys).length=ls.length/\∀i,(T5 ls o ys)[i]?=if o<=i/\i<o+ys.length then ys[i - o]? else ls[i]? :=by
 unfold T5;refine⟨Es,λi=>?_⟩;by_cases h1:i<o
 ·rw[Gm Es,Hi,El h1,Ek Du]
 ·rw[Gu Es,List.length_take,Nat.min_eq_left Du];by_cases h2:i - o<ys.length
  ·rw[Gm h2,El Du]
  ·rw[Gu Du,Hk,Ek Du]
   congr 1;omega
def C3o{lf:Leaf Ty den}(h:A5F lf=true):B5B lf:=by
 cases lf<;>first
  |(cases h;done)
  |exact⟨(by intro e;cases e),(by intro v e;cases e),(by intro u y e;cases e)⟩
include hU in
def B1K{n:Nat}{lf:Leaf Ty den}{v:Value}{ys:List (Leaf Ty den)}(h:cellsOf E n lf=some ys)(hl:LRep E.U w g lf v):
  v.cells.size=n/\ys.length=n/\∀(j:Nat) y,ys[j]?=some y->∃u,v.cells[j]?=some u/\u.oneCell'=true/\u.cells= #[u]/\LRep E.U w g y u:=by
 have one:∀{lf:Leaf Ty den},(bif A5F lf&&Ey n 1 then some [lf]else none)=some ys->LRep E.U w g lf v->v.cells.size=n/\ys.length=n/\∀(j:Nat) y,ys[j]?=some y->∃u,v.cells[j]?=some u/\u.oneCell'=true/\u.cells= #[u]/\LRep E.U w g y u:=λh hl=>by
  obtain⟨h1,h2⟩:=A8 h;cases h2;simp only[Fl]at h1;have hn:=(F2 _ _).1 h1.2;obtain⟨h3,h4⟩:=hl.1.one hU (C3o h1.1);refine⟨by rw[h4,hn];rfl,by rw[hn];rfl,λj y hj=>?_⟩;cases j with
  |zero=>
   simp at hj;subst hj;exact⟨v,by rw[h4];rfl,h3,h4,hl⟩
  |succ j=>simp at hj
 cases lf with
 |agg u y=>
  obtain⟨h1,h2⟩:=A8 h;cases h2;have hn:=(F2 _ _).1 h1;obtain⟨vs,rfl,oG,cs,cE,fb⟩:=A8b hl.1;have cq:=hU.len u y;refine⟨by show vs.toArray.size=n;simp[oG,hn],by rw[cq,hn],λj lf hj=>?_⟩;have h5:=cE j lf hj;have hr:=fb j lf hj;have hs:=hU.solid u y lf (Ha hj);obtain⟨h6,h7⟩:=hr.one hU hs;refine⟨cs j,by show vs.toArray[j]?=_;simpa using h5,h6,h7,hr,λt l d he=>?_,λd o he=>?_⟩
  ·subst he;have:=hU.closed u y _ (Ha hj);simp[Leaf.close]at this
  ·subst he;have:=hU.closed u y _ (Ha hj);simp[Leaf.close]at this
 |any=>exact one (lf:=.any) h hl
 |int k n=>exact one h hl
 |bool b=>exact one h hl
 |str s=>exact one h hl
 |sl t l o=>exact one h hl
 |elem t x o=>exact one h hl
 |val v=>exact one (lf:=.val v) h hl
 |ptr d o=>exact one (lf:=.ptr d o) h hl
 |ifc T t x=>exact one h hl
 |one1 t x=>exact one h hl
 |nils=>exact one h hl
include hU in
def B1g(hr:Rel E.U B g s a w){g':Gh}{cl:Leaf Ty den->Leaf Ty den}(cq:∀l v,LRep E.U w g l v->LRep E.U w g' (cl l) v)(pl:List (Nat×Nat)):∀(ps:List (Nat×Fb))(ls bY:List (Leaf Ty den))(cells:Array Value),A2h E cl s pl ps ls=some bY->A6k E.U w g' ls cells->
  ∃bK,Ii (pl.toArray[·]?) cells (ps.map λp=>(p.1,a.eval p.2))=some bK/\A6k E.U w g' bY bK
 |[],ls,bY,cells,h,hf=>by
  simp only[A2h,Ff]at h;subst h;exact⟨cells,rfl,hf⟩
 |(j,x)::ps,ls,bY,cells,h,hf=>by
  simp only[A2h]at h;split at h
  ·rename_i o' n jy;split at h
   ·rename_i ys nG;obtain⟨bh,h⟩:=A8 h;have bh:=Hp bh;have hx:LRep E.U w g' (cl (opl E s 0 x)) (a.eval x):=cq _ _ (G2 hr 0 x);obtain⟨c1,c2,c3⟩:=B1K hU nG hx;have az:=hf.size;obtain⟨k1,k2⟩:=B9E (a.eval x).cells.toList 0 o' cells Es;obtain⟨m1,m2⟩:=B0Y ls o' ys Du;have bZ:A6k E.U w g' (T5 ls o' ys) (((a.eval x).cells.toList.zipIdx 0).foldl (λcs (p:Value×Nat)=>cs.setIfInBounds (o'+p.2) p.1) cells):=by
     refine⟨by rw[k1,m1,az],λi lf hi=>?_⟩;rw[m2]at hi;rw[k2];simp only[Je,Lh,c1];rw[c2]at hi;by_cases cS:o'<=i/\i<o'+n
     ·rw[El cS]at hi ⊢;obtain⟨u,u1,u2,u3,u4⟩:=c3 _ _ hi;exact⟨u,by rw[<-u1];simp,u2,u3,u4⟩
     ·rw[Ek cS]at hi ⊢;exact hf.at_ i lf hi
    obtain⟨bK,q1,q2⟩:=B1g hr cq pl ps _ bY _ h bZ;refine⟨bK,?_,q2⟩;simp only[Ko,Ii];have uE:pl.toArray[j]?=some (o',n):=by simpa using jy
    rw[uE];dsimp only;rw[Ek (by simp[c1];omega)];rw[<-q1]
    congr 1
    rw[<-Array.foldl_toList,Array.toList_zipIdx]
   ·cases h
  ·cases h
def nlG(U:UO Ty den)(nm j:Nat)(g:Gh):Leaf Ty den->Gh
 | .sl t [] none=>g.put (bo nm j) (.slice none 0 0) (U.size t)
 |_=>g
def A9v(l:Leaf Ty den):(∃t,l=.sl t [] none)\/((∀nm j,nlL nm j l=l)/\(∀nm j (s:St Ty den),nlS nm j s l=s)/\∀(U:UO Ty den) nm j g,nlG U nm j g l=g):=by
 cases l with
 |sl t x o=>
  cases x with
  |nil=>cases o with
   |none=>exact .inl ⟨t,rfl⟩
   |some e=>exact .inr ⟨λ_ _=>rfl,λ_ _ _=>rfl,λ_ _ _ _=>rfl⟩
  |cons y x=>exact .inr ⟨λ_ _=>rfl,λ_ _ _=>rfl,λ_ _ _ _=>rfl⟩
 |_=>exact .inr ⟨λ_ _=>rfl,λ_ _ _=>rfl,λ_ _ _ _=>rfl⟩
def A1H(U:UO Ty den)(nm:Nat):Nat->Gh->List (Leaf Ty den)->Gh
 |_,g,[]=>g
 |j,g,l::r=>A1H U nm (j+1) (nlG U nm j g l) r
def B2k(U:UO Ty den)(nm:Nat):∀(zs:List (Leaf Ty den))(j:Nat)(g:Gh),(A1H U nm j g zs).wm=g.wm/\∀e,(∀i,j<=i->e≠bo nm i)->(A1H U nm j g zs).G e=g.G e/\(A1H U nm j g zs).Gs e=g.Gs e
 |[],j,g=>⟨rfl,λe _=>⟨rfl,rfl⟩⟩
 |l::zs,j,g=>by
  obtain⟨h1,h2⟩:=B2k U nm zs (j+1) (nlG U nm j g l);simp only[A1H];rcases A9v l with⟨t,rfl⟩|⟨_,_,h⟩
  ·refine⟨h1,λe he=>?_⟩;obtain⟨k1,k2⟩:=h2 e (λi hi=>he i Du);have:=he j (Fe _);rw[k1,k2];simp[nlG,Gh.put,this]
  ·rw[h]at h1 h2 ⊢;exact⟨h1,λe he=>h2 e (λi hi=>he i Du)⟩
include hU in
def B61(nm:Nat):∀(zs:List (Leaf Ty den))(j:Nat)(s:St Ty den)(g:Gh),Rel E.U B g s a w->Rel E.U B (A1H E.U nm j g zs) (A4s nm j s zs) a w
 |[],j,s,g,hr=>hr
 |l::zs,j,s,g,hr=>by
  simp only[A1H,A4s];refine B61 nm zs (j+1) _ _ ?_;rcases A9v l with⟨t,rfl⟩|⟨_,h2,h3⟩
  ·exact hr.fresh hU _ _ _ ⟨_,_,_,rfl,Fe _,.inl rfl⟩ (λ_ _ _ _ hs=>by simp[spare]at hs) (λ_ hs=>by simp[spare]at hs)
  ·rw[h2,h3];exact hr
def LRep.keep{g1 g2:Gh}(hw:g2.wm=g1.wm){lf:Leaf Ty den}{v:Value}{U:UO Ty den}(h:LRep U w g1 lf v)(hk:∀e,lf.has e=true->g2.G e=g1.G e/\g2.Gs e=g1.Gs e):LRep U w g2 lf v:=by
 refine⟨by rw[hw];exact h.1,λt l d he=>?_,λd o he=>?_⟩
 ·obtain⟨e1,e2⟩:=hk d (by rw[he];simp[Leaf.has,H5]);rw[e1,e2];exact h.2.1 t l d he
 ·obtain⟨e1,e2⟩:=hk d (by rw[he];simp[Leaf.has,H5]);rw[e1];exact h.2.2 d o he
def B4W(U:UO Ty den)(w:World)(nm:Nat):∀(zs:List (Leaf Ty den))(us:Ea)(j:Nat)(g:Gh),zs.length=us.length->(∀(i:Nat) lf u,zs[i]?=some lf->us[i]?=some u->(∀g:Gh,LRep U w g lf u)/\∀t,lf=.sl t [] none->u=.slice none 0 0)->
  (A1I nm j zs).length=zs.length/\∀(i:Nat) lf u,(A1I nm j zs)[i]?=some lf->us[i]?=some u->LRep U w (A1H U nm j g zs) lf u
 |[],us,j,g,hl,_=>⟨rfl,λi lf u h=>by simp[A1I]at h⟩
 |l::zs,[],j,g,hl,_=>by simp at hl
 |l::zs,v::us,j,g,hl,h=>by
  obtain⟨h1,h2⟩:=B4W U w nm zs us (j+1) (nlG U nm j g l) (by simpa using hl) (λi lf u hi hu=>h (i+1) lf u (by simpa using hi) (by simpa using hu));refine⟨by simp[A1I,h1],λi lf u hi hu=>?_⟩;cases i with
  |succ i=>exact h2 i lf u (by simpa [A1I]using hi) (by simpa using hu)
  |zero=>
   simp only[A1I,List.getElem?_cons_zero,Ff]at hi hu;subst hu;obtain⟨k1,k2⟩:=h 0 l v rfl rfl;simp only[A1H];rcases A9v l with⟨t,rfl⟩|⟨h3,_,h4⟩
   ·subst hi;rw[k2 t rfl];obtain⟨q1,q2⟩:=B2k U nm zs (j+1) (g.put (bo nm j) (.slice none 0 0) (U.size t));refine⟨.nil _ _ _ _,λt1 l1 d1 he=>?_,λ_ _ he=>by(cases he)⟩;obtain⟨rfl,_,rfl⟩:=he;obtain⟨e1,e2⟩:=q2 (bo nm j) (λi hi=>by unfold bo;omega);simp only[nlG];rw[e1,e2];exact⟨by simp[Gh.put],by simp[Gh.put],TyB.nil⟩
   ·rw[h3]at hi;subst hi;exact k1 _
def A9F{U:UO Ty den}{w:World}{g:Gh}:∀{ls:List (Leaf Ty den)}{vs:Ea},ls.length=vs.length->(∀(j:Nat) lf u,ls[j]?=some lf->vs[j]?=some u->LRep U w g lf u)->LsRep U w g ls vs
 |[],[],_,_=>trivial
 |l::ls,v::vs,hl,h=>⟨h 0 l v rfl rfl,A9F (by simpa using hl) λj lf u h1 h2=>h (j+1) lf u (by simpa using h1) (by simpa using h2)⟩
 |[],_::_,hl,_=>by simp at hl
 |_::_,[],hl,_=>by simp at hl
variable (hZ:∀t zs,E.zr t=some zs->A1v P E.U t zs)
include hT in
def D0k{t:Ew}{x:Fb}(ai:o.op=.makeInterface t x)(h:A9 E o s k=some r)(hr:Rel E.U B g s a w)(hd:∀i,o.dst=some i->i<a.tmps.size/\B.np<=i)(hn:H6 E B o a k r next):o.wp P a w next Q:=by
 simp only[A9,ai]at h;split at h
 ·rename_i u pl u' y ht hx;obtain⟨fs,ie,z,h1,_⟩:=A3m hT ht;split at h
  ·rename_i y' hy;obtain⟨e0,he⟩:=B0d hy;subst e0;simp only at he;subst he;have bS:=G2 hr t x;rw[hx]at bS;refine G6 (e:=.one (.ifc t u' y)) (v:=.iface t (a.eval x)) hr hd hn h ⟨.ifc t u' y _ bS.1,λ_ _ _ he=>by(cases he),λ_ _ he=>by(cases he)⟩ rfl ?_;simp[Fa,ai,Instr.makeInterface,Fc h1]
  ·cases h
 ·cases h
include hT hU hZ in
def C8B{t:Ew}{ps:Array (Nat×Fb)}(ai:o.op=.build t ps)(h:A9 E o s k=some r)(hr:Rel E.U B g s a w)(hd:∀i,o.dst=some i->i<a.tmps.size/\B.np<=i)(hn:H6 E B o a k r next):o.wp P a w next Q:=by
 simp only[A9,ai]at h;cases kq:mbO E o.dst with
 |true=>
  rw[kq]at h;simp only[Eg]at h;split at h
  ·rename_i u pl zs ht dx;split at h
   ·rename_i ls bD;obtain⟨fs,ie,z,h1,h2,h3,h4,h5,h6⟩:=A3m hT ht;obtain⟨yf,z',e1,e2,e3,e4,e5⟩:=hZ t zs dx;rw[h3]at e1;cases e1;rw[h5]at e3;cases e3;obtain⟨q1,q2⟩:=B4W E.U w (bnO E o.dst) zs z.cells.toList 0 g (by simp[e4]) (λi lf u hi hu=>by
     obtain⟨uu,u1,u2,u3,u4,u5⟩:=e5 i lf hi;rw[Gx,u1]at hu;cases hu;exact⟨u4 w,u5⟩)
    have Au:=(B2k E.U (bnO E o.dst) zs 0 g).1;have kM:A6k E.U w (A1H E.U (bnO E o.dst) 0 g zs) (A1I (bnO E o.dst) 0 zs) z.cells:=⟨by rw[q1,e4],λj lf hj=>by
     have bC:j<zs.length:=by rw[<-q1];exact I0 hj
     obtain⟨uu,u1,u2,u3,u4,u5⟩:=e5 j _ (Fh bC);exact⟨uu,u1,u2,u3,q2 j lf uu hj (by rw[Gx];exact u1)⟩⟩
    obtain⟨bK,p1,p2⟩:=B1g hU hr (λl v h=>LRep.closed (by rw[Au];exact h.1)) pl ps.toList _ ls z.cells bD kM;have fe:P.built t (ps.map λ(i,x)=>(i,a.eval x)).toList=some bK:=by
     unfold Jy;rw[h3,h1];dsimp only;rw[h5,h2];dsimp only;rw[Ik];exact p1
    refine O5 (v:=.agg bK) (w':=w) (by simp[Fa,ai,run_build w t _ _ fe]) (hn _ _ _ _ h (REL.setO (B61 hU (bnO E o.dst) zs 0 s g hr) (e:=.st ls) ?_ rfl _ hd));have az:=p2.size;refine⟨bK.toList,Eo,A9F (by simp[az]) (λj lf u h1 h2=>?_),λu hu=>?_⟩
    ·obtain⟨uu,u1,_,_,u4⟩:=p2.at_ j lf h1;rw[Gx,u1]at h2;cases h2;exact u4
    ·obtain⟨j,hj,rfl⟩:=If hu;have bC:j<ls.length:=by simp at hj;omega
     obtain⟨uu,u1,u2,u3,u4⟩:=p2.at_ j _ (Fh bC);have h9:bK.toList[j]?=some uu:=by rw[Gx];exact u1
     rw[Fh hj]at h9;rw[Fz h9];exact⟨u2,u3⟩
   ·cases h
  ·cases h
 |false=>
 rw[kq]at h;simp only[Eh]at h;split at h
 ·rename_i u pl ht;split at h
  ·rename_i zs dx;split at h
   ·rename_i ls bD;split at h
    ·rename_i x hx;obtain⟨fs,ie,z,h1,h2,h3,h4,h5,h6⟩:=A3m hT ht;obtain⟨yf,z',e1,e2,e3,e4,e5⟩:=hZ t zs dx;rw[h3]at e1;cases e1;rw[h5]at e3;cases e3;have kM:A6k E.U w g zs z.cells:=⟨e4,λj lf hj=>by
      obtain⟨uu,u1,u2,u3,u4,_⟩:=e5 j lf hj;exact⟨uu,u1,u2,u3,u4 w g⟩⟩
     obtain⟨bK,q1,q2⟩:=B1g hU hr (λl v h=>LRep.closed h.1) pl ps.toList zs ls z.cells bD kM;have aQ:=hU.dec u ls x hx;have cq:=hU.len u x;have fe:P.built t (ps.map λ(i,x)=>(i,a.eval x)).toList=some bK:=by
      unfold Jy;rw[h3,h1];dsimp only;rw[h5,h2];dsimp only;rw[Ik];exact q1
     have cn:=q2.size;refine G6 (e:=.one (.agg u x)) (v:=.agg bK.toList.toArray) hr hd hn h ⟨.agg u x bK.toList (by rw[Lh,cn, <-aQ,cq]) (λj=>(bK[j]?).getD undef) (λj lf hj=>?_) (λj lf hj=>?_),λ_ _ _ he=>by(cases he),λ_ _ he=>by(cases he)⟩ rfl ?_
     ·rw[aQ]at hj;obtain⟨uu,u1,_⟩:=q2.at_ j lf hj;rw[Gx,u1];rfl
     ·rw[aQ]at hj;obtain⟨uu,u1,_,_,u4⟩:=q2.at_ j lf hj;rw[u1];exact u4.1
     ·simp[Fa,ai,run_build w t _ _ fe]
    ·cases h
   ·cases h
  ·cases h
 ·cases h
include hT in
def B4d{t:Ew}{x:Fb}{i:Nat}(ai:o.op=.fieldAddr t x i){v:Ty}{pl:List (Nat×Nat)}{o' n:Nat}(ht:E.tb t=.struct v pl)(hp:pl[i]?=some (o',n))(gm:0<n)(b off:Nat)(hv:a.eval x=.pointer (some ⟨b,off,none⟩)):(Fa a.eval o).run P w=.ok (.value (.pointer (some ⟨b,off+o',none⟩))) w:=by
 obtain⟨fs,ie,z,h1,h2,_⟩:=A3m hT ht;have hl:=C1k h2;have jz:=(List.getElem?_eq_some_iff.1 hp).1;have hi:fs[i]?=some (fs[i]'(by simpa using (Du:i<fs.toList.length))):=Eo
 obtain⟨p,uF,hf⟩:=C2v h2 i _ (by rw[Gx];exact hi);rw[<-Fz (hp.symm.trans uF)]at hf;cases oH:P.info? (fs[i]'(by simpa using (Du:i<fs.toList.length))).type with
 |none=>rw[oH]at hf;cases hf
 |some Av=>
  rw[oH]at hf;simp only[Gy,Ff,Ho]at hf;have cL:(Io b off none).add o'=⟨b,off+o',none⟩:=Gj _ _ _;have az:(Ge (fs[i]'(by simpa using (Du:i<fs.toList.length))).type).run P w=.ok n w:=by simp[Ge,Fp,oH,hf.2]
  simp[Fa,ai,hv,Instr.fieldAt,Fc h1,hi,Hb,fieldPlace,az,hf.1,cL];omega
include hT in
def C7H{t:Ew}{x:Fb}{i:Nat}(ai:o.op=.fieldAddr t x i)(h:A9 E o s k=some r)(hr:Rel E.U B g s a w)(hd:∀i,o.dst=some i->i<a.tmps.size/\B.np<=i)(hn:H6 E B o a k r next):o.wp P a w next Q:=by
 simp only[A9,ai]at h;split at h
 ·rename_i v pl u y off ht hx;split at h
  ·rename_i o' n hp;obtain⟨gm,h⟩:=A8 h;have gm:0<n:=by simpa [Ga]using gm
   have bS:=G2 hr 0 x;rw[hx]at bS;obtain⟨eT,_⟩:=bS;generalize hv:a.eval x=vv at eT;cases eT with
   |elem _ _ _ b o1 cs bj aL ax=>
    refine G6 (e:=.one (.elem u y (off+o'))) (v:=.pointer (some ⟨b,o1+(off+o'),none⟩)) hr hd hn h ⟨.elem u y (off+o') b o1 cs bj aL ax,λ_ _ _ he=>by(cases he),λ_ _ he=>by(cases he)⟩ rfl ?_;rw[<-Ic];exact B4d hT ai ht hp gm b _ hv
  ·cases h
 ·rename_i v pl d off ht hx;split at h
  ·rename_i o' n hp;obtain⟨gm,h⟩:=A8 h;rw[Fl,Fl]at gm;obtain⟨gm,bJ,qO⟩:=gm;have gm:0<n:=by simpa [Ga]using gm
   have bS:=G2 hr 0 x;rw[hx]at bS;obtain⟨b,m,hG,hv⟩:=bS.2.2 d off rfl;have hv:=hv.at bJ;refine G6 (e:=.one (.ptr d (off+o'))) (v:=.pointer (some ⟨b,off+o',none⟩)) hr hd hn h ⟨.pt _ _ _,λ_ _ _ he=>by(cases he),λd' o2 he=>by(cases he;exact⟨b,m,hG,.inl ⟨rfl,qO⟩⟩)⟩ rfl (B4d hT ai ht hp gm b _ hv)
  ·cases h
 ·cases h
include hT hU in
def B7Q{t:Ew}{n:Nat}{ps:Array (Nat×Fb)}(ai:o.op=.buildSlice t n ps)(h:A9 E o s k=some r)(hr:Rel E.U B g s a w){C:Prop}
  (bU:∀(u:Ty)(e:Ew)(xs:List (den u))(c:Array Value),E.tb t=.slice u e->xs.length=n->(Fa a.eval o).run P w=.ok (.value (.slice (some ⟨w.heap.size,0,none⟩) n n)) (w.alloc (.cells c e))->n*E.U.size u<=c.size->
   (∀(j:Nat)(lf:Leaf Ty den),(flat E.U u xs)[j]?=some lf->∃v:Value,c[j]?=some v/\CRep E.U w g.wm lf v)->k (.one (.sl u xs (some (C4 o.dst)))) (s.fresh (C4 o.dst))=some r->C):C:=by
 simp only[A9,ai]at h;split at h
 ·rename_i u e ht;split at h
  ·rename_i u2 oJ;split at h
   ·rename_i xs jx;obtain⟨hc,h'⟩:=A8 h;simp only[Fl]at hc;have gV:=(F2 _ _).1 hc.1;have ik:n*E.U.size u<65536:=by simpa [Ga]using hc.2
    obtain⟨cI,ie,z,bR,az,_,hz,dx⟩:=P9 hT ht;obtain⟨h1,h2,h3⟩:=C4h hU hr _ u ps.toList 0 xs jx;have ce:=hU.pos u;have av:n=ps.toList.length:=Du
    have oK:∀v∈(ps.toList.map λp=>a.eval p.2),v.cells.size=E.U.size u:=by
     intro v hv;obtain⟨j,hj,qP⟩:=If hv;have nH:j<xs.length:=by simpa [h1]using hj
     obtain⟨v',dt,ax⟩:=h3 j xs[j] (Fh nH);rw[Fh hj]at dt;obtain⟨vs,e1,e2,_⟩:=A8b ax;rw[<-qP,Fz dt,e1];simpa [Hn]using e2
    have aL:∀(j:Nat)(lf:Leaf Ty den),(flat E.U u xs)[j]?=some lf->∃v:Value,((ps.toList.map λp=>a.eval p.2).flatMap λv=>v.cells.toList)[j]?=some v/\CRep E.U w g.wm lf v:=by
     intro j lf hj;rw[Great.flat_get ce _ oK];have bC:=I0 hj;rw[A1r hU]at bC;have kQ:j / E.U.size u<xs.length:=(Nat.div_lt_iff_lt_mul ce).2 bC;have uG:=Nat.mod_lt j ce;have dB:j / E.U.size u*E.U.size u+j % E.U.size u=j:=Nat.div_add_mod' j (E.U.size u);obtain⟨v,hv,ax⟩:=h3 (j / E.U.size u) _ (Fh kQ);obtain⟨vs,e1,e2,cs,e3,e4⟩:=A8b ax;have dh:(E.U.cells u xs[j / E.U.size u])[j % E.U.size u]?=some lf:=by
      rw[<-flat_get hU u xs (j / E.U.size u) _ (j % E.U.size u) (Fh kQ) uG,dB];exact hj
     refine⟨cs (j % E.U.size u),?_,e4 _ _ dh⟩;rw[hv,e1];simpa [Hn]using e3 _ _ dh
    have ah:(Ij t n (ps.map λ(j,x)=>(j,a.eval x))).run P w=.ok (.slice (some ⟨w.heap.size,0,none⟩) n n) (w.alloc (.cells ((ps.toList.map λp=>a.eval p.2).flatMap λv=>v.cells.toList).toArray e)):=by
     by_cases h0:n=0
     ·subst h0;have fA:ps= #[]:=by
       apply Im;simpa using (Hl av.symm)
      subst fA;simp[Ij,Fc cI,Ge,Fp,bR,Ii,Gp,Lg]
     ·have Aw:¬n*ie.size=0:=by
       rw[az];have:=Nat.mul_pos (Nat.pos_of_ne_zero h0) ce;omega
      refine run_buildSlice w t e n _ _ ie z cI bR hz (by rw[az];omega) Aw ?_;rw[Ik,h2,az];exact Great.fill_whole ce _ _ oK (by simp[av])
    have dv:((ps.toList.map λp=>a.eval p.2).flatMap λv=>v.cells.toList).length=n*E.U.size u:=by
     rw[B74 _ _ _ λv hv=>by simpa using oK v hv,Ji,av]
    exact bU u e xs ((ps.toList.map λp=>a.eval p.2).flatMap λv=>v.cells.toList).toArray ht gV (by simp[Fa,ai,ah]) (by simp only[Kj];omega) (λj lf hj=>by
     obtain⟨v,hv,ax⟩:=aL j lf hj;exact⟨v,by simpa using hv,ax⟩) h'
   ·cases h
  split at h
  ·rename_i ls bD;split at h
   ·rename_i xs jx;obtain⟨hc,h'⟩:=A8 h;simp only[Fl]at hc;obtain⟨fL,eT,uH⟩:=hc;have gV:=(F2 _ _).1 fL;have eE:=(F2 _ _).1 eT;have ik:n<65536:=by simpa [Ga]using uH
    obtain⟨cI,ie,z,bR,az,_,hz,dx⟩:=P9 hT ht;obtain⟨h1,h2,h3⟩:=B8x hr e ps.toList 0 ls bD;obtain⟨h4,h5⟩:=C3l hU u ls xs jx;have oL:∀v∈(ps.toList.map λp=>a.eval p.2),v.cells= #[v]:=by
     intro v hv;obtain⟨j,hj,qP⟩:=If hv;have nH:j<ls.length:=by simpa [h1]using hj
     obtain⟨v',dt,ax⟩:=h3 j ls[j] (Fh nH);rw[Fh hj]at dt;rw[<-qP,Fz dt];exact(ax.one hU (A93 hU (t:=u) (l:=xs) (j:=j) (by rw[h5];exact Fh nH))).2
    have av:n=ps.toList.length:=Du
    have ah:(Ij t n (ps.map λ(j,x)=>(j,a.eval x))).run P w=.ok (.slice (some ⟨w.heap.size,0,none⟩) n n) (w.alloc (.cells (ps.toList.map λp=>a.eval p.2).toArray e)):=by
     by_cases h0:n=0
     ·subst h0;have fA:ps= #[]:=by
       apply Im;simpa using (Hl av.symm)
      subst fA;simp[Ij,Fc cI,Ge,Fp,bR,Ii,Gp,Lg]
     ·refine run_buildSlice w t e n _ _ ie z cI bR hz (by rw[az,eE];omega) (by rw[az,eE];omega) ?_;rw[Ik,h2,az,eE];exact Great.fill_flat _ _ oL (by simp[av])
    exact bU u e xs (ps.toList.map λp=>a.eval p.2).toArray ht gV (by simp[Fa,ai,ah]) (by rw[eE];simp[av]) (λj lf hj=>by
     rw[h5]at hj;obtain⟨v,hv,ax⟩:=h3 j lf hj;exact⟨v,by simpa using hv,ax⟩) h'
   ·cases h
  ·cases h
 ·cases h
include hT hU in
def D4H{t:Ew}{n:Nat}{ps:Array (Nat×Fb)}(ai:o.op=.buildSlice t n ps)(h:A9 E o s k=some r)(hr:Rel E.U B g s a w)(hd:∀i,o.dst=some i->i<a.tmps.size/\B.np<=i)(hn:H6 E B o a k r next):o.wp P a w next Q:=
 B7Q hT hU ai h hr λu e xs c ht hl ah hc aL h'=>O5 ah (hn _ _ _ _ h' (by
  subst hl;exact REL.newOwn (o:=o) (hety:=A6b hT ht) hU hr hd (C4 o.dst) (cap:=xs.length) (w.alloc (.cells c e)) rfl rfl rfl rfl (Fe _) hc rfl aL))
def A6J{n b:Nat}(h:A3 n b=true):n*b<=140737488355328:=by simpa [A3]using h
include hT hU in
def C8a{t:Ew}{l c:Fb}(ai:o.op=.makeSlice t l c)(h:A9 E o s k=some r)(hr:Rel E.U B g s a w)(hd:∀i,o.dst=some i->i<a.tmps.size/\B.np<=i)(hn:H6 E B o a k r next):o.wp P a w next Q:=by
 simp only[A9,ai]at h;split at h
 ·rename_i u e kl kc m ht hl fM;obtain⟨hc,h'⟩:=A8 h;simp only[Fl,decide_eq_true_eq]at hc;obtain⟨ml,bu⟩:=hc;have bu:=A6J bu;obtain⟨cI,ie,z,bR,az,kR,hz,dx⟩:=P9 hT ht;have el:=V1 hr hl;have ec:=V1 hr fM;have kt:=hU.bpos u;have bh:m.toNat<=m.toNat*E.U.bytes u:=Kg _ kt;have cJ:(ie.bytes:Int)*m<=281474976710656:=by
   have e1:(m.toNat:Int)=m:=Du
   have:((ie.bytes*m.toNat:Nat):Int)<=281474976710656:=by rw[kR,Nat.mul_comm];omega
   rw[Int.natCast_mul,e1]at this;exact this
  have ah:=run_make w t e ie z cI bR hz kl kc 0 m (Int.le_refl _) ml cJ Du;simp only[Int.toNat_zero]at ah;refine O5 (v:=.slice (some ⟨w.heap.size,0,none⟩) 0 m.toNat) (w':=w.alloc (.cells (It z.cells (m.toNat*ie.size)) e)) (by simp[Fa,ai,el,ec,ah]) (hn _ _ _ _ h' ?_);exact REL.newOwn (o:=o) (hety:=A6b hT ht) hU hr hd (C4 o.dst) (t:=u) (l:=[]) (c:=It z.cells (m.toNat*ie.size)) (e:=e) (fz:=(0,0)) (cap:=m.toNat) (w.alloc (.cells (It z.cells (m.toNat*ie.size)) e)) rfl rfl rfl rfl
   (Fi _) (by rw[size_madeCells,az];exact Fe _) rfl (λj lf hj=>by simp[flat]at hj)
 ·cases h
include hT hU in
def D4k{t:Ew}{x:Fb}(ai:o.op=.range t x)(h:A9 E o s k=some r)(hr:Rel E.U B g s a w)(hd:∀i,o.dst=some i->i<a.tmps.size/\B.np<=i)(hn:H6 E B o a k r next):o.wp P a w next Q:=by
 simp only[A9,ai]at h;split at h
 ·rename_i b ht hx;have ex:=A5e hr hx;have cI:=A2S hT ht;have h1:=hr.alloc hU (.stringIter ⟨b.toArray⟩ 0) 0 (w.alloc (.stringIter ⟨b.toArray⟩ 0)) rfl rfl rfl rfl;have ah:(Fa a.eval o).run P w=.ok (.value (.pointer (some ⟨w.heap.size,0,none⟩))) (w.alloc (.stringIter ⟨b.toArray⟩ 0)):=by
   simp[Fa,ai,ex,Instr.range,Fc cI]
  refine O5 ah (hn _ _ _ _ h ?_);have bW:(w.alloc (.stringIter ⟨b.toArray⟩ 0)).heap[w.heap.size]?=some (.stringIter ⟨b.toArray⟩ 0):=heap_alloc_new w _;cases aZ:o.dst with
  |none=>exact⟨_,by simpa [St.setO,Ip]using h1⟩
  |some d=>
   have du:=(hd d aZ).1;have uz:=(hd d aZ).2;have aO:=B1S a d;have aH:∀i c p,s.get i=.iter c p->g.ib i<w.heap.size:=by
    intro i c p hc;have h2:=h1.ent i;have h3:=hr.ent i;rw[hc]at h3;obtain⟨b',hv,bH⟩:=h3;have h4:=(hr.iter i c p hc).1;rw[hv]at h4;cases h4;exact(Fv.1 bH).1
   refine⟨{wm:=C6 g.wm w.heap.size 0,G:=g.G,Gs:=g.Gs,ib:=λi=>if i=d then w.heap.size else g.ib i},?_⟩;refine{os:=h1.os,tape:=h1.tape,output:=h1.output,size:=h1.size,frame:=h1.frame,ext:=h1.ext,zero:=h1.zero,ent:=λi=>?_,tip:=h1.tip,disj:=h1.disj,mine:=h1.mine,iter:=λi c pos hc=>?_,idis:=λi j c p c' p' cG hi hj=>?_,defers:=by rw[B2N];exact h1.defers,bxl:=λi e ls hc=>?_,pin:=λi hi=>by(show(a.put (some d) _).tmps.getD i undef=_;rw[aO i _ du,Ek Du];exact h1.pin i hi)}
   ·simp only[St.setO];rw[G8,aO i _ du];by_cases cR:d=i
    ·rw[El cR,El cR];exact⟨w.heap.size,rfl,bW⟩
    ·rw[Ek cR,Ek cR];exact ERep.same (w:=w.alloc (.stringIter ⟨b.toArray⟩ 0)) (g:={wm:=C6 g.wm w.heap.size 0,G:=g.G,Gs:=g.Gs,ib:=g.ib}) (g':={wm:=C6 g.wm w.heap.size 0,G:=g.G,Gs:=g.Gs,ib:=λi=>if i=d then w.heap.size else g.ib i}) hU ⟨A6Z rfl,λ_ _ _=>rfl,λ_=>Fe _⟩ rfl rfl (h1.ent i) (λ_ _ _ _ _=>rfl) (λ_ _ _ _ _=>rfl)
   ·simp only[St.setO]at hc;rw[G8]at hc;rw[aO i _ du];by_cases cR:d=i
    ·rw[El cR];simp only[El cR.symm];exact⟨trivial,hr.size⟩
    ·rw[Ek cR]at hc ⊢;simp only[Ek (Fo cR)];exact h1.iter i c pos hc
   ·simp only[St.setO]at hi hj;rw[G8]at hi hj;by_cases cR:d=i
    ·have kp:¬d=j:=λe=>cG (cR.symm.trans e);rw[Ek kp]at hj;simp only[El cR.symm,Ek (Fo kp)];have:=aH j _ _ hj;omega
    ·rw[Ek cR]at hi;by_cases kp:d=j
     ·simp only[Ek (Fo cR),El kp.symm];have:=aH i _ _ hi;omega
     ·rw[Ek kp]at hj;simp only[Ek (Fo cR),Ek (Fo kp)];exact h1.idis i j _ _ _ _ cG hi hj
   ·simp only[St.setO]at hc;rw[G8]at hc;by_cases cR:d=i
    ·rw[El cR]at hc;cases hc
    ·rw[Ek cR]at hc;exact h1.bxl i e ls hc
 ·cases h
def D2v{x:Nat}(ai:o.op=.next (.tmp x) true)(h:A9 E o s k=some r)(hr:Rel E.U B g s a w)(hU:E.U.Ok)(hd:∀i,o.dst=some i->i<a.tmps.size/\B.np<=i)(hn:H6 E B o a k r next):o.wp P a w next Q:=by
 simp only[A9,ai]at h;split at h
 ·rename_i b pos hx;have aN:=hr.ent x;rw[hx]at aN;obtain⟨bb,hv,il⟩:=aN;have yg:=(hr.iter x b pos hx).1;have qQ:=(hr.iter x b pos hx).2;rw[hv]at yg;have oM:bb=g.ib x:=by simpa using yg
  have qR:x<a.tmps.size:=by
   rcases Ft x a.tmps.size with h1|h1
   ·exact h1
   ·rw[Il,Array.getElem?_eq_none h1]at hv;cases hv
  cases hc:decide (pos<b.length)with
  |false=>
   rw[hc]at h;simp only[Eh]at h;have aH:¬pos<(Hc b.toArray).size:=by rw[A4g];simpa using hc
   have ah:=run_next_end_at (P:=P) w bb ⟨b.toArray⟩ pos o.type il aH;refine G6 (e:=.tup [.bool false]) hr hd hn h ⟨[.bool false],rfl,LRep.bool _,trivial⟩ rfl ?_;simp[Fa,ai,Hw,hv,ah]
  |true=>
   rw[hc]at h;simp only[Eg]at h;have aH:pos<(Hc b.toArray).size:=by rw[A4g];simpa using hc
   have ah:=run_next_any_at (P:=P) w bb ⟨b.toArray⟩ pos o.type il aH;refine O5 (v:=.tuple #[.bool true,.int .i64 pos,.int .i32 (Gi ⟨b.toArray⟩ pos).1]) (w':=w.iterAt bb ⟨b.toArray⟩ (pos+(Gi ⟨b.toArray⟩ pos).2)) (by simp[Fa,ai,Hw,hv,ah]) (hn _ _ _ _ h ?_);have qM:=(Fv.1 il).1;have ck:∀j,j≠bb->(w.iterAt bb ⟨b.toArray⟩ (pos+(Gi ⟨b.toArray⟩ pos).2)).heap[j]?=w.heap[j]? :=λj hj=>iterAt_other w bb j _ _ hj;have cP:=iterAt_heap w bb ⟨b.toArray⟩ pos (pos+(Gi ⟨b.toArray⟩ pos).2) il;generalize ek:w.iterAt bb ⟨b.toArray⟩ (pos+(Gi ⟨b.toArray⟩ pos).2)=w' at*;have az:w'.heap.size=w.heap.size:=by rw[<-ek];exact iterAt_size _ _ _ _
   have aL:∀b' off,w'.cell? ⟨b',off,none⟩=w.cell? ⟨b',off,none⟩:=by
    intro b' off;by_cases bH:b'=bb
    ·subst bH;simp[Fs,cP,il]
    ·exact Fq (a:=⟨b',off,none⟩) (ck b' bH)
   have yh:Ext w g.wm w' g.wm:=⟨D3U (b:=bb) (λc e fz hq=>by rw[il]at hq;cases hq) ck,λb' off _=>aL b' off,λ_=>Fe _⟩;have uI:B.w.heap.size<=bb:=by rw[oM];exact qQ
   have h2:Rel E.U B g (s.set x (.iter b (pos+(Gi ⟨b.toArray⟩ pos).2))) a w':=by
    refine{os:=by rw[<-ek];exact hr.os,tape:=by rw[<-ek];exact hr.tape,output:=by rw[<-ek];exact hr.output,size:=by rw[az];exact hr.size,frame:=λb' bH hM=>?_,ext:=hr.ext.trans yh,zero:=λb' bH=>hr.zero b' (by rw[az]at bH;exact bH),ent:=λi=>?_,tip:=λd dV=>?_,disj:=λd e b' h3 h4=>hr.disj d e b' h3 h4,mine:=λd b' h3=>hr.mine d b' h3,iter:=λi c p cH=>?_,idis:=λi j c p c' p' cG hi hj=>?_,defers:=hr.defers,bxl:=λi e ls cH=>?_,pin:=hr.pin}
    ·rw[ck b' Du];exact hr.frame b' bH hM
    ·rw[G8];by_cases jR:x=i
     ·subst jR;rw[El rfl];exact⟨bb,hv,cP⟩
     ·rw[Ek jR];refine ERep.same hU yh rfl rfl (hr.ent i) (λc p cH b' bH=>ck b' ?_) (λd' ls cH b' hs=>ck b' λe=>by
       subst e;obtain⟨c1,e1,f1,h5⟩:=A4r (hr.tip d' (hr.bxl i d' ls cH).1) hs;rw[il]at h5;cases h5)
      have h3:=(hr.iter i c p cH).1;rw[bH]at h3;have h4:b'=g.ib i:=by simpa using h3
      rw[h4,oM];exact λe=>hr.idis i x c p b pos (λe'=>jR e'.symm) cH hx e
    ·obtain⟨a0,len,cap,dt,bh,fC⟩:=hr.tip d dV;refine⟨a0,len,cap,dt,bh,fC.imp id ?_⟩;rintro⟨b',off,c,e,fz,ha,bH,aw⟩;exact⟨b',off,c,e,fz,ha,by rw[ck b' (λe'=>by subst e';rw[il]at bH;cases bH)];exact bH,aw⟩
    ·rw[G8]at cH;by_cases jR:x=i
     ·subst jR;exact⟨by rw[hv,oM],qQ⟩
     ·rw[Ek jR]at cH;exact hr.iter i c p cH
    ·rw[G8]at hi hj;by_cases jR:x=i
     ·rw[Ek (λe=>cG (jR.symm.trans e))]at hj;subst jR;exact hr.idis _ j _ _ _ _ cG hx hj
     ·rw[Ek jR]at hi;by_cases yi:x=j
      ·subst yi;exact hr.idis i _ _ _ _ _ cG hi hx
      ·rw[Ek yi]at hj;exact hr.idis i j _ _ _ _ cG hi hj
    ·rw[G8]at cH;by_cases jR:x=i
     ·rw[El jR]at cH;cases cH
     ·rw[Ek jR]at cH;exact hr.bxl i e ls cH
   exact REL.setO h2 (e:=.tup [.bool true,.int .i64 (pos:Int),.int .i32 ((Gi ⟨b.toArray⟩ pos).1:Int)]) ⟨[.bool true,.int .i64 pos,.int .i32 (Gi ⟨b.toArray⟩ pos).1],rfl,LRep.bool _,LRep.int _ _,LRep.int _ _,trivial⟩ rfl _ hd
 ·cases h
end
end Go.Aev
end
section
open Go.Lib
namespace Go.Aev
variable {Ty:Type}{den:Ty->Type}
def D3K(ns:DS):∀(r:ByteArray),ns.foldl (λr n=>r.push (Iv n.toNat)) r=⟨(r.data.toList++ns.map λn=>Iv n.toNat).toArray⟩:=by
 induction ns with
 |nil=>intro r;cases r;simp
 |cons n ns ih=>
  intro r;rw[Jk,ih];cases r;simp[ByteArray.push]
def B9l(s:ByteArray):∀(bound i:Nat)(be:Array Value),(∀v∈be.toList,∃n:Int,v=.int .i32 n)->∀v∈(Gv s bound i be).toList,∃n:Int,v=.int .i32 n
 |0,i,be,h=>by simpa [Gv]using h
 |bound+1,i,be,h=>by
  simp only[Gv];split
  ·exact B9l s bound _ _ (λv hv=>by
    simp at hv;rcases hv with hv|hv
    ·exact h v (by simpa using hv)
    ·exact⟨_,hv⟩)
  ·exact h
def A51(l:Ea):DS:=l.map λ| .int _ n=>n|_=>0
def C67(l:Ea)(h:∀v∈l,∃n:Int,v=.int .i32 n):(A51 l).map (Gt .i32)=l:=by
 induction l with
 |nil=>rfl
 |cons v l ih=>
  obtain⟨n,rfl⟩:=h v Eo;simp only[A51,Ko,Kt,true_and];exact ih λu hu=>h u (by simp[hu])
section
variable {E:Env Ty den}{B:Bs}{g:Gh}{s:St Ty den}{a:Act}{w:World}
variable {P:Fg}{R:Type}{o:Oper}{k:Ent Ty den->St Ty den->Option R}{r:R}{next:Act->World->Prop}{Q:Exit->Act->World->Prop}
variable (hT:∀t,Q6 P E.U t (E.tb t))(hU:E.U.Ok)
def D7r(hU:E.U.Ok){t:Ty}{l:List (den t)}{own:Ed}{v:Value}{wm:Nat->Nat}{f:List (den t)->DT}(hf:E.U.toBytes t=some f)(h:CRep E.U w wm (.sl t l own) v):
  (Kz v).run P w=.ok (.string ⟨(f l).toArray⟩) w:=by
 obtain⟨ns,fQ,dv⟩:=hU.toBytes t f hf l;rcases h.sl_cells hU with⟨rfl,a0,cap,rfl⟩|⟨b,off,cap,cs,rfl,a7,bj,hc,fb⟩
 ·have gm:ns=[]:=by
   have:=congrArg Kp fQ;simp[flat]at this;exact Hl this.symm
  subst gm;simp at dv;rw[dv];cases a0 with
  |none=>simp[Kz];rfl
  |some a0=>
   rw[Jq w a0 0 cap [] (by simp[Gq,Iu])];rfl
 ·have av:ns.length=l.length*E.U.size t:=by rw[<-A1r hU,fQ];simp
  have az:=hU.toBytes1 t f hf;rw[az,Ke]at av;have cZ:(Gq ⟨b,off,none⟩ l.length).run P w=.ok (ns.map (Gt .u8)).toArray w:=by
   have:=Jp (P:=P) w ⟨b,off,none⟩ (ns.map (Gt .u8)) (λj v hv=>by
    rw[Fm]at hv;cases hn:ns[j]? with
    |none=>rw[hn]at hv;cases hv
    |some n=>
     rw[hn]at hv;simp at hv;subst hv;have qS:(flat E.U t l)[j]?=some (.int .u8 n):=by rw[fQ];simp[hn]
     have h1:=hc j _ qS;have h2:=fb j _ qS;rw[h2.int_inv]at h1;rw[Gj];exact h1)
   simpa [av]using this
  rw[Jq w ⟨b,off,none⟩ l.length cap ns cZ,D3K,dv];simp
def C69(ns:DS):∀(r:ByteArray),ns.foldl (λr n=>r++Ju n) r=⟨(r.data.toList++A4M ns).toArray⟩:=by
 induction ns with
 |nil=>intro r;cases r;simp[A4M]
 |cons n ns ih=>
  intro r;rw[Jk,ih];simp[A4M,ByteArray.data_append]
def D2w(hU:E.U.Ok){t:Ty}{l:List (den t)}{own:Ed}{v:Value}{wm:Nat->Nat}{f:List (den t)->DS}(hf:E.U.toRunes t=some f)(h:CRep E.U w wm (.sl t l own) v):
  (Ky v).run P w=.ok (.string ⟨(A4M (f l)).toArray⟩) w:=by
 have fQ:=hU.toRunes t f hf l;have az:=hU.toRunes1 t f hf;have av:(f l).length=l.length:=by
  have:=congrArg Kp fQ;rw[A1r hU,az,Ji,Ke]at this;exact this.symm
 rcases h.sl_cells hU with⟨rfl,a0,cap,rfl⟩|⟨b,off,cap,cs,rfl,a7,bj,hc,fb⟩
 ·have gm:f []=[]:=Hl av;rw[gm];cases a0 with
  |none=>simp[Ky,A4M];rfl
  |some a0=>
   rw[Jo w a0 0 cap [] (by simp[Gq,Iu])];rfl
 ·have cZ:(Gq ⟨b,off,none⟩ l.length).run P w=.ok ((f l).map (Gt .i32)).toArray w:=by
   have:=Jp (P:=P) w ⟨b,off,none⟩ ((f l).map (Gt .i32)) (λj v hv=>by
    rw[Fm]at hv;cases hn:(f l)[j]? with
    |none=>rw[hn]at hv;cases hv
    |some n=>
     rw[hn]at hv;simp at hv;subst hv;have qS:(flat E.U t l)[j]?=some (.int .i32 n):=by rw[fQ];simp[hn]
     have h1:=hc j _ qS;have h2:=fb j _ qS;rw[h2.int_inv]at h1;rw[Gj];exact h1)
   simpa [av]using this
  rw[Jo w ⟨b,off,none⟩ l.length cap (f l) cZ];unfold runesBytes;rw[C69];rfl
def D6s(P:Fg)(w:World)(c:Array Value)(e:Ew)(b:Nat)(w1:World)(hw:w1.heap=w.heap.push (.cells c e (0,0)))(hb:b=w.heap.size):
  ∃w2,(Is ⟨b,0,none⟩).run P w1=.ok () w2/\w2.heap=w.heap.push (.cells c e (c.size,c.size+1))/\w2.os=w1.os/\w2.tape=w1.tape/\w2.output=w1.output:=by
 subst hb;have bW:w1.heap[w.heap.size]?=some (.cells c e (0,0)):=by rw[hw];simp
 refine⟨w1.freeze ⟨w.heap.size,c.size,none⟩ 1,by simp[Is,Js,bW],?_,?_,?_,?_⟩
 ·simp only[Fw,Ja,if_false];rw[hw];apply Li;intro i;rw[Hu];by_cases hi:w.heap.size=i
  ·subst hi;simp
  ·simp only[Ek hi];rw[Gf,Gf];rw[Ek (Fo hi),Ek (Fo hi)]
 ·simp[Fw]
 ·simp[Fw]
 ·simp[Fw]
include hT hU in
def C6i{src dst:Ew}{x:Fb}(ai:o.op=.convert src dst x)(h:A9 E o s k=some r)(hr:Rel E.U B g s a w)(hd:∀i,o.dst=some i->i<a.tmps.size/\B.np<=i)(hn:H6 E B o a k r next):o.wp P a w next Q:=by
 simp only[A9,ai]at h;split at h
 ·rename_i k1 k0 k2 n hs aZ hx;have ex:=V1 hr hx;exact G6 (e:=.one (.int k0 (k0.wrap n))) hr hd hn h (LRep.int _ _) rfl (by simp[Fa,ai,ex,Hh,Fc (A4G hT hs),Fc (A4G hT aZ),Conv.intToInt])
 ·rename_i t e u l own hs aZ hx;split at h
  ·rename_i l' f he cO hf;obtain⟨cI,_⟩:=P9 hT hs;have bS:=G2 hr src x;rw[hx]at bS;have ax:=(A3E cO bS.1).1;have hb:=D7r (P:=P) hU hf ax;refine G6 (e:=.one (.str (f l'))) hr hd hn h (LRep.str _) rfl ?_;obtain⟨a0,cap,hv⟩:=ax.sl_inv;rw[hv]at hb;simp[Fa,ai,hv,Hh,Fc cI,Fc (A2S hT aZ),Fc (A4G hT he),hb]
  ·rename_i l' f he cO hf;obtain⟨cI,_⟩:=P9 hT hs;have bS:=G2 hr src x;rw[hx]at bS;have ax:=(A3E cO bS.1).1;have hb:=D2w (P:=P) hU hf ax;refine G6 (e:=.one (.str (A4M (f l')))) hr hd hn h (LRep.str _) rfl ?_;obtain⟨a0,cap,hv⟩:=ax.sl_inv;rw[hv]at hb;simp[Fa,ai,hv,Hh,Fc cI,Fc (A2S hT aZ),Fc (A4G hT he),hb]
  ·cases h
 ·rename_i t e b hs aZ hx;have ex:=A5e hr hx;obtain⟨cI,ie,z,bR,az,_,_,_⟩:=P9 hT aZ;split at h
  ·rename_i f he hf;obtain⟨hc,h'⟩:=A8 h;obtain⟨dv,uJ⟩:=hU.ofBytes t f hf b;have eE:E.U.size t=1:=hU.ofBytes1 t f hf;obtain⟨w2,hm,oN,mI,pX,pY⟩:=D6s P w ((b.toArray.map λc=>Gt .u8 (c.toNat:Int))++Ht ((Fy b.length 0 e).cut (w.tape w.drawn (.appendCap b.length 0 e)) - b.length) (.int .u8 0)) e w.heap.size
    (w.drew.alloc (.cells ((b.toArray.map λc=>Gt .u8 (c.toNat:Int))++Ht ((Fy b.length 0 e).cut (w.tape w.drawn (.appendCap b.length 0 e)) - b.length) (.int .u8 0)) e)) rfl rfl
   have a7:b.length<=(Fy b.length 0 e).cut (w.tape w.drawn (.appendCap b.length 0 e)):=by simp[Jx]
   refine O5 (v:=.slice (some ⟨w.heap.size,0,none⟩) b.length ((Fy b.length 0 e).cut (w.tape w.drawn (.appendCap b.length 0 e)))) (w':=w2) ?_ (hn _ _ _ _ h' ?_)
   ·simp[Fa,ai,ex,Hh,Fc (A2S hT hs),Fc cI,Fc (A4G hT he),Conv.stringToBytes,A4g,Iw,Gp]at hm ⊢;rw[hm];rfl
   ·have:=REL.newCl (o:=o) hU hr hd (t:=t) (l:=f b) (cap:=(Fy b.length 0 e).cut (w.tape w.drawn (.appendCap b.length 0 e))) w2 oN mI pX pY (by rw[dv];exact a7)
     (λj lf hj=>by
      rw[uJ,Fm]at hj;cases ku:b[j]? with
      |none=>rw[ku]at hj;cases hj
      |some c=>
       rw[ku]at hj;simp at hj;subst hj;have aH:=I0 ku;refine⟨.int .u8 (c.toNat:Int),?_,.int _ _⟩;rw[Hv (by simpa using aH)];simp[ku])
    rw[dv]at this;exact this
  ·rename_i f he hf;obtain⟨hc,h'⟩:=A8 h;have qT:=C67 _ (B9l ⟨b.toArray⟩ b.length 0 #[] (λv hv=>by simp at hv));obtain⟨dv,uJ⟩:=hU.ofRunes t f hf (A51 (Gv ⟨b.toArray⟩ b.length 0 #[]).toList);have eE:E.U.size t=1:=hU.ofRunes1 t f hf;have nI:(f (A51 (Gv ⟨b.toArray⟩ b.length 0 #[]).toList)).length=(Gv ⟨b.toArray⟩ b.length 0 #[]).size:=by rw[dv];simp[A51]
   generalize hX:Gv ⟨b.toArray⟩ b.length 0 #[]=X at*;have a7:X.size<=(Fy X.size 0 e).cut (w.tape w.drawn (.appendCap X.size 0 e)):=by simp[Jx]
   refine O5 (v:=.slice (some ⟨w.heap.size,0,none⟩) X.size ((Fy X.size 0 e).cut (w.tape w.drawn (.appendCap X.size 0 e))))
    (w':=w.drew.alloc (.cells (X++Ht ((Fy X.size 0 e).cut (w.tape w.drawn (.appendCap X.size 0 e)) - X.size) (.int .i32 0)) e)) ?_ (hn _ _ _ _ h' ?_)
   ·simp[Fa,ai,ex,Hh,Fc (A2S hT hs),Fc cI,Fc (A4G hT he),Conv.stringToRunes,A4g,hX,Iw,Gp]
   ·have:=REL.newOwn (o:=o) (hety:=A6b hT aZ) hU hr hd (C4 o.dst) (t:=t) (l:=f (A51 X.toList)) (c:=X++Ht ((Fy X.size 0 e).cut (w.tape w.drawn (.appendCap X.size 0 e)) - X.size) (.int .i32 0)) (e:=e) (fz:=(0,0)) (cap:=(Fy X.size 0 e).cut (w.tape w.drawn (.appendCap X.size 0 e)))
     (w.drew.alloc (.cells (X++Ht ((Fy X.size 0 e).cut (w.tape w.drawn (.appendCap X.size 0 e)) - X.size) (.int .i32 0)) e)) rfl rfl rfl rfl (by rw[nI];exact a7)
     (by rw[eE];simp;omega) rfl (λj lf hj=>by
      rw[uJ,Fm]at hj;cases ku:(A51 X.toList)[j]? with
      |none=>rw[ku]at hj;cases hj
      |some c=>
       rw[ku]at hj;simp at hj;subst hj;refine⟨.int .i32 c,?_,.int _ _⟩;have h1:X.toList[j]?=some (.int .i32 c):=by rw[<-qT];simp[ku]
       have aH:=I0 h1;rw[Hv (by simpa using aH)];simpa using h1)
    rw[nI]at this;exact this
  ·cases h
 ·rename_i t e u1 e1 u l d hs aZ hx;split at h
  ·rename_i l' cO he;obtain⟨hc,h'⟩:=A8 h;simp only[Fl,Ga]at hc;obtain⟨uK,aG,cV⟩:=hc;have uK:=(F2 _ _).1 uK;subst uK;obtain⟨cI,_⟩:=P9 hT hs;have bS:=G2 hr src x;rw[hx]at bS;obtain⟨ax,im⟩:=A3E cO bS.1;have kS:=(bS.2.1 u l d rfl).1;obtain⟨a0,len,cap,ef,bh,fC⟩:=hr.tip d aG;have hv:=kS.trans ef;have av:len=l'.length:=by
    obtain⟨a1,c1,h1⟩:=ax.sl_inv;rw[h1]at hv;simp at hv;omega
   obtain⟨b,off,c,e2,fz,rfl,hb,_⟩:=fC.resolve_left Du;have bm:spare (g.G d)=some b:=by rw[ef];simp only[spare];rw[Ek Du]
   obtain⟨jb,bH⟩:∃jb,(w.freeze ⟨b,c.size,none⟩ 1).heap[b]?=some (.cells c e2 jb):=by
    simp only[Fw,Ja,if_false,Hu,if_true,hb];exact⟨_,rfl⟩
   have ck:∀k,k≠b->(w.freeze ⟨b,c.size,none⟩ 1).heap[k]?=w.heap[k]? :=λk hk=>by
    simp only[Fw,Ja,if_false,Hu];rw[Ek (λh=>hk h.symm)]
   have eb:Ext w g.wm (w.freeze ⟨b,c.size,none⟩ 1) g.wm:=⟨λk c1 e3 f1 h1=>by
    by_cases hk:k=b
    ·subst hk;rw[hb]at h1;cases h1;exact⟨_,_,bH⟩
    ·exact⟨c1,f1,by rw[ck k hk];exact h1⟩,λk oO _=>by
    by_cases hk:k=b
    ·subst hk;simp only[Fs,bH,hb]
    ·exact Fq (a:=⟨k,oO,none⟩) (ck k hk),λ_=>Fe _⟩
   have h1:=(hr.kill hU d).world hU (w':=w.freeze ⟨b,c.size,none⟩ 1) (wm':=g.wm) (by simp[Fw]) (by simp[Fw]) (by simp[Fw]) (by simp[Fw]) eb (λb'=>b'=b) (λb' bH=>by cases bH;exact⟨c,e2,fz,hb⟩)
    (λe1 b' iN eE=>.inl λbH=>by
     cases bH;have ej:=(O7 d e1 s.live).1 iN;exact hr.disj d e1 b aG ej.1 (Fo ej.2) bm eE)
    (λb' bH=>by cases bH;exact hr.mine d b aG bm) (λb' _ aC=>⟨ck b' aC,rfl⟩) (λb' bH=>hr.zero b' (by simpa [Fw]using bH))
   refine O5 (v:=a.eval x) (w':=w.freeze ⟨b,c.size,none⟩ 1) ?_ (hn _ _ _ _ h' (REL.setO h1 (e:=.one (.sl t l' none)) ⟨(ax.own none).mono hU eb,λ_ _ _ he=>by(cases he),λ_ _ he=>by(cases he)⟩ rfl _ hd));simp[Fa,ai,hv,Hh,Fc cI,Fc (A4G hT he),Is,Js,hb]
  ·cases h
 ·cases h
end
end Go.Aev
end
section
open Go.Lib
namespace Go.Aev
variable {Ty:Type}{den:Ty->Type}
section
variable {E:Env Ty den}{B:Bs}{g:Gh}{s:St Ty den}{a:Act}{w:World}
variable {P:Fg}{R:Type}{o:Oper}{k:Ent Ty den->St Ty den->Option R}{r:R}{next:Act->World->Prop}{Q:Exit->Act->World->Prop}
variable (hT:∀t,Q6 P E.U t (E.tb t))(hU:E.U.Ok)
structure Src(P:Fg)(U:UO Ty den)(t:Ty)(w:World)(wm:Nat->Nat)(y:Value)(m:List (den t))(aR:Ea):Prop where
 len:(He y).run P w=.ok m.length w
 first:∀w':World,w'.heap=w.heap->(Gn (U.size t) m.length y).run P w'=.ok aR.toArray w'
 nlen:aR.length=m.length*U.size t
 rep:∀(j:Nat)(lf:Leaf Ty den),(flat U t m)[j]?=some lf->∃v,aR[j]?=some v/\CRep U w wm lf v
 one:∀v∈aR,v.oneCell'=true
def B9g(hU:E.U.Ok){t:Ty}{l:List (den t)}{b off:Nat}{wm:Nat->Nat}{cs:Nat->Value}(hc:∀j lf,(flat E.U t l)[j]?=some lf->w.cell? ⟨b,off+j,none⟩=some (cs j))
  (fb:∀j lf,(flat E.U t l)[j]?=some lf->CRep E.U w wm lf (cs j))(a0:Addr)(ha:a0=⟨b,off,none⟩)(n c:Nat)(hn:n=l.length):
  (∀w':World,w'.heap=w.heap->(Gn (E.U.size t) n (.slice (some a0) n c)).run P w'=.ok ((Gb (l.length*E.U.size t)).map cs).toArray w')/\
  (∀(j:Nat)(lf:Leaf Ty den),(flat E.U t l)[j]?=some lf->∃v,((Gb (l.length*E.U.size t)).map cs)[j]?=some v/\CRep E.U w wm lf v)/\
  (∀v∈(Gb (l.length*E.U.size t)).map cs,v.oneCell'=true):=by
 subst ha hn;have dv:=A1r hU t l;have aO:∀j,j<l.length*E.U.size t->∃lf,(flat E.U t l)[j]?=some lf:=λj hj=>⟨_,Fh Du⟩;refine⟨λw' ek=>?_,λj lf hj=>?_,λv hv=>?_⟩
 ·refine run_firstCells_some w' (E.U.size t) l.length ⟨b,off,none⟩ l.length c _ Eo (λj v hv=>?_);rw[Fm]at hv;have bC:j<l.length*E.U.size t:=by
   rcases Ft j (l.length*E.U.size t)with h|h
   ·exact h
   ·rw[Hr (by simpa using h)]at hv;cases hv
  rw[Hj bC]at hv;simp at hv;subst hv;obtain⟨lf,dh⟩:=aO j bC;rw[Gj];have:=hc j lf dh;rw[<-this];exact Fq (a:=⟨b,off+j,none⟩) (by rw[ek])
 ·have bC:=I0 hj;exact⟨cs j,by rw[Fm,Hj Du];rfl,fb j lf hj⟩
 ·obtain⟨j,hj,rfl⟩:=Kl.1 hv;have bC:j<l.length*E.U.size t:=by simpa using hj
  obtain⟨lf,dh⟩:=aO j bC;exact((fb j lf dh).one hU (A93 hU dh)).1
def B0g(hU:E.U.Ok){t:Ty}{l:List (den t)}{own:Ed}{v:Value}{wm:Nat->Nat}(h:CRep E.U w wm (.sl t l own) v):∃aR,Src P E.U t w wm v l aR:=by
 rcases h.sl_cells hU with⟨rfl,a0,cap,rfl⟩|⟨b,off,cap,cs,rfl,a7,bj,hc,fb⟩
 ·refine⟨[],by simp[He],λw' _=>?_,Eo,λj lf hj=>by simp[flat]at hj,λv hv=>by simp at hv⟩;cases a0<;>simp[Gn,Gq,Iu]
 ·obtain⟨h1,h2,h3⟩:=B9g (P:=P) (w:=w) hU hc fb ⟨b,off,none⟩ rfl l.length cap rfl;exact⟨_,by simp[He],h1,Eo,h2,h3⟩
def C9G(hU:E.U.Ok){t:Ty}{b:DT}{f:DT->List (den t)}{wm:Nat->Nat}(hf:E.U.ofBytes t=some f):∃aR,Src P E.U t w wm (.string ⟨b.toArray⟩) (f b) aR:=by
 obtain⟨h1,h2⟩:=hU.ofBytes t f hf b;have hs:=hU.ofBytes1 t f hf;refine⟨b.map λc=>Gt .u8 (c.toNat:Int),by simp[He,A4g,h1],λw' _=>?_,by simp[h1,hs],λj lf hj=>?_,λv hv=>?_⟩
 ·simp only[Gn,Sem.run_pure]
  congr 1
  rw[h1];have:(Hc b.toArray).extract 0 b.length=⟨b.toArray⟩:=by rw[La];simp
  rw[this];simp[List.map_toArray]
 ·rw[h2,Fm]at hj;cases ku:b[j]? with
  |none=>rw[ku]at hj;cases hj
  |some c=>
   rw[ku]at hj;simp at hj;subst hj;exact⟨.int .u8 (c.toNat:Int),by simp[ku],.int _ _⟩
 ·obtain⟨c,_,rfl⟩:=Kl.1 hv;rfl
structure Wr(w2 w3:World)(b q:Nat)(aR:Ea):Prop where
 blk:∀c e fz,w2.heap[b]?=some (.cells c e fz)->∃c':Array Value,w3.heap[b]?=some (.cells c' e fz)/\c'.size=c.size/\(∀j,j<q\/q+aR.length<=j->c'[j]?=c[j]?)/\∀(j:Nat)(v:Value),aR[j]?=some v->c'[q+j]?=some v
 oth:∀k,k≠b->w3.heap[k]?=w2.heap[k]?
 size:w3.heap.size=w2.heap.size
 os:w3.os=w2.os
 tape:w3.tape=w2.tape
 output:w3.output=w2.output
def B8u(hU:E.U.Ok){t u ty e:Ew}{t':Ty}(ht:P.underlying t=some (.slice e))(hu:A73 P u){i:Ia}{z:Value}(hi:P.info? e=some i)(az:i.size=E.U.size t')(kR:i.bytes=E.U.bytes t')(hz:i.zero=some z)(dx:z.cells.size=E.U.size t')
  (hr:Rel E.U B g s a w)(hd:∀i,o.dst=some i->i<a.tmps.size/\B.np<=i){d:Nat}(du:mem d s.live=true)(hety:∀e',E.U.ety t'=some e'->e'=e){l m m0:List (den t')}{v y:Value}{dW:Ea}(hv:LRep E.U w g (.sl t' l (some d)) v)(hy:Src P E.U t' w g.wm y m0 dW)
  (qU:m0.length=m.length)(hm:0<m.length)(bu:(l.length+m.length)*E.U.bytes t'<=140737488355328):
  ∃v' w2 b off cap c2 e2 fz,(Gw #[t,u] ty #[v,y]).run P w=.ok v' w2/\v'=.slice (some ⟨b,off,none⟩) (l.length+m.length) cap/\cap≠0/\w2.heap[b]?=some (.cells c2 e2 fz)/\off+cap*E.U.size t'<=c2.size/\l.length+m.length<=cap/\fz.2<=off+l.length*E.U.size t'/\
   (∀(j:Nat)(v:Value),dW[j]?=some v->c2[off+l.length*E.U.size t'+j]?=some v)/\
   ∀(aR:Ea)(w3:World),aR.length=m.length*E.U.size t'->(∀(j:Nat)(lf:Leaf Ty den),(flat E.U t' m)[j]?=some lf->∃v,aR[j]?=some v/\CRep E.U w g.wm lf v)->Wr w2 w3 b (off+l.length*E.U.size t') aR->
    REL E.U B ((s.fresh d).setO o.dst (.one (.sl t' (l++m) (some d)))) (a.put o.dst v') w3:=by
 obtain⟨kS,qV,mJ⟩:=hv.2.1 t' l d rfl;have kt:=hU.bpos t';have jc:l.length+m.length<=140737488355328:=Gz (Kg _ kt) bu;obtain⟨a0,len,cap,ef,bh,cM⟩:=hr.tip d du;rw[<-kS]at ef;have av:len=l.length:=by
  obtain⟨a1,c1,h1⟩:=hv.1.sl_inv;rw[h1]at ef;simp at ef;omega
 subst av;have n0:dW.length=m.length*E.U.size t':=by rw[hy.nlen,qU]
 obtain⟨dg,cf⟩:=B0g (P:=P) hU hv.1;have qW:∀w':World,w'.heap=w.heap->(Gn i.size l.length (.slice a0 l.length cap)).run P w'=.ok dg.toArray w':=λw' ek=>by
  rw[az, <-ef];exact cf.first w' ek
 have fR:∀w':World,w'.heap=w.heap->(Gn i.size m.length y).run P w'=.ok dW.toArray w':=λw' ek=>by
  rw[az, <-qU];exact hy.first w' ek
 have nJ:(He y).run P w=.ok m.length w:=by rw[<-qU];exact hy.len
 have gn:∀(aR:Ea),(∀(j:Nat)(lf:Leaf Ty den),(flat E.U t' m)[j]?=some lf->∃v,aR[j]?=some v/\CRep E.U w g.wm lf v)->∀(j:Nat)(lf:Leaf Ty den),(flat E.U t' (l++m))[j]?=some lf->∃v,(dg++aR)[j]?=some v/\CRep E.U w g.wm lf v:=λaR hn j lf hj=>by
  rw[C2a]at hj;have dv:=A1r hU t' l;by_cases bC:j<l.length*E.U.size t'
  ·rw[Gm Du]at hj;obtain⟨v,ff,eW⟩:=cf.rep j lf hj;exact⟨v,by rw[Gm (by rw[cf.nlen];exact bC)];exact ff,eW⟩
  ·rw[Gu Du,dv]at hj;obtain⟨v,ff,eW⟩:=hn _ lf hj;exact⟨v,by rw[Gu (by rw[cf.nlen];omega),cf.nlen];exact ff,eW⟩
 by_cases io:cap<l.length+m.length
 ·
  have ah:=B1B (P:=P) w t u ty e i z ht hu hi hz a0 l.length cap dg qW y m.length dW nJ fR io Du (by rw[kR];exact bu);rw[<-ef]at ah;have a7:l.length+m.length<=Gr w (l.length+m.length) cap e:=grownCap_ge _ _ _ _;obtain⟨C,hC⟩:∃C,C=dg.toArray++dW.toArray++Lb z.cells (Gr w (l.length+m.length) cap e - (l.length+m.length)):=⟨_,rfl⟩;rw[<-hC]at ah;have cE:C.size=Gr w (l.length+m.length) cap e*E.U.size t':=by
   rw[hC];simp only[Array.size_append,Kj,size_zeroCells,dx,cf.nlen,n0, <-Fu]
   congr 1;omega
  have hb:(w.drew.alloc (.cells C e)).heap[w.heap.size]?=some (.cells C e (0,0)):=by show(w.heap.push _)[w.heap.size]?=_;simp
  have dz:(l.length+m.length)*E.U.size t'<=Gr w (l.length+m.length) cap e*E.U.size t':=Ib _ a7;rw[Fu]at dz;refine⟨_,_,w.heap.size,0,_,C,e,(0,0),ah,rfl,Du,hb,by rw[cE];omega,a7,Fi _,λj v hj=>?_,λaR w3 gV ik W=>?_⟩
  ·have aH:=I0 hj;have h1:=cf.nlen;rw[hC,Hv Es,Array.getElem?_append_right Es];simpa [h1]using hj
  ·obtain⟨c',q1,q2,q3,q4⟩:=W.blk _ _ _ hb;have hh:w3.heap=w.heap.push (.cells c' e (0,0)):=by
    apply Li;intro k;by_cases hk:k=w.heap.size
    ·subst hk;rw[q1];simp
    ·rw[W.oth k hk];show(w.heap.push _)[k]?=_;rw[Gf,Gf,Ek hk,Ek hk]
   have:=REL.newOwn (o:=o) (hety:=hety) hU hr hd d (t:=t') (l:=l++m) (c:=c') (e:=e) (fz:=(0,0)) (cap:=Gr w (l.length+m.length) cap e) w3 hh W.os W.tape W.output (by simpa using a7) (by rw[q2,cE];exact Fe _) rfl (λj lf hj=>by
    obtain⟨v,ff,eW⟩:=gn aR ik j lf hj;have aH:=I0 ff;refine⟨v,?_,eW⟩;by_cases bC:j<l.length*E.U.size t'
    ·rw[q3 j (.inl Du),hC,Hv (by simp[cf.nlen];omega),Hv (by simp[cf.nlen];omega)];rw[Gm (by rw[cf.nlen];exact bC)]at ff;simpa using ff
    ·rw[Gu (by rw[cf.nlen];omega),cf.nlen]at ff;have:=q4 _ v ff;rw[<-this];congr 1;omega)
   simp only[Jj]at this;exact this
 ·
  have eF:l.length+m.length<=cap:=Du
  have dp:cap≠0:=Du
  obtain⟨b,off,c,e',fz,ha,hb,cE,bj,nF⟩:=cM.resolve_left dp;subst ha;rw[<-qV]at cE bj;have bm:spare (g.G d)=some b:=by rw[<-kS,ef];simp[spare,dp]
  have dz:(l.length+m.length)*E.U.size t'<=cap*E.U.size t':=Ib _ eF;rw[Fu]at dz;have cU:=A3O P b e' fz dW (off+l.length*E.U.size t') w c hb (by rw[n0];omega) (λj h1 h2=>Du) hy.one;obtain⟨s1,⟨c2,s2,s3,s4,s5⟩,s6,s7,s8,s9,jA⟩:=cU;have ah:=A7R (P:=P) w t u ty e i ht hu hi (some ⟨b,off,none⟩) l.length cap y m.length dW nJ (fR w rfl) (D5 w b (off+l.length*E.U.size t') dW)
   (λa1 iP=>by
    have:a1=⟨b,off,none⟩:=(Fz iP).symm;subst this;rw[Gj,az];exact s1 _ 0 Eo (Fi _)) (λh0=>by cases h0) eF
  rw[<-ef]at ah;refine⟨_,_,b,off,cap,c2,e',fz,ah,rfl,dp,s2,Du,eF,Du,s5,λaR w' gV ik W=>?_⟩;obtain⟨c',q1,q2,q3,q4⟩:=W.blk _ _ _ s2;have ck:∀k,k≠b->w'.heap[k]?=w.heap[k]? :=λk hk=>(W.oth k hk).trans (s7 k hk);have dy:∀j,j<off+l.length*E.U.size t'->c'[j]?=c[j]? :=λj hj=>(q3 j (.inl hj)).trans (s4 j (.inl hj));have aL:∀b' o',o'<g.wm b'->w'.cell? ⟨b',o',none⟩=w.cell? ⟨b',o',none⟩:=λb' o' iq=>by
   by_cases il:b'=b
   ·subst il;simp only[Fs,q1,hb];simp only[Ka,Jm,if_false];exact dy o' (by rw[bj]at iq;exact iq)
   ·exact Fq (a:=⟨b',o',none⟩) (ck b' il)
  have hx:Ext w g.wm w' (C6 g.wm b (off+(l.length+m.length)*E.U.size t')):=by
   refine⟨A6Y hb q1 ck,aL,λb'=>?_⟩;unfold C6;by_cases il:b'=b
   ·subst il;rw[El rfl,bj];rw[Fu];omega
   ·rw[Ek il];exact Fe _
  have fc:C6 g.wm b (off+(l.length+m.length)*E.U.size t') b=off+(l.length+m.length)*E.U.size t':=by simp[C6]
  have eG:=hr.redo hU du bm hb q1 ck (W.size.trans s6) (W.os.trans s8) (W.tape.trans s9) (W.output.trans jA) hx (λk hk=>by simp only[C6];rw[Ek hk]) (.slice (some ⟨b,off,none⟩) (l.length+m.length) cap) (E.U.size t')
   ⟨_,_,_,rfl,eF,.inr ⟨b,off,c',e',fz,rfl,q1,by rw[q2,s3];exact cE,fc,by show fz.2<=C6 g.wm b (off+(l.length+m.length)*E.U.size t') b;rw[fc,Fu];omega⟩⟩
   (λk hk=>by
    simp only[spare]at hk;split at hk
    ·cases hk
    ·exact(Fz hk).symm)
  refine REL.setO eG (e:=.one (.sl t' (l++m) (some d))) ⟨?_,λt1 l1 d1 he=>?_,λ_ _ he=>by(cases he)⟩ rfl o.dst hd
  ·have:=CRep.sl (U:=E.U) (w:=w') (wm:=C6 g.wm b (off+(l.length+m.length)*E.U.size t')) t' (l++m) (some d) b off cap (λj=>(dg++aR).getD j undef) (by simpa using eF) (by rw[fc];simp)
    (λj lf hj=>by
     obtain⟨v1,ff,eW⟩:=gn aR ik j lf hj;have aH:=I0 ff;have bL:(dg++aR).getD j undef=v1:=by simp[Ig,ff]
     rw[bL];by_cases bC:j<l.length*E.U.size t'
     ·rw[hx.cell b (off+j) (by rw[bj];omega)];rw[Gm (by rw[cf.nlen];exact bC)]at ff;rcases hv.1.sl_cells hU with⟨bv,_⟩|⟨b2,oO,Ax,qX,pZ,_,_,eT,eH⟩
      ·rw[bv]at bC;simp at bC
      ·have cP:=ef.symm.trans pZ;simp only[Lj,Ff,Addr.mk.injEq]at cP;obtain⟨⟨rfl,rfl,_⟩,_,rfl⟩:=cP;rw[C2a,Gm (by rw[A1r hU];exact bC)]at hj;have h5:=eT j lf hj;have h6:=cf.first w rfl;rw[ef]at h6;obtain⟨k1,k2,_⟩:=B9g (P:=P) (w:=w) hU eT eH ⟨b,off,none⟩ rfl l.length cap rfl;have h7:=k1 w rfl;rw[h7]at h6;have h8:((Gb (l.length*E.U.size t')).map qX)=dg:=by
        have:=congrArg (λr=>match r with|Result.ok (x:Array Value) _=>x.toList|_=>[]) h6;simpa using this
       rw[<-h8,Fm,Hj bC]at ff;simp at ff;rw[h5,ff]
     ·rw[Gu (by rw[cf.nlen];omega),cf.nlen]at ff;have h3:=q4 _ v1 ff;simp only[Fs,q1];simp only[Ka,Jm,if_false];rw[<-h3];congr 1;omega)
    (λj lf hj=>by
     obtain⟨v1,ff,eW⟩:=gn aR ik j lf hj;have bL:(dg++aR).getD j undef=v1:=by simp[Ig,ff]
     rw[bL];exact eW.mono hU hx)
   have qY:CRep E.U w' (C6 g.wm b (off+(l.length+m.length)*E.U.size t')) (.sl t' (l++m) (some d)) (.slice (some ⟨b,off,none⟩) (l.length+m.length) cap):=by simpa using this
   exact qY
  ·simp only[Leaf.sl.injEq,Ff]at he;obtain⟨rfl,_,rfl⟩:=he;refine⟨by simp[Gh.put],by simp[Gh.put],?_⟩;rw[ef]at mJ;exact(mJ.ext hx).len
def B8g(hU:E.U.Ok){t u ty e:Ew}{t':Ty}(ht:P.underlying t=some (.slice e))(hu:A73 P u){i:Ia}{z:Value}(hi:P.info? e=some i)(az:i.size=E.U.size t')(kR:i.bytes=E.U.bytes t')(hz:i.zero=some z)(dx:z.cells.size=E.U.size t')
  (hr:Rel E.U B g s a w)(hd:∀i,o.dst=some i->i<a.tmps.size/\B.np<=i){d:Nat}(du:mem d s.live=true)(hety:∀e',E.U.ety t'=some e'->e'=e){l m:List (den t')}{v y:Value}{aR:Ea}(hv:LRep E.U w g (.sl t' l (some d)) v)(hy:Src P E.U t' w g.wm y m aR)
  (bu:(l.length+m.length)*E.U.bytes t'<=140737488355328):
  ∃v' w',(Gw #[t,u] ty #[v,y]).run P w=.ok v' w'/\REL E.U B ((s.fresh d).setO o.dst (.one (.sl t' (l++m) (some d)))) (a.put o.dst v') w':=by
 by_cases hm:0<m.length
 ·obtain⟨v',w2,b,off,cap,c2,e2,fz,h1,_,_,h3,h4,h5,_,h7,h8⟩:=B8u (o:=o) (ty:=ty) hU ht hu hi az kR hz dx hr hd du hety hv hy rfl hm bu;exact⟨v',w2,h1,h8 aR w2 hy.nlen hy.rep ⟨λc e fz hb=>⟨c,hb,rfl,λ_ _=>rfl,λj v hj=>by rw[hb]at h3;cases h3;exact h7 j v hj⟩,λ_ _=>rfl,rfl,rfl,rfl,rfl⟩⟩
 ·
  obtain⟨kS,qV,mJ⟩:=hv.2.1 t' l d rfl;have ml:m=[]:=Hl Du;subst ml;have oQ:aR=[]:=Hl (by simpa using hy.nlen);subst oQ;obtain⟨a0,len,cap,ef,bh,cM⟩:=hr.tip d du;rw[<-kS]at ef;have av:len=l.length:=by
   obtain⟨a1,c1,h1⟩:=hv.1.sl_inv;rw[h1]at ef;simp at ef;omega
  subst av;have ah:=A7R (P:=P) w t u ty e i ht hu hi a0 l.length cap y 0 [] (by simpa using hy.len) (by simpa [az]using hy.first w rfl) w (λa1 _=>by simp[Hx]) (λ_=>rfl) (by simpa using bh);rw[<-ef]at ah;simp only[Je]at ah;rw[<-ef]at ah;refine⟨v,w,ah,?_⟩;have h2:=hr.fresh hU d v (E.U.size t') (by have:=hr.tip d du;rw[<-kS, <-qV]at this;exact this) (λe' b he aC hs=>by
   rw[kS]at hs;exact hr.disj d e' b du he (Fo aC) hs) (λb hs=>by rw[kS]at hs;exact hr.mine d b du hs)
  refine REL.setO h2 (e:=.one (.sl t' (l++[]) (some d))) ?_ rfl o.dst hd;rw[List.append_nil];refine⟨hv.1,λt1 l1 d1 he=>?_,λ_ _ he=>by(cases he)⟩;simp only[Leaf.sl.injEq,Ff]at he;obtain⟨rfl,_,rfl⟩:=he;exact⟨by simp[Gh.put],by simp[Gh.put],mJ⟩
end
end Go.Aev
end
section
open Go.Lib
namespace Go.Aev
variable {Ty:Type}{den:Ty->Type}
section
variable {E:Env Ty den}{B:Bs}{g:Gh}{s:St Ty den}{a:Act}{w:World}
variable {P:Fg}{R:Type}{o:Oper}{k:Ent Ty den->St Ty den->Option R}{r:R}{next:Act->World->Prop}{Q:Exit->Act->World->Prop}
variable (hT:∀t,Q6 P E.U t (E.tb t))(hU:E.U.Ok)
def A0k{α:Type}{A:Array α}{l:List α}(h:A.toList=l):A=l.toArray:=by rw[<-h]
include hT hU in
def D65{c:Call}{t u:Ew}{x y:Fb}(ai:o.op=.call c)(aA:c.callee=.builtin .append)(dX:c.argTypes= #[t,u])(aD:c.args= #[x,y])(h:B7F E t u x y o.dst s k=some r)
  (hr:Rel E.U B g s a w)(hd:∀i,o.dst=some i->i<a.tmps.size/\B.np<=i)(hn:H6 E B o a k r next):o.wp P a w next Q:=by
 have ah:∀{v':Value}{w':World},(Gw #[t,u] o.type #[a.eval x,a.eval y]).run P w=.ok v' w'->(Fa a.eval o).run P w=.ok (.value v') w':=λh1=>by
  simp[Fa,ai,Hf,aA,dX,aD,Hg,Hm,h1]
 unfold B7F at h;split at h
 ·rename_i t' e t0 l0 d s1 ht hx;obtain⟨cI,i,z,hi,az,kR,hz,dx⟩:=P9 hT ht;split at h
  ·rename_i l cO;obtain⟨du,h'⟩:=A8 h;obtain⟨g1,dC,hv,uL⟩:∃g1,Rel E.U B g1 s1 a w/\LRep E.U w g1 (.sl t' l (some d)) (a.eval x)/\g1.wm=g.wm:=by
    cases bv:A0c x||B1r (opl E s t x)with
    |true=>
     rw[bv,ht]at hx;simp only[Eg,Ho,Leaf.sl.injEq,Ff]at hx;obtain⟨⟨h1,h2,h3⟩,h4⟩:=hx;subst h1;have gp:=eq_of_heq h2;subst gp h3 h4;obtain⟨e0,mn⟩:=A81 cO;have:l=[]:=by rw[<-mn]
     subst this;have oR:a.eval x=.slice none 0 0:=by
      rw[Bool.or_eq_true]at bv;rcases bv with bv|bv
      ·unfold A0c at bv;split at bv
       ·rfl
       ·cases bv
      ·have bS:=(G2 hr t x).1;cases hl:opl E s t x with
       |nils=>
        rw[hl]at bS;generalize a.eval x=v at bS;cases bS;rfl
       |_=>rw[hl]at bv;cases bv
     refine⟨g.put (C4 o.dst) (.slice none 0 0) (E.U.size t'),hr.fresh hU _ _ _ ⟨_,_,_,rfl,Fe _,.inl rfl⟩ (λ_ _ _ _ hs=>by simp[spare]at hs) (λ_ hs=>by simp[spare]at hs),?_⟩;rw[oR];refine⟨⟨.nil _ _ _ _,λt1 l1 d1 he=>?_,λ_ _ he=>by(cases he)⟩,rfl⟩;simp only[Leaf.sl.injEq,Ff]at he;obtain⟨rfl,_,rfl⟩:=he;exact⟨by simp[Gh.put],by simp[Gh.put],TyB.nil⟩
    |false=>
     rw[bv]at hx;simp only[Eh,Ho]at hx;obtain⟨h1,rfl⟩:=hx;have bS:=G2 hr t x;rw[h1]at bS;obtain⟨e0,mn⟩:=A81 cO;subst e0;subst mn;exact⟨g,hr,bS,rfl⟩
   have nK:∀{lf:Leaf Ty den},opl E s u y=lf->CRep E.U w g1.wm lf (a.eval y):=by
    intro lf he;have h1:=(G2 hr u y).1;rw[he]at h1;rw[uL];exact h1
   split at h'
   ·rename_i v0 e0 v m0 own hu hy;split at h'
    ·rename_i m hm;obtain⟨bu,uM⟩:=A8 h';have ax:=(A3E hm (nK hy)).1;obtain⟨aR,cF⟩:=B0g (P:=P) hU ax;obtain⟨v',w',jS,bZ⟩:=B8g (ty:=o.type) hU cI (.inl ⟨_,(P9 hT hu).1⟩) hi az kR hz dx dC hd du (A6b hT ht) hv cF (A6J bu);exact O5 (ah jS) (hn _ _ _ _ uM bZ)
    ·cases h'
   ·rename_i b hu hy;split at h'
    ·rename_i f hf;obtain⟨bu,uM⟩:=A8 h';have ey:=(nK hy).str_inv;obtain⟨aR,cF⟩:=C9G (P:=P) (w:=w) (b:=b) (wm:=g1.wm) hU hf;have dv:=(hU.ofBytes _ f hf b).1;rw[<-ey]at cF;obtain⟨v',w',jS,bZ⟩:=B8g (ty:=o.type) hU cI (.inr (A2S hT hu)) hi az kR hz dx dC hd du (A6b hT ht) hv cF (by rw[dv];exact A6J bu);exact O5 (ah jS) (hn _ _ _ _ uM bZ)
    ·cases h'
   ·cases h'
  ·cases h
 ·cases h
include hT hU in
def D5a{c:Call}{b:Builtin}(ai:o.op=.call c)(aA:c.callee=.builtin b)(h:A2b E b c.argTypes.toList c.args.toList o.dst s k=some r)
  (hr:Rel E.U B g s a w)(hd:∀i,o.dst=some i->i<a.tmps.size/\B.np<=i)(hn:H6 E B o a k r next):o.wp P a w next Q:=by
 unfold A2b at h;split at h
 ·rename_i t x dX aD;have dX:=A0k dX;have aD:=A0k aD;split at h
  ·rename_i t' e l own ht hx;obtain⟨cI,_⟩:=P9 hT ht;have bS:=G2 hr t x;rw[show opl E s t x=_ from hx]at bS;obtain⟨a0,cap,hv⟩:=bS.1.sl_inv;exact G6 (e:=.one (.int .i64 l.length)) hr hd hn h (LRep.int _ _) rfl (by simp[Fa,ai,Hf,aA,dX,aD,Hg,Hm,hv,Lc,Fc cI,goInt])
  ·rename_i c0 ht hx;have ex:=A5e hr hx;exact G6 (e:=.one (.int .i64 c0.length)) hr hd hn h (LRep.int _ _) rfl (by simp[Fa,ai,Hf,aA,dX,aD,Hg,Hm,ex,Lc,Fc (A2S hT ht),goInt,A4g])
  ·cases h
 ·rename_i x y aD;have aD:=A0k aD;split at h
  ·rename_i k0 va k1 vb hx hy;exact G6 (e:=.one (.int k0 (if vb<va then vb else va))) hr hd hn h (LRep.int _ _) rfl (by simp[Fa,ai,Hf,aA,aD,Hg,Hm,V1 hr hx,V1 hr hy,run_min_int2])
  ·cases h
 ·rename_i x y aD;have aD:=A0k aD;split at h
  ·rename_i k0 va k1 vb hx hy;exact G6 (e:=.one (.int k0 (if vb>va then vb else va))) hr hd hn h (LRep.int _ _) rfl (by simp[Fa,ai,Hf,aA,aD,Hg,Hm,V1 hr hx,V1 hr hy,run_max_int2])
  ·cases h
 ·rename_i t u x y dX aD;exact D65 hT hU ai aA (A0k dX) (A0k aD) h hr hd hn
 ·cases h
end
end Go.Aev
end
section
open Go.Lib
namespace Go.Aev
variable {Ty:Type}{den:Ty->Type}
def Leaf.has_iff(d:Nat)(lf:Leaf Ty den):lf.has d=true↔(∃t l,lf=.sl t l (some d))\/∃o,lf=.ptr d o:=by
 cases lf with
 |sl t l o=>
  cases o with
  |none=>simp[Leaf.has]
  |some e=>simp[Leaf.has,F2]
 |ptr e o=>simp[Leaf.has,F2]
 |_=>simp[Leaf.has]
structure Post(U:UO Ty den)(B:Bs)(g':Gh)(r:Ent Ty den)(v:Value)(w':World):Prop where
 os:w'.os=B.w.os
 tape:w'.tape=B.w.tape
 output:w'.output=B.w.output
 size:B.w.heap.size<=w'.heap.size
 frame:∀b,b<B.w.heap.size->¬B.M b->w'.heap[b]?=B.w.heap[b]? /\g'.wm b=B.wm b
 ext:Ext B.w B.wm w' g'.wm
 zero:∀b,w'.heap.size<=b->g'.wm b=0
 rep:ERep U w' g' r v
 nit:r.isIter=false
 tip:∀d,r.has d=true->Tip w' g'.wm (g'.G d) (g'.Gs d)
 disj:∀d e b,r.has d=true->r.has e=true->d≠e->spare (g'.G d)=some b->spare (g'.G e)≠some b
 mine:∀d b,r.has d=true->spare (g'.G d)=some b->B.w.heap.size<=b\/B.M b
abbrev Inv:=World->(Nat->Nat)->Prop
def A1U(P:Fg)(U:UO Ty den)(I:Inv)(f:Fk)(ls:List (Leaf Ty den))(r:Ent Ty den):Prop:=
 ∀(w:World)(g:Gh)(vs:Ea),I w g.wm->(∀b,w.heap.size<=b->g.wm b=0)->LsRep U w g ls vs->(P0 ls=true->Tip w g.wm (g.G 0) (g.Gs 0))->(∀lf∈ls,∀d,lf.has d=true->d=0)->
  Calls P f vs.toArray w λe w'=>∃v g',e=.returned v/\Post U ⟨w,g.wm,λb=>P0 ls=true/\spare (g.G 0)=some b,0,λ_=>undef⟩ g' r v w'
structure Sound(P:Fg)(U:UO Ty den)(I:Inv)(f:Fk)(S:List (Leaf Ty den)->Option (Ent Ty den)):Prop where
 enter:∀args w,(Hz f args).run P w=.ok (.enter f args) w
 ok:∀ls r,S ls=some r->A1U P U I f ls r
section
variable {U:UO Ty den}{w:World}{g:Gh}
def LsRep.close:∀{ls:List (Leaf Ty den)}{vs:Ea},LsRep U w g ls vs->LsRep U w g (F6 ls) vs
 |[],[],_=>trivial
 |_::_,_::_,h=>⟨LRep.closed h.1.1,LsRep.close h.2⟩
def LsRep.closed_any{g':Gh}(hw:g'.wm=g.wm):∀{ls:List (Leaf Ty den)}{vs:Ea},LsRep U w g (F6 ls) vs->LsRep U w g' (F6 ls) vs
 |[],[],_=>trivial
 |[],_::_,h=>h.elim
 |_::_,[],h=>h.elim
 |x::_,_::_,h=>⟨⟨by rw[hw];exact h.1.1,λt1 l1 d1 he=>by(cases x<;>simp[Leaf.close]at he),λd o he=>by(cases x<;>simp[Leaf.close]at he)⟩,LsRep.closed_any hw h.2⟩
def A8H:∀(ls:List (Leaf Ty den)),P0 (F6 ls)=false
 |[]=>rfl
 |l::ls=>by
  cases l<;>simp only[F6,Leaf.close,P0]<;>exact A8H ls
def A4p(lf:Leaf Ty den)(d:Nat):lf.close.has d=false:=by cases lf<;>rfl
def A6f:∀{ls:List (Leaf Ty den)}{lf:Leaf Ty den},lf∈F6 ls->∃l0:Leaf Ty den,lf=l0.close
 |[],lf,h=>by simp[F6]at h
 |l::ls,lf,h=>by
  simp only[F6,Hq]at h;rcases h with h1|h1
  ·exact⟨l,h1⟩
  ·exact A6f h1
def LsRep.length:∀{ls:List (Leaf Ty den)}{vs:Ea},LsRep U w g ls vs->ls.length=vs.length
 |[],[],_=>rfl
 |_::_,_::_,h=>by simp[LsRep.length h.2]
def LsRep.set:∀{ls:List (Leaf Ty den)}{vs:Ea},LsRep U w g ls vs->∀(i:Nat)(lf:Leaf Ty den),(∀v,vs[i]?=some v->LRep U w g lf v)->LsRep U w g (ls.set i lf) vs
 |[],[],_,i,lf,_=>by cases i<;>trivial
 |_::_,_::_,h,0,lf,hv=>⟨hv _ rfl,h.2⟩
 |_::_,_::_,h,i+1,lf,hv=>⟨h.1,LsRep.set h.2 i lf λv dt=>hv v (by simpa using dt)⟩
def B8t:∀(ls:List (Leaf Ty den))(i:Nat)(t:Ty)(l:List (den t)),i<ls.length->P0 ((F6 ls).set i (.sl t l (some 0)))=true
 |[],i,t,l,h=>by simp at h
 |x::ls,0,t,l,_=>rfl
 |x::ls,i+1,t,l,h=>by
  have ih:=B8t ls i t l (by simpa using h);cases x<;>simp only[F6,Leaf.close,List.set_cons_succ,P0]<;>exact ih
def D02{ls:List (Leaf Ty den)}{i:Nat}{t:Ty}{l:List (den t)}{lf:Leaf Ty den}(h:lf∈(F6 ls).set i (.sl t l (some 0)))(d:Nat)(hd:lf.has d=true):d=0:=by
 rcases List.mem_or_eq_of_mem_set h with h|rfl
 ·obtain⟨l0,rfl⟩:=A6f h;rw[A4p]at hd;cases hd
 ·obtain⟨_,_,he⟩:=((Leaf.has_iff d _).1 hd).resolve_right (λ⟨o,h⟩=>by cases h);simp only[Leaf.sl.injEq,Ff]at he;exact he.2.2.symm
end
section
variable {E:Env Ty den}{B:Bs}{g:Gh}{s:St Ty den}{a:Act}{w:World}
variable {P:Fg}{R:Type}{o:Oper}{k:Ent Ty den->St Ty den->Option R}{r:R}{next:Act->World->Prop}{Q:Exit->Act->World->Prop}
def A42(hr:Rel E.U B g s a w):∀(dS:List Ew)(args:List Fb),LsRep E.U w g (S1 E s dS args) (args.map a.eval)
 |dS,[]=>by cases dS<;>trivial
 |[],x::r=>⟨G2 hr 0 x,A42 hr [] r⟩
 |t::ts,x::r=>⟨G2 hr t x,A42 hr ts r⟩
def Y2(Bc:Bs)(g' g1:Gh)(ent:Ent Ty den)(p:Ed)(L:Nat->Prop)(s:St Ty den):Prop:=
 ∀e,mem e s.live=true->(∀b,spare (g1.G e)=some b->b<Bc.w.heap.size/\¬Bc.M b)\/
  ∃c,ent.has c=true/\L c/\g1.G e=g'.G c/\(c=0->∃d,p=some d/\mem d s.live=true)
def B6q(hU:E.U.Ok){Bc:Bs}{g' g1:Gh}{ent:Ent Ty den}{v0:Value}{w':World}(hp:Post E.U Bc g' ent v0 w')(hr:Rel E.U B g1 s a w')(bj:g1.wm=g'.wm)
  (hB:∀b,Bc.w.heap.size<=b\/Bc.M b->B.w.heap.size<=b\/B.M b){p:Ed}{L L':Nat->Prop}(cu:Y2 Bc g' g1 ent p L s)(yj:∀c,L c->L' c)
  {nm:Nat}{t:Ty}{l:List (den t)}{c:Nat}{v:Value}(ax:LRep E.U w' g' (.sl t l (some c)) v)(hc:ent.has c=true)(qZ:L' c)(jB:∀e,mem e s.live=true->mem nm s.live=false->∀c',L c'->(c'=0->∃d,p=some d/\mem d s.live=true)->c'≠c)
  (fM:c=0->p=some nm):
  ∃g2,Rel E.U B g2 (A2k nm t l s).2 a w'/\g2.wm=g'.wm/\LRep E.U w' g2 (A2k nm t l s).1 v/\Y2 Bc g' g2 ent p L' (A2k nm t l s).2/\
   (∀e,mem e s.live=true->g2.G e=g1.G e/\g2.Gs e=g1.Gs e/\mem e (A2k nm t l s).2.live=true)/\(∀e,(A2k nm t l s).1.has e=true->mem e (A2k nm t l s).2.live=true):=by
 unfold A2k;cases hm:mem nm s.live with
 |true=>
  simp only[Eg];refine⟨g1,hr,bj,⟨ax.1.own none|>λh=>by rw[bj];exact h,λ_ _ _ he=>by(simp at he),λ_ _ he=>by(cases he)⟩,λe he=>?_,λe he=>⟨rfl,rfl,he⟩,λe he=>by simp[Leaf.has]at he⟩;rcases cu e he with h1|⟨c',h1,h2,h3,h4⟩
  ·exact .inl h1
  ·exact .inr ⟨c',h1,yj _ h2,h3,h4⟩
 |false=>
  simp only[Eh];obtain⟨hv,hs,fa⟩:=ax.2.1 t l c rfl;have aC:∀e,mem e s.live=true->e≠nm:=λe he h=>by subst h;rw[he]at hm;cases hm
  have cM:=hp.tip c hc;have h2:=hr.fresh hU nm (g'.G c) (g'.Gs c) (by rw[bj];exact cM) (λe b he mK eE eU=>by
   rcases cu e he with h1|⟨c',h1,h2,h3,h4⟩
   ·obtain⟨h5,h6⟩:=h1 b eU;rcases hp.mine c b hc eE with h7|h7
    ·omega
    ·exact h6 h7
   ·rw[h3]at eU;exact hp.disj c c' b hc h1 (Fo (jB e he hm c' h2 h4)) eE eU) (λb eE=>hB b (hp.mine c b hc eE))
  have aG:∀e,mem e (s.fresh nm).live=true↔e=nm\/mem e s.live=true:=λe=>by
   simp only[St.fresh];rw[mem_cons,O7];constructor
   ·rintro(rfl|⟨h3,_⟩)
    ·exact .inl rfl
    ·exact .inr h3
   ·rintro(rfl|h3)
    ·exact .inl rfl
    ·exact .inr ⟨h3,aC e h3⟩
  have hG:∀e,e≠nm->(g1.put nm (g'.G c) (g'.Gs c)).G e=g1.G e:=λe he=>by simp[Gh.put,he]
  have cX:∀e,e≠nm->(g1.put nm (g'.G c) (g'.Gs c)).Gs e=g1.Gs e:=λe he=>by simp[Gh.put,he]
  refine⟨g1.put nm (g'.G c) (g'.Gs c),h2,bj,⟨?_,λt1 l1 d1 he=>?_,λ_ _ he=>by(cases he)⟩,λe he=>?_,λe he=>⟨hG e (aC e he),cX e (aC e he),(aG e).2 (.inr he)⟩,λe he=>?_⟩
  ·show CRep E.U w' g1.wm (.sl t l (some nm)) v;rw[bj];exact ax.1.own _
  ·simp only[Leaf.sl.injEq,Ff]at he;obtain⟨rfl,_,rfl⟩:=he;exact⟨by rw[hv];simp[Gh.put],by rw[hs];simp[Gh.put],fa⟩
  ·rcases (aG e).1 he with rfl|mG
   ·exact .inr ⟨c,hc,qZ,by simp[Gh.put],λh0=>⟨e,fM h0,he⟩⟩
   ·rcases cu e mG with h1|⟨c',h1,h3,h4,h5⟩
    ·exact .inl λb hb=>h1 b (by rw[hG e (aC e mG)]at hb;exact hb)
    ·refine .inr ⟨c',h1,yj _ h3,by rw[hG e (aC e mG)];exact h4,λh0=>?_⟩;obtain⟨d,nL,fS⟩:=h5 h0;exact⟨d,nL,(aG d).2 (.inr fS)⟩
  ·obtain⟨_,_,ej⟩:=((Leaf.has_iff e _).1 he).resolve_right (λ⟨o,h⟩=>by cases h);simp only[Leaf.sl.injEq,Ff]at ej;rw[<-ej.2.2];exact(aG nm).2 (.inl rfl)
def C4q(hU:E.U.Ok){Bc:Bs}{g' g1:Gh}{ent:Ent Ty den}{v0:Value}{w':World}(hp:Post E.U Bc g' ent v0 w')(hr:Rel E.U B g1 s a w')(bj:g1.wm=g'.wm)
  (hB:∀b,Bc.w.heap.size<=b\/Bc.M b->B.w.heap.size<=b\/B.M b){X:Nat->Prop}{p:Ed}{dst:Ed}{j:Nat}(hX:∀c,X c->j+1<c)(cu:Y2 Bc g' g1 ent p (λc=>c<=j\/X c) s)
  {lf:Leaf Ty den}{v:Value}(ax:LRep E.U w' g' lf v)(hc:∀c,lf.has c=true->ent.has c=true):
  ∃g2,Rel E.U B g2 (Q9 dst p j s lf).2 a w'/\g2.wm=g'.wm/\LRep E.U w' g2 (Q9 dst p j s lf).1 v/\Y2 Bc g' g2 ent p (λc=>c<=j+1\/X c) (Q9 dst p j s lf).2/\
   (∀e,mem e s.live=true->g2.G e=g1.G e/\g2.Gs e=g1.Gs e/\mem e (Q9 dst p j s lf).2.live=true)/\(∀e,(Q9 dst p j s lf).1.has e=true->mem e (Q9 dst p j s lf).2.live=true):=by
 have keep:∀{lf':Leaf Ty den},LRep E.U w' g1 lf' v->(∀e,lf'.has e=false)->Q9 dst p j s lf=(lf',s)->
   ∃g2,Rel E.U B g2 (Q9 dst p j s lf).2 a w'/\g2.wm=g'.wm/\LRep E.U w' g2 (Q9 dst p j s lf).1 v/\Y2 Bc g' g2 ent p (λc=>c<=j+1\/X c) (Q9 dst p j s lf).2/\
   (∀e,mem e s.live=true->g2.G e=g1.G e/\g2.Gs e=g1.Gs e/\mem e (Q9 dst p j s lf).2.live=true)/\(∀e,(Q9 dst p j s lf).1.has e=true->mem e (Q9 dst p j s lf).2.live=true):=by
  intro lf' hl dk he;rw[he];refine⟨g1,hr,bj,hl,λe he=>?_,λe he=>⟨rfl,rfl,he⟩,λe he=>by rw[dk e]at he;cases he⟩;rcases cu e he with h1|⟨c',h1,h2,h3,h4⟩
  ·exact .inl h1
  ·exact .inr ⟨c',h1,h2.imp Jd id,h3,h4⟩
 have closed:∀{t:Ty}{l:List (den t)}{x:Ed},lf=.sl t l x->LRep E.U w' g1 (.sl t l none) v:=λhe=>by
  subst he;exact⟨by rw[bj];exact ax.1.own none,λ_ _ _ he=>by(simp at he),λ_ _ he=>by(cases he)⟩
 cases lf with
 |sl t l x=>
  cases x with
  |none=>exact keep (closed rfl) (λe=>rfl) rfl
  |some c=>
   cases c with
   |zero=>
    cases p with
    |none=>exact keep (closed rfl) (λe=>rfl) rfl
    |some d=>
     simp only[Q9];exact B6q (c:=0) hU hp hr bj hB cu (λc h=>h.imp Jd id) ax (hc 0 (by simp[Leaf.has])) (.inl (Fi _)) (λe he hm c' cH h0 mn=>by
      obtain⟨d',h1,h2⟩:=h0 mn;cases h1;rw[h2]at hm;cases hm) (λ_=>rfl)
   |succ i=>
    by_cases cG:i=j
    ·subst cG;simp only[Q9,H5,Eg];exact B6q (c:=i+1) hU hp hr bj hB cu (λc h=>h.imp Jd id) ax (hc (i+1) (by simp[Leaf.has])) (.inl (Fe _)) (λe he hm c' cH h0 mn=>cH.elim (λh1=>Du) (λh1=>by have:=hX _ h1;omega)) (λh=>by cases h)
    ·refine keep (closed rfl) (λe=>rfl) ?_;simp only[Q9,K4 cG,Eh]
 |any=>exact keep ⟨.any v,λ_ _ _ h=>by(cases h),λ_ _ h=>by(cases h)⟩ (λe=>rfl) rfl
 |ptr d o=>exact keep ⟨.any v,λ_ _ _ h=>by(cases h),λ_ _ h=>by(cases h)⟩ (λe=>rfl) rfl
 |_=>exact keep ⟨by rw[bj];exact ax.1,λ_ _ _ h=>by(cases h),λ_ _ h=>by(cases h)⟩ (λe=>rfl) rfl
def B4r(hU:E.U.Ok){Bc:Bs}{g':Gh}{ent:Ent Ty den}{v0:Value}{w':World}(hp:Post E.U Bc g' ent v0 w')(hB:∀b,Bc.w.heap.size<=b\/Bc.M b->B.w.heap.size<=b\/B.M b){X:Nat->Prop}{p:Ed}{dst:Ed}:
  ∀(ls:List (Leaf Ty den))(vs:Ea)(j:Nat)(s:St Ty den)(g1:Gh),Rel E.U B g1 s a w'->g1.wm=g'.wm->(∀c,X c->j+ls.length<c)->Y2 Bc g' g1 ent p (λc=>c<=j\/X c) s->LsRep E.U w' g' ls vs->(∀lf∈ls,∀c,lf.has c=true->ent.has c=true)->
  ∃g2,Rel E.U B g2 (U2 dst p j s ls).2 a w'/\g2.wm=g'.wm/\LsRep E.U w' g2 (U2 dst p j s ls).1 vs/\(∀e,mem e s.live=true->g2.G e=g1.G e/\g2.Gs e=g1.Gs e/\mem e (U2 dst p j s ls).2.live=true)/\(∀lf∈(U2 dst p j s ls).1,∀e,lf.has e=true->mem e (U2 dst p j s ls).2.live=true)/\Y2 Bc g' g2 ent p (λc=>c<=j+ls.length\/X c) (U2 dst p j s ls).2
 |[],[],j,s,g1,hr,bj,hX,cu,_,_=>⟨g1,hr,bj,trivial,λ_ h=>⟨rfl,rfl,h⟩,λlf hl=>by simp[U2]at hl,cu⟩
 |lf::ls,v::vs,j,s,g1,hr,bj,hX,cu,ax,hc=>by
  obtain⟨g2,h1,h2,h3,h4,h5,h6⟩:=C4q (dst:=dst) hU hp hr bj hB (λc h=>by(have:=hX c h;simp only[Gl]at this;omega)) cu ax.1 (hc lf Eo);obtain⟨g3,k1,k2,k3,k4,k5,k6⟩:=B4r hU hp hB (dst:=dst) ls vs (j+1) _ g2 h1 h2 (λc h=>by(have:=hX c h;simp only[Gl]at this;omega)) h4 ax.2 (λl hl=>hc l (by simp[hl]));simp only[U2];refine⟨g3,k1,k2,⟨⟨?_,λt1 l1 d1 he=>?_,λd1 o1 he=>?_⟩,k3⟩,λe he=>?_,λl0 cV e he=>?_,by(rw[show j+(lf::ls).length=j+1+ls.length by(simp only[Gl];omega)];exact k6)⟩
  ·rw[k2, <-h2];exact h3.1
  ·have hl:=h6 d1 ((Leaf.has_iff d1 _).2 (.inl ⟨t1,l1,he⟩));obtain⟨e1,e2,_⟩:=k4 d1 hl;rw[e1,e2];exact h3.2.1 t1 l1 d1 he
  ·have hl:=h6 d1 ((Leaf.has_iff d1 _).2 (.inr ⟨o1,he⟩));obtain⟨e1,e2,_⟩:=k4 d1 hl;rw[e1];exact h3.2.2 d1 o1 he
  ·obtain⟨e1,e2,e3⟩:=h5 e he;obtain⟨f1,f2,f3⟩:=k4 e e3;exact⟨f1.trans e1,f2.trans e2,f3⟩
  ·simp only[Hq]at cV;rcases cV with rfl|cV
   ·exact(k4 e (h6 e he)).2.2
   ·exact k5 l0 cV e he
def C28(hU:E.U.Ok){Bc:Bs}{g' g1:Gh}{ent:Ent Ty den}{v:Value}{w':World}(hp:Post E.U Bc g' ent v w')(hr:Rel E.U B g1 s a w')(bj:g1.wm=g'.wm)
  (hB:∀b,Bc.w.heap.size<=b\/Bc.M b->B.w.heap.size<=b\/B.M b){p:Ed}{dst:Ed}
  (dT:∀e b,mem e s.live=true->spare (g1.G e)=some b->b<Bc.w.heap.size/\¬Bc.M b)
  (h:(match ent with
   | .one l=>k (.one (Q9 dst p 0 s l).1) (Q9 dst p 0 s l).2
   | .tup r=>k (.tup (U2 dst p 0 s r).1) (U2 dst p 0 s r).2
   |_=>none)=some r) (hd:∀i,o.dst=some i->i<a.tmps.size/\B.np<=i) (hn:H6 E B o a k r next):next (a.put o.dst v) w':=by
 have cu:Y2 Bc g' g1 ent p (λc=>c<=0\/False) s:=λe he=>.inl λb hb=>dT e b he hb;have ax:=hp.rep;cases ent with
 |one l=>
  obtain⟨g2,h1,h2,h3,_⟩:=C4q (dst:=dst) hU hp hr bj hB (X:=λ_=>False) (λc h=>h.elim) cu ax (λc hc=>hc);exact hn _ _ _ _ h (REL.setO h1 (e:=.one _) h3 rfl _ hd)
 |tup ls=>
  obtain⟨vs,hv,mH⟩:=ax;obtain⟨g2,h1,h2,h3,_⟩:=B4r (dst:=dst) hU hp hB (X:=λ_=>False) ls vs 0 s g1 hr bj (λc h=>h.elim) cu mH (λlf hl c hc=>by
   simp only[Ent.has,Ku];exact⟨lf,hl,hc⟩)
  exact hn _ _ _ _ h (REL.setO h1 (e:=.tup _) ⟨vs,hv,h3⟩ rfl _ hd)
 |iter c pos=>cases h
 |bx d' ls=>cases h
 |st ls=>cases h
def D03(hU:E.U.Ok)(hS:∀f ls r,E.T f ls=some (true,r)->(∀args w,(Hz f args).run P w=.ok (.enter f args) w)/\A1U P E.U (λw1 m1=>Ext B.w B.wm w1 m1) f ls r)
  {c:Call}{f:Fk}(ai:o.op=.call c)(aA:c.callee=.value (.func f))(h:B6O E f c.argTypes.toList c.args.toList o.dst s k=some r)
  (hr:Rel E.U B g s a w)(hd:∀i,o.dst=some i->i<a.tmps.size/\B.np<=i)(hn:H6 E B o a k r next):o.wp P a w next Q:=by
 have bD:=A42 hr c.argTypes.toList c.args.toList;have fT:∀(aN:∀args w,(Hz f args).run P w=.ok (.enter f args) w),(Fa a.eval o).run P w=.ok (.enter f (c.args.toList.map a.eval).toArray) w:=λaN=>by
  simp[Fa,ai,Hf,aA,Hw,Deferred.ofValue,Hg,aN];apply Im;simp
 have nM:∀{Rr:Ending->World->Prop},(∀args w,(Hz f args).run P w=.ok (.enter f args) w)->Calls P f (c.args.toList.map a.eval).toArray w Rr->(∀e w',Rr e w'->∃v,e=.returned v/\next (a.put o.dst v) w')->o.wp P a w next Q:=λaN hc hq=>by
  unfold Ix;rw[fT aN,Oper.upon_enter];refine hc.mono λe w' ek=>?_;obtain⟨v,rfl,hv⟩:=hq e w' ek;exact hv
 have q8:∀e b,mem e s.live=true->spare (g.G e)=some b->b<w.heap.size:=λe b he hs=>by
  obtain⟨a0,len,cap,hv,_,cH⟩:=hr.tip e he;rw[hv]at hs;simp only[spare]at hs;split at hs
  ·rename_i a1 l1 c1 cb;cases cb;split at hs
   ·cases hs
   ·rename_i dp;rcases cH with h3|⟨b',off,c,e,fz,ha,hb,_⟩
    ·exact absurd h3 dp
    ·cases ha;simp at hs;subst hs;exact(Fv.1 hb).1
  ·cases hs
 unfold B6O at h;dsimp only at h;generalize hL:S1 E s c.argTypes.toList c.args.toList=ls at h bD;split at h
 ·
  cases jT:E.T f (F6 ls)with
  |none=>rw[jT]at h;cases h
  |some oT=>
   obtain⟨gd,ent⟩:=oT;rw[jT]at h;cases gd with
   |false=>exfalso;cases ent<;>cases h
   |true=>
   obtain⟨aN,jU⟩:=hS f _ _ jT;have hc:=jU w g (c.args.toList.map a.eval) hr.ext hr.zero (LsRep.close bD) (λh1=>by rw[A8H]at h1;cases h1) (λlf hl d dV=>by
    obtain⟨l0,rfl⟩:=A6f hl;rw[A4p]at dV;cases dV)
   rw[A8H]at hc;refine nM aN hc ?_;rintro e w' ⟨v,g',rfl,hp⟩;refine⟨v,rfl,?_⟩;have dC:=hr.world hU (w':=w') (wm':=g'.wm) hp.os hp.tape hp.output hp.size hp.ext (λ_=>False) (λb e=>e.elim) (λ_ _ _ _=>.inl λe=>e) (λb e=>e.elim) (λb hb _=>hp.frame b hb (λe=>by cases e.1)) hp.zero;refine C28 (p:=none) (dst:=o.dst) hU hp dC rfl (λb hb=>?_) (λe b he hs=>⟨q8 e b he hs,λe=>by cases e.1⟩) ?_ hd hn
   ·rcases hb with hb|hb
    ·exact .inl (Gz hr.size hb)
    ·cases hb.1
   ·cases ent<;>exact h
 ·
  rename_i p Dh;cases nO:ls.getD p .any with
  |sl t l x=>
   cases x with
   |none=>rw[nO]at h;cases h
   |some d=>
    rw[nO]at h;obtain⟨du,h'⟩:=A8 h;cases jT:E.T f ((F6 ls).set p (.sl t l (some 0)))with
    |none=>rw[jT]at h';cases h'
    |some oT=>
     obtain⟨gd,ent⟩:=oT;rw[jT]at h';cases gd with
     |false=>exfalso;cases ent<;>cases h'
     |true=>
     obtain⟨aN,jU⟩:=hS f _ _ jT;have oV:p<ls.length:=by
      rcases Ft p ls.length with h1|h1
      ·exact h1
      ·rw[Kr,Hr h1]at nO;cases nO
     have uN:ls[p]?=some (.sl t l (some d)):=by
      rw[Kr,Fh oV]at nO;simp at nO;rw[Fh oV,nO]
     obtain⟨vp,ub,nP⟩:=bD.get uN;obtain⟨kS,qV,fa⟩:=nP.2.1 t l d rfl;have uO:Ext w g.wm w (g.put 0 (g.G d) (g.Gs d)).wm:=⟨A6Z rfl,λ_ _ _=>rfl,λ_=>Fe _⟩;have uP:LsRep E.U w (g.put 0 (g.G d) (g.Gs d)) (F6 ls) (c.args.toList.map a.eval):=by
      exact LsRep.closed_any (g:=g) (g':=g.put 0 (g.G d) (g.Gs d)) rfl (LsRep.close bD)
     have hc:=jU w (g.put 0 (g.G d) (g.Gs d)) (c.args.toList.map a.eval) hr.ext hr.zero (uP.set p (.sl t l (some 0)) (λv hv=>by
       rw[ub]at hv;cases hv;refine⟨nP.1.own _,λt1 l1 d1 he=>?_,λ_ _ he=>by(cases he)⟩;simp only[Leaf.sl.injEq,Ff]at he;obtain⟨rfl,_,rfl⟩:=he;exact⟨by rw[kS];simp[Gh.put],by rw[qV];simp[Gh.put],fa⟩))
      (λ_=>by simpa [Gh.put]using hr.tip d du) (λlf hl d' dV=>D02 hl d' dV)
     rw[B8t ls p t l oV]at hc;have Ay:(g.put 0 (g.G d) (g.Gs d)).G 0=g.G d:=by simp[Gh.put]
     rw[Ay]at hc;refine nM aN hc ?_;rintro e w' ⟨v,g',rfl,hp⟩;refine⟨v,rfl,?_⟩;have hk:=hr.kill hU d;have kU:∀e b,mem e (s.kill d).live=true->spare (g.G e)=some b->spare (g.G d)≠some b:=λe b he hs=>by
      have ej:=(O7 d e s.live).1 he;exact hr.disj e d b ej.1 du ej.2 hs
     have dC:=hk.world hU (w':=w') (wm':=g'.wm) hp.os hp.tape hp.output hp.size hp.ext (λb=>spare (g.G d)=some b) (λb hb=>by
       obtain⟨a0,len,cap,hv,_,cH⟩:=hr.tip d du;rw[hv]at hb;simp only[spare]at hb;split at hb
       ·rename_i a1 l1 c1 cb;cases cb;split at hb
        ·cases hb
        ·rename_i dp;rcases cH with h3|⟨b',off,c,e,fz,ha,bH,_⟩
         ·exact absurd h3 dp
         ·cases ha;simp at hb;subst hb;exact⟨_,_,_,bH⟩
       ·cases hb)
      (λe b he hs=>.inl (kU e b he hs)) (λb hb=>hr.mine d b du hb) (λb hb hM=>hp.frame b hb λh=>hM h.2) hp.zero
     refine C28 (p:=some d) (dst:=o.dst) hU hp dC rfl (λb hb=>?_) (λe b he hs=>⟨q8 e b ((O7 d e s.live).1 he).1 hs,λh=>kU e b he hs h.2⟩) ?_ hd hn
     ·rcases hb with hb|hb
      ·exact .inl (Gz hr.size hb)
      ·exact hr.mine d b du hb.2
     ·cases ent<;>exact h'
  |_=>rw[nO]at h;cases h
end
end Go.Aev
end
section
open Go.Lib
namespace Go.Aev
variable {Ty:Type}{den:Ty->Type}
section
variable {U:UO Ty den}{B:Bs}{g:Gh}{s:St Ty den}{a:Act}{w:World}
def Rel.setBx(h:Rel U B g s a w){d:Nat}{ls:List (Leaf Ty den)}(hb:BoxOk U w g d ls)(hl:mem d s.live=true):Rel U B g (s.set (bxi d) (.bx d ls)) a w:=by
 refine{h with ent:=λi=>?_,iter:=λi c pos hc=>?_,idis:=λi j c p c' p' cG h1 h2=>?_,bxl:=λi e bY hc=>?_}
 ·rw[G8];by_cases hi:bxi d=i
  ·rw[El hi];exact hb
  ·rw[Ek hi];exact h.ent i
 ·rw[G8]at hc;by_cases hi:bxi d=i
  ·rw[El hi]at hc;cases hc
  ·rw[Ek hi]at hc;exact h.iter i c pos hc
 ·rw[G8]at h1 h2;by_cases hi:bxi d=i
  ·rw[El hi]at h1;cases h1
  ·by_cases hj:bxi d=j
   ·rw[El hj]at h2;cases h2
   ·rw[Ek hi]at h1;rw[Ek hj]at h2;exact h.idis i j c p c' p' cG h1 h2
 ·rw[G8]at hc;by_cases hi:bxi d=i
  ·rw[El hi]at hc;cases hc;exact⟨hl,hi.symm⟩
  ·rw[Ek hi]at hc;exact h.bxl i e bY hc
def Rel.setSame(h:Rel U B g s a w){d:Nat}{e:Ent Ty den}(he:ERep U w g e (a.tmps.getD d undef))(hi:e.isIter=false):Rel U B g (s.set d e) a w:=by
 refine{h with ent:=λi=>?_,iter:=λi c pos hc=>?_,idis:=λi j c p c' p' cG h1 h2=>?_,bxl:=λi e2 bY hc=>?_}
 ·rw[G8];by_cases hi:d=i
  ·rw[El hi];subst hi;exact he
  ·rw[Ek hi];exact h.ent i
 ·rw[G8]at hc;by_cases cR:d=i
  ·rw[El cR]at hc;subst hc;cases hi
  ·rw[Ek cR]at hc;exact h.iter i c pos hc
 ·rw[G8]at h1 h2;by_cases cR:d=i
  ·rw[El cR]at h1;subst h1;cases hi
  ·by_cases kp:d=j
   ·rw[El kp]at h2;subst h2;cases hi
   ·rw[Ek cR]at h1;rw[Ek kp]at h2;exact h.idis i j c p c' p' cG h1 h2
 ·rw[G8]at hc;by_cases cR:d=i
  ·rw[El cR]at hc;subst hc;cases hi
  ·rw[Ek cR]at hc;exact h.bxl i e2 bY hc
def Rel.noBx(h:Rel U B g s a w)(d:Nat):Rel U B g (s.set (bxi d) (.one .any)) a w:=by
 refine h.weaken (λi=>?_) (λ_ hd=>hd) (λi e ls _ hd=>hd);rw[G8];by_cases hi:bxi d=i
 ·rw[El hi];exact .inl rfl
 ·rw[Ek hi];exact .inr rfl
def Rel.poke(hU:U.Ok)(h:Rel U B g s a w){d b:Nat}(hl:mem d s.live=true)(hG:spare (g.G d)=some b)(dk:∀i ls,s.get i≠ .bx d ls)(bj:g.wm b=0){w':World}{c c':Array Value}{e:Ew}{fz:Nat×Nat}
  (hb:w.heap[b]?=some (.cells c e fz))(bH:w'.heap[b]?=some (.cells c' e fz))(cE:c'.size=c.size)(jQ:w'.os=w.os)(cY:w'.tape=w.tape)(dy:w'.output=w.output)(az:w'.heap.size=w.heap.size)(ck:∀k,k≠b->w'.heap[k]?=w.heap[k]?):
  Rel U B g s a w'/\Ext w g.wm w' g.wm:=by
 have hx:Ext w g.wm w' g.wm:=⟨A6Y hb bH ck,λk off ho=>by
  by_cases hk:k=b
  ·subst hk;omega
  ·exact Fq (a:=⟨k,off,none⟩) (ck k hk),λ_=>Fe _⟩
 refine⟨{os:=jQ.trans h.os,tape:=cY.trans h.tape,output:=dy.trans h.output,size:=by rw[az];exact h.size,frame:=λk hk hM=>?_,ext:=h.ext.trans hx,zero:=λk hk=>h.zero k (by rw[<-az];exact hk),ent:=λi=>ERep.same (g':=g) hU hx rfl rfl (h.ent i) (λc1 pos hc k hv=>ck k ?_) (λd' ls hc k hs=>ck k ?_),tip:=λf hf=>?_,disj:=h.disj,mine:=h.mine,iter:=h.iter,idis:=h.idis,defers:=h.defers,bxl:=h.bxl,pin:=h.pin},hx⟩
 ·have:k≠b:=λe1=>by
   subst e1;rcases h.mine d k hl hG with h1|h1
   ·omega
   ·exact hM h1
  rw[ck k this];exact h.frame k hk hM
 ·intro e1;subst e1;have he:=h.ent i;rw[hc]at he;obtain⟨b',dt,cJ⟩:=he;rw[hv]at dt;cases dt;rw[hb]at cJ;cases cJ
 ·intro e1;subst e1;have aC:d'≠d:=λe2=>by subst e2;exact dk i ls hc
  exact h.disj d' d k (h.bxl i d' ls hc).1 hl aC hs hG
 ·obtain⟨a0,len,cap,hv,bh,fC⟩:=h.tip f hf;refine⟨a0,len,cap,hv,bh,?_⟩;by_cases dp:cap=0
  ·exact .inl dp
  obtain⟨b',off,c1,e1,gW,ha,mL,r1,r2,r3⟩:=fC.resolve_left dp;by_cases il:b'=b
  ·subst il;rw[hb]at mL;cases mL;exact .inr ⟨b',off,c',e,fz,ha,bH,by rw[cE];exact r1,r2,r3⟩
  ·exact .inr ⟨b',off,c1,e1,gW,ha,by rw[ck b' il];exact mL,r1,r2,r3⟩
end
section
variable {E:Env Ty den}{B:Bs}{g:Gh}{s:St Ty den}{a:Act}{w:World}
variable {P:Fg}{R:Type}{o:Oper}{k:Ent Ty den->St Ty den->Option R}{r:R}{next:Act->World->Prop}{Q:Exit->Act->World->Prop}
variable (hT:∀t,Q6 P E.U t (E.tb t))(hU:E.U.Ok)(hZ:∀t zs,E.zr t=some zs->A1v P E.U t zs)
def C4v{e:Nat}(nm:Nat):∀(zs:List (Leaf Ty den))(j:Nat)(s:St Ty den),mem e s.live=true->mem e (A4s nm j s zs).live=true
 |[],j,s,h=>h
 |l::zs,j,s,h=>by
  simp only[A4s];refine C4v nm zs (j+1) _ ?_;rcases A9v l with⟨t,rfl⟩|⟨_,h2,_⟩
  ·simp only[nlS,St.fresh];rw[mem_cons,O7];by_cases he:bo nm j=e
   ·exact .inl he
   ·exact .inr ⟨h,λh=>he h.symm⟩
  ·rw[h2];exact h
def C6R{U:UO Ty den}{g:Gh}{w:World}{nm b n:Nat}{l l':Leaf Ty den}{u:Value}(he:A7z nm l=l')(h:LRep U w g l u)(hG:g.G nm=.slice (some ⟨b,0,none⟩) 0 n)(dX:B17 U w b):LRep U w g l' u:=by
 subst he;unfold A7z;split
 ·have hc:=h.1;cases hc with
  |val v=>exact⟨.pt _ _ _,λ_ _ _ he=>by(cases he),λd o he=>by(cases he;exact⟨b,n,hG,.inr (.inl ⟨rfl,dX,.inl rfl⟩)⟩)⟩
 ·exact h
def A9y(q:Bool)(nm:Nat)(ls:List (Leaf Ty den)):(A5y q nm ls).length=ls.length:=by cases q<;>simp[A5y]
def B8h{q:Bool}{nm j:Nat}{ls:List (Leaf Ty den)}{lf:Leaf Ty den}(h:(A5y q nm ls)[j]?=some lf):∃l0,ls[j]?=some l0/\((q=true/\A7z nm l0=lf)\/l0=lf):=by
 cases q with
 |false=>exact⟨lf,h,.inr rfl⟩
 |true=>
  have h':(ls.map (A7z nm))[j]?=some lf:=h;rw[Fm]at h';obtain⟨l0,h1,h2⟩:=Gk.1 h';exact⟨l0,h1,.inl ⟨rfl,h2⟩⟩
def B93{U:UO Ty den}{g:Gh}{w:World}{t nm b n:Nat}{c:Array Value}{fz:Nat×Nat}{l l':Leaf Ty den}{u:Value}(he:(Ey t U.bty=true/\A7z nm l=l')\/l=l')(h:LRep U w g l u)(hG:g.G nm=.slice (some ⟨b,0,none⟩) 0 n)(dX:w.heap[b]?=some (.cells c t fz)):LRep U w g l' u:=by
 rcases he with⟨h1,h2⟩|rfl
 ·have:=(F2 _ _).1 h1;subst this;exact C6R h2 h hG ⟨c,fz,dX⟩
 ·exact h
include hU hZ in
def D4g{t:Ew}(ai:o.op=.alloc t)(h:A9 E o s k=some r)(hr:Rel E.U B g s a w)(hd:∀i,o.dst=some i->i<a.tmps.size/\B.np<=i)(hn:H6 E B o a k r next):o.wp P a w next Q:=by
 simp only[A9,ai]at h;split at h
 ·rename_i i zs aZ dx;have ce:0<zs.length:=by
   cases q9:E.oz i with
   |true=>rw[q9]at h;simpa [Ga]using (A8 h).1
   |false=>rw[q9]at h;simpa [Ga]using (A8 h).1
  obtain⟨ie,z,e1,e2,e3,e4,e5⟩:=hZ t zs dx;have ah:(Fa a.eval o).run P w=.ok (.value (.pointer (some ⟨w.heap.size,0,none⟩))) (w.alloc (.cells z.cells t)):=by
   simp[Fa,ai,Instr.alloc,zeroValue,Fp,e1,e3,newVar,Gp]
  have h1:=hr.alloc hU (.cells z.cells t) 0 (w.alloc (.cells z.cells t)) rfl rfl rfl rfl;have bW:(w.alloc (.cells z.cells t)).heap[w.heap.size]?=some (.cells z.cells t):=by
   have hp:(w.alloc (.cells z.cells t)).heap=w.heap.push (.cells z.cells t):=rfl;rw[hp];simp
  have bj:C6 g.wm w.heap.size 0 w.heap.size=0:=by simp[C6]
  generalize dD:C4 (some i)=nm at*;have h2:=h1.fresh hU nm (.slice (some ⟨w.heap.size,0,none⟩) 0 zs.length) 1
   ⟨_,0,zs.length,rfl,Fi _,.inr ⟨w.heap.size,0,z.cells,t,(0,0),rfl,bW,Du,by(show C6 g.wm w.heap.size 0 w.heap.size=_;rw[bj]),Fi _⟩⟩
   (λe b he aC hs eU=>by
    simp only[spare]at hs;rw[Ek Du]at hs;cases hs;have:=hr.tip e he;obtain⟨c,e',fz,hc⟩:=A4r this eU;have:=(Fv.1 hc).1;omega) (λb hs=>by
    simp only[spare]at hs;rw[Ek Du]at hs;cases hs;exact .inl hr.size)
  have aG:mem nm (s.fresh nm).live=true:=by simp only[St.fresh];rw[mem_cons];exact .inl rfl
  have cj:BoxOk E.U (w.alloc (.cells z.cells t)) (({g with wm:=C6 g.wm w.heap.size 0}:Gh).put nm (.slice (some ⟨w.heap.size,0,none⟩) 0 zs.length) 1) nm zs:=by
   refine BoxOk.ex w.heap.size (by simp[Gh.put]) ce (by simp[Gh.put]) λj lf hj=>?_;obtain⟨u,u1,u2,u3,u4,_⟩:=e5 j lf hj;refine⟨u,?_,u2,u3,u4 _ _⟩;unfold Fs;dsimp only;rw[bW];simpa using u1
  cases q9:E.oz i with
  |true=>
   rw[q9]at h;obtain⟨_,h⟩:=A8 (show(bif _ then _ else none)=some r from h);obtain⟨q1,q2⟩:=B4W E.U (w.alloc (.cells z.cells t)) nm zs z.cells.toList 0 (({g with wm:=C6 g.wm w.heap.size 0}:Gh).put nm (.slice (some ⟨w.heap.size,0,none⟩) 0 zs.length) 1) (by simp[e4]) (λi lf u hi hu=>by
    obtain⟨uu,u1,u2,u3,u4,u5⟩:=e5 i lf hi;rw[Gx,u1]at hu;cases hu;exact⟨u4 _,u5⟩)
   obtain⟨p1,p2⟩:=B2k E.U nm zs 0 (({g with wm:=C6 g.wm w.heap.size 0}:Gh).put nm (.slice (some ⟨w.heap.size,0,none⟩) 0 zs.length) 1);obtain⟨p3,p4⟩:=p2 nm (λj _=>by unfold bo;omega);have h4:=B61 hU nm zs 0 _ _ h2;have rc:BoxOk E.U (w.alloc (.cells z.cells t)) (A1H E.U nm 0 (({g with wm:=C6 g.wm w.heap.size 0}:Gh).put nm (.slice (some ⟨w.heap.size,0,none⟩) 0 zs.length) 1) zs) nm (A5y (Ey t E.U.bty) nm (A1I nm 0 zs)):=by
    refine BoxOk.ex w.heap.size (by rw[A9y,q1,p3];simp[Gh.put]) (by rw[A9y,q1];exact ce) (by rw[p4];simp[Gh.put]) λj lf hj=>?_;obtain⟨nQ,hj,uQ⟩:=B8h hj;have bC:j<zs.length:=by rw[<-q1];exact I0 hj
    obtain⟨u,u1,u2,u3,u4,_⟩:=e5 j _ (Fh bC);have hq:=q2 j nQ u hj (by rw[Gx];exact u1);refine⟨u,?_,u2,u3,B93 (b:=w.heap.size) (n:=zs.length) uQ hq (by rw[p3];simp[Gh.put]) bW⟩;unfold Fs;dsimp only;rw[bW];simpa using u1
   have h5:=h4.setBx rc (C4v _ _ _ _ aG);refine O5 ah (hn _ _ _ _ h ?_);rw[aZ]at hd ⊢;exact REL.setO h5 (e:=.one (.ptr nm 0)) ⟨.pt _ _ _,λ_ _ _ he=>by(cases he),λd' o2 he=>by(cases he;exact⟨w.heap.size,zs.length,by rw[p3];simp[Gh.put],.inl ⟨rfl,Ep⟩⟩)⟩ rfl (some i) hd
  |false=>
  rw[q9]at h;obtain⟨_,h⟩:=A8 (show(bif _ then _ else none)=some r from h);have h3:=h2.setBx cj aG;refine O5 ah (hn _ _ _ _ h ?_);rw[aZ]at hd ⊢;exact REL.setO h3 (e:=.one (.ptr nm 0)) ⟨.pt _ _ _,λ_ _ _ he=>by(cases he),λd' o2 he=>by(cases he;exact⟨w.heap.size,zs.length,by simp[Gh.put],.inl ⟨rfl,Ep⟩⟩)⟩ rfl (some i) hd
 ·cases h
def D40(hU:E.U.Ok){n:Nat}{l:Leaf Ty den}{ys:List (Leaf Ty den)}(h:cellsOf E n l.close=some ys){j:Nat}{lf:Leaf Ty den}(hj:ys[j]?=some lf):lf.close=lf:=by
 have bE:∀l0:Leaf Ty den,l0.close=l0->(bif A5F l0&&Ey n 1 then some [l0]else none)=some ys->lf.close=lf:=λl0 h0 h1=>by
  obtain⟨_,h9⟩:=A8 h1;cases h9;cases j with
  |zero=>simp at hj;subst hj;exact h0
  |succ j=>simp at hj
 cases l with
 |agg u y=>
  obtain⟨_,h9⟩:=A8 h;cases h9;exact hU.closed u y lf (Ha hj)
 |_=>first|exact bE _ rfl h|(simp[cellsOf,Leaf.close,A5F]at h)
include hU hZ in
def D4j{t:Ew}{x:Fb}(ai:o.op=.box t x)(h:A9 E o s k=some r)(hr:Rel E.U B g s a w)(hd:∀i,o.dst=some i->i<a.tmps.size/\B.np<=i)(hn:H6 E B o a k r next):o.wp P a w next Q:=by
 simp only[A9,ai]at h;split at h
 ·rename_i i zs aZ dx;obtain⟨ie,z,e1,e2,e3,e4,e5⟩:=hZ t zs dx;split at h
  ·rename_i ys oW;obtain⟨hc,h⟩:=A8 h;simp only[Fl,Ga]at hc;obtain⟨_,iO,ce⟩:=hc;have iO:=(F2 _ _).1 iO;have aN:=A36 hr t x;rw[oW]at aN;obtain⟨vs,hv,db,a8⟩:=aN;have oG:=db.length;have ah:(Fa a.eval o).run P w=.ok (.value (.pointer (some ⟨w.heap.size,0,none⟩))) (w.alloc (.cells vs.toArray t)):=by
    simp[Fa,ai,Kx,newVar,Gp,hv,Hn]
   have bW:(w.alloc (.cells vs.toArray t)).heap[w.heap.size]?=some (.cells vs.toArray t):=by
    have hp:(w.alloc (.cells vs.toArray t)).heap=w.heap.push (.cells vs.toArray t):=rfl;rw[hp];simp
   have h1:=hr.alloc hU (.cells vs.toArray t) 0 (w.alloc (.cells vs.toArray t)) rfl rfl rfl rfl;have bj:C6 g.wm w.heap.size 0 w.heap.size=0:=by simp[C6]
   have hx:Ext w g.wm (w.alloc (.cells vs.toArray t)) (C6 g.wm w.heap.size 0):=by
    refine⟨A1D rfl,λb off ho=>?_,λb=>?_⟩
    ·rcases Ft b w.heap.size with h2|h2
     ·refine Fq (a:=⟨b,off,none⟩) ?_;have hp:(w.alloc (.cells vs.toArray t)).heap=w.heap.push (.cells vs.toArray t):=rfl;rw[hp,Gf,Ek (by show¬b=w.heap.size;omega)]
     ·rw[hr.zero b h2]at ho;omega
    ·unfold C6;by_cases hb:b=w.heap.size
     ·subst hb;rw[El rfl,hr.zero _ (Fe _)];exact Fi _
     ·rw[Ek hb];exact Fe _
   generalize dD:C4 (some i)=nm at*;have h2:=h1.fresh hU nm (.slice (some ⟨w.heap.size,0,none⟩) 0 zs.length) 1
    ⟨_,0,zs.length,rfl,Fi _,.inr ⟨w.heap.size,0,vs.toArray,t,(0,0),rfl,bW,Es,by(show C6 g.wm w.heap.size 0 w.heap.size=_;rw[bj]),Fi _⟩⟩
    (λe b he aC hs eU=>by
     simp only[spare]at hs;rw[Ek Du]at hs;cases hs;have:=hr.tip e he;obtain⟨c,e',fz,hc⟩:=A4r this eU;have:=(Fv.1 hc).1;omega) (λb hs=>by
     simp only[spare]at hs;rw[Ek Du]at hs;cases hs;exact .inl hr.size)
   have aG:mem nm (s.fresh nm).live=true:=by simp only[St.fresh];rw[mem_cons];exact .inl rfl
   have cj:BoxOk E.U (w.alloc (.cells vs.toArray t)) (({g with wm:=C6 g.wm w.heap.size 0}:Gh).put nm (.slice (some ⟨w.heap.size,0,none⟩) 0 zs.length) 1) nm (A5y (Ey t E.U.bty) nm (ys.map (·.strip nm))):=by
    refine BoxOk.ex w.heap.size (by rw[A9y];simp[Gh.put,iO]) (by rw[A9y];simp;omega) (by simp[Gh.put]) λj lf hj=>?_;obtain⟨l1,jV,uR⟩:=B8h hj;rw[Fm]at jV;obtain⟨l0,cV,rfl⟩:=Gk.1 jV;obtain⟨u,u1,u2⟩:=db.get cV;obtain⟨k1,k2⟩:=a8 u (Ha u1);refine⟨u,?_,k1,k2,B93 (b:=w.heap.size) (n:=zs.length) uR (LRep.step (g:=g) hU (d:=nm) hx (by
     constructor
     ·intro e he;simp[Gh.put,he]
     ·intro e he;simp[Gh.put,he]) u2) (by simp[Gh.put]) bW⟩
    unfold Fs;dsimp only;rw[bW];simpa using u1
   have h3:=h2.setBx cj aG;refine O5 ah (hn _ _ _ _ h ?_);rw[aZ]at hd ⊢;exact REL.setO h3 (e:=.one (.ptr nm 0)) ⟨.pt _ _ _,λ_ _ _ he=>by(cases he),λd' o2 he=>by(cases he;exact⟨w.heap.size,zs.length,by simp[Gh.put],.inl ⟨rfl,Ep⟩⟩)⟩ rfl (some i) hd
  split at h
  ·rename_i ys nG;have bS:LRep E.U w g (opl E s t x).close (a.eval x):=LRep.closed (G2 hr t x).1;obtain⟨c1,c2,c3⟩:=B1K hU nG bS;have ah:(Fa a.eval o).run P w=.ok (.value (.pointer (some ⟨w.heap.size,0,none⟩))) (w.alloc (.cells (a.eval x).cells t)):=by
    simp[Fa,ai,Kx,newVar,Gp]
   have bW:(w.alloc (.cells (a.eval x).cells t)).heap[w.heap.size]?=some (.cells (a.eval x).cells t):=by
    have hp:(w.alloc (.cells (a.eval x).cells t)).heap=w.heap.push (.cells (a.eval x).cells t):=rfl;rw[hp];simp
   have aL:∀(j:Nat) u,(a.eval x).cells[j]?=some u->(w.alloc (.cells (a.eval x).cells t)).cell? ⟨w.heap.size,j,none⟩=some u:=λj u hj=>by
    unfold Fs;dsimp only;rw[bW];simpa using hj
   cases kq:E.mb i with
   |true=>
    rw[kq]at h;simp only[Eg]at h;obtain⟨ce,h⟩:=A8 h;have ce:0<zs.length:=by simpa [Ga]using ce
    have h1:=hr.alloc hU (.cells (a.eval x).cells t) 0 (w.alloc (.cells (a.eval x).cells t)) rfl rfl rfl rfl;have bj:C6 g.wm w.heap.size 0 w.heap.size=0:=by simp[C6]
    have hx:Ext w g.wm (w.alloc (.cells (a.eval x).cells t)) (C6 g.wm w.heap.size 0):=by
     refine⟨A1D rfl,λb off ho=>?_,λb=>?_⟩
     ·rcases Ft b w.heap.size with h2|h2
      ·refine Fq (a:=⟨b,off,none⟩) ?_;have hp:(w.alloc (.cells (a.eval x).cells t)).heap=w.heap.push (.cells (a.eval x).cells t):=rfl;rw[hp,Gf,Ek (by show¬b=w.heap.size;omega)]
      ·rw[hr.zero b h2]at ho;omega
     ·unfold C6;by_cases hb:b=w.heap.size
      ·subst hb;rw[El rfl,hr.zero _ (Fe _)];exact Fi _
      ·rw[Ek hb];exact Fe _
    generalize dD:C4 (some i)=nm at*;have h2:=h1.fresh hU nm (.slice (some ⟨w.heap.size,0,none⟩) 0 zs.length) 1
     ⟨_,0,zs.length,rfl,Fi _,.inr ⟨w.heap.size,0,(a.eval x).cells,t,(0,0),rfl,bW,Du,by(show C6 g.wm w.heap.size 0 w.heap.size=_;rw[bj]),Fi _⟩⟩
     (λe b he aC hs eU=>by
      simp only[spare]at hs;rw[Ek Du]at hs;cases hs;have:=hr.tip e he;obtain⟨c,e',fz,hc⟩:=A4r this eU;have:=(Fv.1 hc).1;omega) (λb hs=>by
      simp only[spare]at hs;rw[Ek Du]at hs;cases hs;exact .inl hr.size)
    have aG:mem nm (s.fresh nm).live=true:=by simp only[St.fresh];rw[mem_cons];exact .inl rfl
    have cj:BoxOk E.U (w.alloc (.cells (a.eval x).cells t)) (({g with wm:=C6 g.wm w.heap.size 0}:Gh).put nm (.slice (some ⟨w.heap.size,0,none⟩) 0 zs.length) 1) nm ys:=by
     refine BoxOk.ex w.heap.size (by simp[Gh.put,c2]) Du (by simp[Gh.put]) λj lf hj=>?_;obtain⟨u,u1,u2,u3,u4⟩:=c3 j lf hj;have eX:lf.close=lf:=D40 hU nG hj;refine⟨u,aL j u u1,u2,u3,?_⟩;have:=LRep.closed (U:=E.U) (w:=w.alloc (.cells (a.eval x).cells t)) (g:=(({g with wm:=C6 g.wm w.heap.size 0}:Gh).put nm (.slice (some ⟨w.heap.size,0,none⟩) 0 zs.length) 1)) (lf:=lf) (v:=u) (u4.1.mono hU hx);rw[eX]at this;exact this
    have h3:=h2.setBx cj aG;refine O5 ah (hn _ _ _ _ h ?_);rw[aZ]at hd ⊢;exact REL.setO h3 (e:=.one (.ptr nm 0)) ⟨.pt _ _ _,λ_ _ _ he=>by(cases he),λd' o2 he=>by(cases he;exact⟨w.heap.size,zs.length,by simp[Gh.put],.inl ⟨rfl,Ep⟩⟩)⟩ rfl (some i) hd
   |false=>
    rw[kq]at h;simp only[Eh]at h;split at h
    ·rename_i u y Az;obtain⟨az,h⟩:=A8 h;have az:=(F2 _ _).1 az;rw[Az]at nG;obtain⟨_,h9⟩:=A8 (show(bif Ey (E.U.size u) zs.length then some (E.U.cells u y)else none)=some ys from nG);cases h9;have h1:=hr.alloc hU (.cells (a.eval x).cells t) (E.U.size u) (w.alloc (.cells (a.eval x).cells t)) rfl rfl rfl rfl;have hx:Ext w g.wm (w.alloc (.cells (a.eval x).cells t)) (C6 g.wm w.heap.size (E.U.size u)):=by
      refine⟨A1D rfl,λb off ho=>?_,λb=>?_⟩
      ·rcases Ft b w.heap.size with h2|h2
       ·refine Fq (a:=⟨b,off,none⟩) ?_;have hp:(w.alloc (.cells (a.eval x).cells t)).heap=w.heap.push (.cells (a.eval x).cells t):=rfl;rw[hp,Gf,Ek (by show¬b=w.heap.size;omega)]
       ·rw[hr.zero b h2]at ho;omega
      ·unfold C6;by_cases hb:b=w.heap.size
       ·subst hb;rw[El rfl,hr.zero _ (Fe _)];exact Fi _
       ·rw[Ek hb];exact Fe _
     refine O5 ah (hn _ _ _ _ h ?_);refine REL.setO h1 (e:=.one (.elem u y 0)) ⟨?_,λ_ _ _ he=>by(cases he),λ_ _ he=>by(cases he)⟩ rfl _ hd;refine CRep.elem (U:=E.U) u y 0 w.heap.size 0 (λj=>((a.eval x).cells[j]?).getD undef) (by simp[C6]) (λj lf hj=>?_) (λj lf hj=>?_)
     ·obtain⟨uu,u1,_,_,u4⟩:=c3 j lf hj;rw[Iz];show _=some (((a.eval x).cells[j]?).getD undef);rw[u1];exact aL j uu u1
     ·obtain⟨uu,u1,_,_,u4⟩:=c3 j lf hj;show CRep _ _ _ lf (((a.eval x).cells[j]?).getD undef);rw[u1];exact u4.1.mono hU hx
    ·cases h
  ·cases h
 ·cases h
def D2d{x:Fb}(ai:o.op=.nilCheck x)(h:A9 E o s k=some r)(hr:Rel E.U B g s a w)(hd:∀i,o.dst=some i->i<a.tmps.size/\B.np<=i)(hn:H6 E B o a k r next):o.wp P a w next Q:=by
 simp only[A9,ai]at h;have bS:=G2 hr 0 x;split at h
 ·rename_i u y off hx;rw[hx]at bS;generalize hv:a.eval x=v at bS;have hc:=bS.1;cases hc with
  |elem _ _ _ b o' cs bj aL ax=>
   exact G6 (e:=.one (.elem u y off)) (v:=.pointer (some ⟨b,o'+off,none⟩)) hr hd hn h bS rfl (by simp[Fa,ai,hv])
 ·rename_i d off hx;rw[hx]at bS;obtain⟨b,m,hG,hv⟩:=bS.2.2 d off rfl;obtain⟨bJ,h⟩:=A8 h;have hv:=hv.at bJ;exact G6 (e:=.one (.ptr d off)) hr hd hn h bS rfl (by simp[Fa,ai,hv])
 ·cases h
include hU hZ in
def C2B{t:Ew}{x y:Fb}(ai:o.op=.store t x y)(h:A9 E o s k=some r)(hr:Rel E.U B g s a w)(hd:∀i,o.dst=some i->i<a.tmps.size/\B.np<=i)(hn:H6 E B o a k r next):o.wp P a w next Q:=by
 simp only[A9,ai]at h;split at h
 ·rename_i d off n oX hx dX;have da:∀(ls ys:List (Leaf Ty den)),L8 s d=some ls->((a.eval y).cells.size=n/\ys.length=n/\∀(j:Nat) y0,ys[j]?=some y0->∃u,(a.eval y).cells[j]?=some u/\u.oneCell'=true/\u.cells= #[u]/\LRep E.U w g y0 u)->off+n<=ls.length->Ez off 1000000=true->k (.one .any) (s.set (bxi d) (.bx d (T5 ls off ys)))=some r->o.wp P a w next Q:=by
   intro ls ys bD AA bh bJ h;obtain⟨zs,dx,AB⟩:∃zs,E.zr t=some zs/\zs.length=n:=by
    unfold tyN at dX;split at dX
    ·rename_i zs dx;exact⟨zs,dx,Fz dX⟩
    ·cases dX
   obtain⟨ie,z,e1,e2,e3,e4,e5⟩:=hZ t zs dx;have bS:=G2 hr 0 x;rw[hx]at bS;obtain⟨cj,aG,AC⟩:=A1T hr bD;obtain⟨b,nb,hG,hv,ce,cX,aQ⟩:=A4v bJ bS cj;obtain⟨c1,c2,c3⟩:=AA;have bm:spare (g.G d)=some b:=by rw[hG];simp only[spare];rw[Ek Du]
   obtain⟨a0,len,cap,ef,_,fC⟩:=hr.tip d aG;rw[hG]at ef;cases ef;obtain⟨b',jW,c,e,fz,ha,hb,r1,r2,r3⟩:=fC.resolve_left Du;cases ha;rw[cX]at r1 r2;have bj:g.wm b=0:=by rw[r2]
   obtain⟨s1,⟨c',s2,s3,s4,s5⟩,s6,s7,s8,s9,jA⟩:=A3O P b e fz (a.eval y).cells.toList off w c hb (by simp[c1];omega) (λj _ h2=>Du) (λv dt=>by
    obtain⟨j,hj,rfl⟩:=If dt;have nH:j<ys.length:=by simp at hj;omega
    obtain⟨u,u1,u2,_⟩:=c3 j _ (Fh nH);have:(a.eval y).cells.toList[j]=u:=by
     have h5:(a.eval y).cells.toList[j]?=some u:=by simpa using u1
     rw[Fh hj]at h5;exact Fz h5
    rw[this];exact u2)
   have cU:=s1 ⟨b,off,none⟩ 0 rfl (Fi _);obtain⟨bZ,yk⟩:=(hr.noBx d).poke hU (d:=d) (b:=b) aG bm (λi l hc=>by
    rw[G8]at hc;by_cases hi:bxi d=i
    ·rw[El hi]at hc;cases hc
    ·rw[Ek hi]at hc;exact hi (hr.bxl i d l hc).2.symm) bj (w':=D5 w b off (a.eval y).cells.toList) hb s2 s3 s8 s9 jA s6 s7
   obtain⟨m1,m2⟩:=B0Y ls off ys Du;have bW:BoxOk E.U (D5 w b off (a.eval y).cells.toList) g d (T5 ls off ys):=by
    refine⟨b,nb,hG,by rw[m1];exact ce,cX,λj lf hj=>?_⟩;rw[m2,c2]at hj;by_cases cS:off<=j/\j<off+n
    ·rw[El cS]at hj;obtain⟨u,u1,u2,u3,u4⟩:=c3 _ _ hj;refine⟨u,?_,u2,u3,u4.same hU yk rfl rfl⟩;have:=s5 (j - off) u (by simpa using u1);rw[show off+(j - off)=j from Du]at this;simp[Fs,s2,this]
    ·rw[Ek cS]at hj;obtain⟨u,u1,u2,u3,u4⟩:=aQ j lf hj;refine⟨u,?_,u2,u3,u4.same hU yk rfl rfl⟩;have h6:=s4 j (by simp[c1];omega);simp only[Fs,hb]at u1;simp only[Fs,s2,h6];exact u1
   have h3:=bZ.setBx bW aG;have cb:∀i,((s.set (bxi d) (.one .any)).set (bxi d) (.bx d (T5 ls off ys))).get i=(s.set (bxi d) (.bx d (T5 ls off ys))).get i:=λi=>by
    rw[G8,G8,G8];by_cases hi:bxi d=i
    ·rw[El hi,El hi]
    ·rw[Ek hi,Ek hi,Ek hi]
   have h4:Rel E.U B g (s.set (bxi d) (.bx d (T5 ls off ys))) a (D5 w b off (a.eval y).cells.toList):=h3.weaken (λi=>.inr (cb i).symm) (λ_ hd=>hd) (λ_ _ _ _ hd=>hd);have az:(Ge t).run P w=.ok n w:=by simp[Ge,Fp,e1,e2,AB]
   have ah:(Fa a.eval o).run P w=.ok .skip (D5 w b off (a.eval y).cells.toList):=by
    simp[Fa,ai,hv,Instr.storeAt,Hb,storeVar,az,c1,cU]
   unfold Ix;rw[ah,Oper.upon_skip];have:=hn (.one .any) _ undef _ h (by rw[oX];exact⟨g,h4⟩);rw[oX]at this ⊢;exact this
  split at h
  ·rename_i ys oW;have aN:=A36 hr t y;rw[oW]at aN;obtain⟨vs,hv,db,a8⟩:=aN;have oG:=db.length;split at h
   ·rename_i ls bD;obtain⟨hc,h⟩:=A8 h;simp only[Fl]at hc;have AD:=(F2 _ _).1 hc.1;refine da ls ys bD ⟨by rw[hv];simp[Hn];omega,AD,λj y0 hj=>?_⟩ (Hp hc.2.1) hc.2.2 h;obtain⟨u,u1,u2⟩:=db.get hj;obtain⟨k1,k2⟩:=a8 u (Ha u1);exact⟨u,by rw[hv];simpa [Hn]using u1,k1,k2,u2⟩
   ·cases h
  ·split at h
   ·rename_i ls ys bD nG;obtain⟨bh,h⟩:=A8 h;rw[Fl]at bh;exact da ls ys bD (B1K hU nG (G2 hr t y)) (Hp bh.1) bh.2 h
   ·cases h
 ·cases h
end
end Go.Aev
end
section
open Go.Lib
namespace Go.Aev
variable {Ty:Type}{den:Ty->Type}
def E8:Nat->St Ty den->List Fx->List (Nat×Nat)
 |_,_,[]=>[]
 |j,s,.tmp t::r=>match s.get t with
  | .one (.sl _ _ (some d))=>bif mem d s.live then(bif Ey d 0 then 0 else j+1,d)::E8 (j+1) (s.kill d) r else E8 (j+1) (s.kill d) r
  |_=>E8 (j+1) s r
 |j,s,.cell _ _::r=>E8 (j+1) s r
def A3C{s:St Ty den}{d e:Nat}:mem e (s.kill d).live=true↔mem e s.live=true/\e≠d:=O7 d e s.live
def A86:∀(rs:List Fx)(j:Nat)(s:St Ty den),
  (∀c d,(c,d)∈E8 j s rs->mem d s.live=true/\((c=0/\d=0)\/(j+1<=c/\d≠0)))/\
  (∀c d c' d',(c,d)∈E8 j s rs->(c',d')∈E8 j s rs->(c=c'↔d=d'))
 |[],j,s=>⟨λc d h=>by simp[E8]at h,λc d c' d' h=>by simp[E8]at h⟩
 | .cell _ _::r,j,s=>by
  obtain⟨h1,h2⟩:=A86 r (j+1) s;simp only[E8];exact⟨λc d h=>by obtain⟨k1,k2⟩:=h1 c d h;exact⟨k1,k2.imp id λk3=>⟨Du,k3.2⟩⟩,h2⟩
 | .tmp t::r,j,s=>by
  have skip:∀(s':St Ty den),(∀e,mem e s'.live=true->mem e s.live=true)->E8 j s (.tmp t::r)=E8 (j+1) s' r->
    (∀c d,(c,d)∈E8 j s (.tmp t::r)->mem d s.live=true/\((c=0/\d=0)\/(j+1<=c/\d≠0)))/\(∀c d c' d',(c,d)∈E8 j s (.tmp t::r)->(c',d')∈E8 j s (.tmp t::r)->(c=c'↔d=d')):=by
   intro s' hl he;obtain⟨h1,h2⟩:=A86 r (j+1) s';rw[he];exact⟨λc d h=>by obtain⟨k1,k2⟩:=h1 c d h;exact⟨hl d k1,k2.imp id λk3=>⟨Du,k3.2⟩⟩,h2⟩
  cases hg:s.get t with
  |one l=>
   cases l with
   |sl t0 x o=>
    cases o with
    |none=>exact skip s (λ_ h=>h) (by simp only[E8,hg])
    |some d=>
     cases hm:mem d s.live with
     |false=>exact skip (s.kill d) (λ_ h=>(A3C.1 h).1) (by simp only[E8,hg,hm,Eh])
     |true=>
      obtain⟨h1,h2⟩:=A86 r (j+1) (s.kill d);have he:E8 j s (.tmp t::r)=(bif Ey d 0 then 0 else j+1,d)::E8 (j+1) (s.kill d) r:=by simp only[E8,hg,hm,Eg]
      rw[he];have hc:((bif Ey d 0 then 0 else j+1)=0/\d=0)\/(j+1<=(bif Ey d 0 then 0 else j+1)/\d≠0):=by
       by_cases h0:d=0
       ·subst h0;left;exact⟨by simp[H5],rfl⟩
       ·right;rw[K4 h0];exact⟨Eo,h0⟩
      have nR:∀c' d',(c',d')∈E8 (j+1) (s.kill d) r->(bif Ey d 0 then 0 else j+1)≠c'/\d≠d':=by
       intro c' d' h';obtain⟨k1,k2⟩:=h1 c' d' h';have k3:=(A3C.1 k1).2;refine⟨?_,Fo k3⟩;rcases hc with⟨e1,e2⟩|⟨e1,e2⟩
       ·rw[e1];rcases k2 with⟨f1,f2⟩|⟨f1,f2⟩
        ·exact absurd (f2.trans e2.symm) k3
        ·omega
       ·have e3:(bif Ey d 0 then 0 else j+1)=j+1:=by rw[K4 e2];rfl
        rw[e3];rcases k2 with⟨f1,f2⟩|⟨f1,f2⟩
        ·omega
        ·omega
      refine⟨λc d' h=>?_,λc d1 c' d2 h h'=>?_⟩
      ·simp only[Hq,Ho]at h;rcases h with⟨rfl,rfl⟩|h
       ·exact⟨hm,hc⟩
       ·obtain⟨k1,k2⟩:=h1 c d' h;exact⟨(A3C.1 k1).1,k2.imp id λk3=>⟨Du,k3.2⟩⟩
      ·simp only[Hq,Ho]at h h';rcases h with⟨rfl,rfl⟩|h
       ·rcases h' with⟨rfl,rfl⟩|h'
        ·simp
        ·obtain⟨k1,k2⟩:=nR c' d2 h';exact⟨λe=>absurd e k1,λe=>absurd e k2⟩
       ·rcases h' with⟨rfl,rfl⟩|h'
        ·obtain⟨k1,k2⟩:=nR c d1 h;exact⟨λe=>absurd e.symm k1,λe=>absurd e.symm k2⟩
        ·exact h2 c d1 c' d2 h h'
   |_=>exact skip s (λ_ h=>h) (by simp only[E8,hg])
  |tup ls=>exact skip s (λ_ h=>h) (by simp only[E8,hg])
  |st ls=>exact skip s (λ_ h=>h) (by simp only[E8,hg])
  |iter c p=>exact skip s (λ_ h=>h) (by simp only[E8,hg])
  |bx d' ls=>exact skip s (λ_ h=>h) (by simp only[E8,hg])
section
variable {U:UO Ty den}{B:Bs}{g:Gh}{s:St Ty den}{a:Act}{w:World}
def PackRep(U:UO Ty den)(w:World)(g:Gh)(N:List (Nat×Nat)):List (Leaf Ty den)->Ea->Prop
 |[],[]=>True
 |l::ls,v::vs=>(CRep U w g.wm l v/\(∀t x c,l=.sl t x (some c)->∃d,(c,d)∈N/\v=g.G d/\U.size t=g.Gs d/\TyB U w t v)/\∀c o,l=.ptr c o->∃d b n,(c,d)∈N/\g.G d=.slice (some ⟨b,0,none⟩) 0 n/\PtrAt U w b n o v)/\PackRep U w g N ls vs
 |_,_=>False
def PackRep.mono{N N':List (Nat×Nat)}(h:∀p∈N,p∈N'):∀{ls:List (Leaf Ty den)}{vs:Ea},PackRep U w g N ls vs->PackRep U w g N' ls vs
 |[],[],_=>trivial
 |_::_,_::_,hp=>⟨⟨hp.1.1,λt x c he=>by(obtain⟨d,h1,h2⟩:=hp.1.2.1 t x c he;exact⟨d,h _ h1,h2⟩),λc o he=>by(obtain⟨d,b,n,h1,h2⟩:=hp.1.2.2 c o he;exact⟨d,b,n,h _ h1,h2⟩)⟩,PackRep.mono h hp.2⟩
 |[],_::_,hp=>hp.elim
 |_::_,[],hp=>hp.elim
def PackRep.append{N:List (Nat×Nat)}:∀{ls bY:List (Leaf Ty den)}{vs p8:Ea},PackRep U w g N ls vs->PackRep U w g N bY p8->PackRep U w g N (ls++bY) (vs++p8)
 |[],_,[],_,_,h=>h
 |_::_,_,_::_,_,hp,h=>⟨hp.1,PackRep.append hp.2 h⟩
 |[],_,_::_,_,hp,_=>hp.elim
 |_::_,_,[],_,hp,_=>hp.elim
structure B5m(a:Act)(f:Fx->Sem Value):Prop where
 tmp:∀t,f (.tmp t)=pure (a.tmps.getD t undef)
 cell:∀t ty,f (.cell t ty)=do Gg ty (<-asAddr (a.tmps.getD t undef))
def A4j(U:UO Ty den):Prop:=∀t ls x,U.dcx t ls=some x->ls.length=U.size t/\∀(w:World)(wm:Nat->Nat)(cs:Nat->Value),(∀(j:Nat) lf,ls[j]?=some lf->CRep U w wm lf (cs j))->∀(j:Nat) lf,(U.cells t x)[j]?=some lf->CRep U w wm lf (cs j)
def C3i{U:UO Ty den}(hU:U.Ok)(hX:A4j U){u:Ty}:∀{n:Nat}{ls:List (Leaf Ty den)}{l:List (den u)},A8o U u n ls=some l->l.length=n/\∀(w:World)(wm:Nat->Nat)(cs:Nat->Value),(∀(j:Nat) lf,ls[j]?=some lf->CRep U w wm lf (cs j))->∀(j:Nat) lf,(flat U u l)[j]?=some lf->CRep U w wm lf (cs j)
 |0,ls,l,h=>by
  simp only[A8o,Ff]at h;subst h;exact⟨rfl,λ_ _ _ _ j lf hj=>by simp[flat]at hj⟩
 |n+1,ls,l,h=>by
  simp only[A8o]at h;split at h
  ·rename_i x r hx hr;cases h;obtain⟨h1,h2⟩:=hX u _ x hx;obtain⟨h3,h4⟩:=C3i hU hX hr;refine⟨by simp[h3],λw wm cs hc j lf hj=>?_⟩;have av:=hU.len u x;rw[show flat U u (x::r)=U.cells u x++flat U u r from rfl]at hj;by_cases bC:j<U.size u
   ·rw[Gm Du]at hj;exact h2 w wm cs (λi lf' hi=>by
     rw[Hi]at hi;split at hi
     ·exact hc i lf' hi
     ·cases hi) j lf hj
   ·rw[Gu Du,av]at hj;have:=h4 w wm (λi=>cs (U.size u+i)) (λi lf' hi=>hc _ lf' (by rw[Hk]at hi;exact hi)) (j - U.size u) lf hj;rw[show U.size u+(j - U.size u)=j from Du]at this;exact this
  ·cases h
def C8A{E:Env Ty den}{P:Fg}(hT:∀t,Q6 P E.U t (E.tb t))(hU:E.U.Ok)(hX:A4j E.U)(hr:Rel E.U B g s a w){ty:Ew}{l l':Leaf Ty den}{v:Value}(hx:LRep E.U w g l v)(h:B53 E s ty l=some l'):
  ∃ad v',v=.pointer (some ad)/\(Gg ty ad).run P w=.ok v' w/\CRep E.U w g.wm l' v'/\∃u z,l'=.agg u z:=by
 unfold B53 at h;split at h
 ·rename_i u pl d off ht;obtain⟨fs,ie,z0,h1,_,h3,h4,_⟩:=A3m hT ht;have ij:=B39 (P:=P) h1 w;split at h
  ·rename_i ls bD;obtain⟨bJ,h⟩:=A8 h;obtain⟨cj,_,_⟩:=A1T hr bD;obtain⟨b,nb,hG,hv,ce,cX,aQ⟩:=A4v bJ hx cj;have da:∀(u':Ty)(z:den u'),E.U.size u'=E.U.size u->(F6 ((ls.drop off).take (E.U.size u))).length=E.U.size u->
     (∀cs:Nat->Value,(∀(j:Nat) lf,(F6 ((ls.drop off).take (E.U.size u)))[j]?=some lf->CRep E.U w g.wm lf (cs j))->∀(j:Nat) lf,(E.U.cells u' z)[j]?=some lf->CRep E.U w g.wm lf (cs j))->
     ∃ad v',v=.pointer (some ad)/\(Gg ty ad).run P w=.ok v' w/\CRep E.U w g.wm (.agg u' z) v':=λu' z az uc fb=>by
    have aO:∀(j:Nat) lf,(F6 ((ls.drop off).take (E.U.size u)))[j]?=some lf->∃l0,ls[off+j]?=some l0/\lf=l0.close:=λj lf hj=>by
     rw[B1w,Hi,Hk]at hj;split at hj
     ·obtain⟨l0,h5,rfl⟩:=Gk.1 hj;exact⟨l0,h5,rfl⟩
     ·cases hj
    have cE:∀(j:Nat) lf,(F6 ((ls.drop off).take (E.U.size u)))[j]?=some lf->w.cell? ⟨b,off+j,none⟩=some ((w.cell? ⟨b,off+j,none⟩).getD undef)/\CRep E.U w g.wm lf ((w.cell? ⟨b,off+j,none⟩).getD undef):=λj lf hj=>by
     obtain⟨l0,h5,rfl⟩:=aO j lf hj;obtain⟨uu,u1,_,_,u4⟩:=aQ _ _ h5;rw[u1];exact⟨rfl,u4.1.close⟩
    have cZ:(Gq ⟨b,off,none⟩ (E.U.size u)).run P w=.ok ((Gb (E.U.size u)).map λj=>(w.cell? ⟨b,off+j,none⟩).getD undef).toArray w:=
     Ir w _ _ _ λj hj=>by rw[Gj];exact(cE j _ (Fh Du)).1
    refine⟨_,.agg ((Gb (E.U.size u)).map λj=>(w.cell? ⟨b,off+j,none⟩).getD undef).toArray,hv,by simp[Gg,ij,Ge,Fp,h3,h4,cZ],.agg u' z _ (by simp[az]) _ (λj lf hj=>?_) (fb _ λj lf hj=>(cE j lf hj).2)⟩;have bC:=I0 hj;rw[hU.len,az]at bC;rw[Fm,Hj bC];rfl
   split at h
   ·rename_i u' _;obtain⟨hs,h⟩:=A8 h;have hs:=(F2 _ _).1 hs;obtain⟨z,hz,rfl⟩:=Gk.1 h;obtain⟨q1,q2⟩:=hX u' _ z hz;obtain⟨ad,v',e1,e2,e3⟩:=da u' z hs (by rw[q1,hs]) (q2 w g.wm);exact⟨ad,v',e1,e2,e3,u',z,rfl⟩
   ·obtain⟨z,hz,rfl⟩:=Gk.1 h;have tZ:=hU.dec _ _ _ hz;obtain⟨ad,v',e1,e2,e3⟩:=da u z rfl (by rw[<-tZ,hU.len]) (λcs hc=>by rw[tZ];exact hc);exact⟨ad,v',e1,e2,e3,u,z,rfl⟩
  ·cases h
 ·cases h
def C7i(E:Env Ty den)(d:Nat)(ls:List (Leaf Ty den))(fr:List (Nat×Ent Ty den))(i:Nat):look (A6n E d ls fr) i=A4n E d ls (look fr i):=by
 induction fr with
 |nil=>rfl
 |cons p r ih=>
  simp only[A6n,look];cases Ey p.1 i with
  |true=>rfl
  |false=>exact ih
def C7Q{E:Env Ty den}(hU:E.U.Ok)(hX:A4j E.U)(hr:Rel E.U B g s a w){d:Nat}{ls:List (Leaf Ty den)}(bD:L8 s d=some ls):∃g',Rel E.U B g' {fr:=A6n E d ls s.fr,live:=rem d s.live} a w:=by
 obtain⟨cj,aG,aO⟩:=A1T hr bD;obtain⟨b,n,hG,⟨cV,uc,_⟩,cX,aQ⟩:=cj;have bm:spare (g.G d)=some b:=by rw[hG];simp only[spare];rw[Ek Du]
 obtain⟨a0,len,cap,ef,_,fC⟩:=hr.tip d aG;rw[hG]at ef;cases ef;obtain⟨b',jW,c,e2,fz,ha,hb,r1,r2,r3⟩:=fC.resolve_left Du;cases ha;rw[cX]at r1 r2;have bj:g.wm b=0:=by rw[r2]
 have qM:=(Fv.1 hb).1;have aC:∀k,k≠b->C6 g.wm b ls.length k=g.wm k:=λk hk=>by simp only[C6];rw[Ek hk]
 have hx:Ext w g.wm w (C6 g.wm b ls.length):=⟨A6Z rfl,λ_ _ _=>rfl,λk=>by
  by_cases hk:k=b
  ·subst hk;rw[bj];exact Fi _
  ·rw[aC k hk];exact Fe _⟩
 have uS:g.off {g with wm:=C6 g.wm b ls.length} d:=⟨λ_ _=>rfl,λ_ _=>rfl⟩;have kV:∀{lf:Leaf Ty den}{v:Value},LRep E.U w g lf v->LRep E.U w {g with wm:=C6 g.wm b ls.length} (A5s E d ls lf) v:=by
  intro lf v h;have cU:=LRep.step hU (g':={g with wm:=C6 g.wm b ls.length}) hx uS h;have ir:LRep E.U w {g with wm:=C6 g.wm b ls.length} .any v:=LRep.any v;cases lf with
  |ptr e off=>
   simp only[A5s];by_cases he:e=d
   ·subst he;rw[H5];simp only[Eg];rw[show Fj 1000000000 off=isR (.ptr 0 off:Leaf Ty den)from rfl];cases ho:isR (.ptr 0 off:Leaf Ty den)with
    |false=>exact ir
    |true=>
     simp only[Eg];split
     ·rename_i u hu;cases hg:Ey (E.U.size u) (rS off)&&Fj (rN off*rS off) ls.length with
      |false=>exact ir
      |true=>
       simp only[Eg];split
       ·rename_i l hl;rw[Fl]at hg;have hs:=(F2 _ _).1 hg.1;have bh:=Hp hg.2;obtain⟨b2,n2,h1,h2⟩:=h.2.2 e off rfl;rw[hG]at h1;cases h1;obtain⟨c2,rfl,fL,eT⟩:=h2.row (Hp ho);obtain⟨k1,k2⟩:=C3i hU hX hl;rw[<-k1]at fL bh ⊢;have cE:∀(j:Nat) lf,(F6 ls)[j]?=some lf->CRep E.U w (C6 g.wm b ls.length) lf ((w.cell? ⟨b,j,none⟩).getD undef):=λj lf hj=>by
         rw[B1w]at hj;obtain⟨l0,h5,rfl⟩:=Gk.1 hj;obtain⟨uu,u1,_,_,u4⟩:=aQ j l0 h5;rw[u1];exact u4.1.close.mono hU hx
        have dv:=A1r hU u l;refine⟨.sl u l none b 0 c2 (λj=>(w.cell? ⟨b,j,none⟩).getD undef) fL (by show _<=C6 g.wm b ls.length b;simp only[C6,El];rw[hs];omega) (λj lf hj=>?_) (k2 w _ _ cE),λ_ _ _ he=>by(cases he),λ_ _ he=>by(cases he)⟩;have bC:=I0 hj;rw[dv,hs]at bC;obtain⟨uu,u1,_⟩:=aQ j _ (Fh Du);rw[Iz,u1];rfl
       ·exact ir
     ·exact ir
   ·rw[K4 he];simp only[Leaf.strip,K4 he]at cU;exact cU
  |_=>exact cU
 have re:∀{xs:List (Leaf Ty den)}{vs:Ea},LsRep E.U w g xs vs->LsRep E.U w {g with wm:=C6 g.wm b ls.length} (xs.map (A5s E d ls)) vs:=by
  intro xs
  induction xs with
  |nil=>
   intro vs h;cases vs with
   |nil=>trivial
   |cons v vs=>exact h.elim
  |cons x xs ih=>
   intro vs h;cases vs with
   |nil=>exact h.elim
   |cons v vs=>exact⟨kV h.1,ih h.2⟩
 have ed:∀i,({fr:=A6n E d ls s.fr,live:=rem d s.live}:St Ty den).get i=A4n E d ls (s.get i):=λi=>C7i E d ls s.fr i;have uT:∀e,mem e s.live=true->e≠d->spare (g.G e)≠some b:=λe he gY h=>hr.disj e d b he aG gY h bm;refine⟨{g with wm:=C6 g.wm b ls.length},{hr with frame:=λk hk hM=>?_,ext:=hr.ext.trans hx,zero:=λk hk=>?_,ent:=λi=>?_,tip:=λe he=>?_,disj:=λe f k he hf=>hr.disj e f k ((O7 d e _).1 he).1 ((O7 d f _).1 hf).1,mine:=λe k he=>hr.mine e k ((O7 d e _).1 he).1,iter:=λi c pos hc=>?_,idis:=λi j c p c' p' cG h1 h2=>?_,bxl:=λi e xs hc=>?_}⟩
 ·have AE:k≠b:=λh=>by
   subst h;rcases hr.mine d k aG bm with h|h
   ·omega
   ·exact hM h
  have:=hr.frame k hk hM;exact⟨this.1,(aC k AE).trans this.2⟩
 ·exact(aC k Du).trans (hr.zero k hk)
 ·rw[ed];have he:=hr.ent i;cases hc:s.get i with
  |one l=>rw[hc]at he;exact kV he
  |tup xs=>rw[hc]at he;obtain⟨vs,h1,h2⟩:=he;exact⟨vs,h1,re h2⟩
  |st xs=>rw[hc]at he;obtain⟨vs,h1,h2,h3⟩:=he;exact⟨vs,h1,re h2,h3⟩
  |iter c p=>rw[hc]at he;exact he
  |bx e xs=>
   rw[hc]at he;simp only[A4n];by_cases gY:e=d
   ·subst gY;rw[H5];exact ERep.any _ _ _
   ·rw[K4 gY];obtain⟨b1,n1,k1,k2,k3,k4⟩:=he;refine⟨b1,n1,k1,by simpa using k2,k3,λj lf hj=>?_⟩;rw[Fm]at hj;obtain⟨l0,cV,rfl⟩:=Gk.1 hj;obtain⟨u,u1,u2,u3,u4⟩:=k4 j l0 cV;exact⟨u,u1,u2,u3,kV u4⟩
 ·obtain⟨h1,h2⟩:=(O7 d e _).1 he;obtain⟨a1,l1,c1,hv,bh,fC⟩:=hr.tip e h1;refine⟨a1,l1,c1,hv,bh,?_⟩;by_cases fM:c1=0
  ·exact .inl fM
  obtain⟨b1,o1,c3,e3,ue,ha,mL,q1,q2,q3⟩:=fC.resolve_left fM;have rf:b1≠b:=λh=>uT e h1 h2 (by rw[hv,ha];simp[spare,fM,h]);exact .inr ⟨b1,o1,c3,e3,ue,ha,mL,q1,(aC b1 rf).trans q2,by show ue.2<=C6 g.wm b ls.length b1;rw[aC b1 rf];exact q3⟩
 ·rw[ed]at hc;refine hr.iter i c pos ?_;cases hs:s.get i with
  |iter c' p'=>rw[hs]at hc;exact hc
  |bx e xs=>rw[hs]at hc;simp only[A4n]at hc;cases hb:Ey e d<;>rw[hb]at hc<;>cases hc
  |_=>rw[hs]at hc;cases hc
 ·have bE:∀{i c p},A4n E d ls (s.get i)=.iter c p->s.get i=.iter c p:=λ{i c p} hc=>by
   cases hs:s.get i with
   |iter c' p'=>rw[hs]at hc;exact hc
   |bx e xs=>rw[hs]at hc;simp only[A4n]at hc;cases hb:Ey e d<;>rw[hb]at hc<;>cases hc
   |_=>rw[hs]at hc;cases hc
  rw[ed]at h1 h2;exact hr.idis i j c p c' p' cG (bE h1) (bE h2)
 ·rw[ed]at hc;cases hs:s.get i with
  |bx e' kL=>
   rw[hs]at hc;simp only[A4n]at hc;by_cases gY:e'=d
   ·subst gY;rw[H5]at hc;cases hc
   ·rw[K4 gY]at hc;cases hc;obtain⟨h1,h2⟩:=hr.bxl i _ kL hs;exact⟨(O7 d _ _).2 ⟨h1,gY⟩,h2⟩
  |_=>rw[hs]at hc;cases hc
def B7w{E:Env Ty den}(hU:E.U.Ok)(hX:A4j E.U):∀(ds:DX)(s:St Ty den)(g:Gh),Rel E.U B g s a w->∃g',Rel E.U B g' (A7J E ds s) a w
 |[],s,g,hr=>⟨g,hr⟩
 |d::ds,s,g,hr=>by
  simp only[A7J];split
  ·rename_i ls bD;obtain⟨g',h⟩:=C7Q hU hX hr bD;exact B7w hU hX ds _ g' h
  ·exact B7w hU hX ds s g hr
def B0r{E:Env Ty den}{P:Fg}(hT:∀t,Q6 P E.U t (E.tb t))(hU:E.U.Ok)(hX:A4j E.U):∀(rs:List Fx)(j:Nat)(s:St Ty den)(ls:List (Leaf Ty den)),A0g E j s rs=some ls->Rel E.U B g s a w->
  ∃vs,PackRep E.U w g (E8 j s rs) ls vs/\(∀f,B5m a f->(rs.mapM f).run P w=.ok vs w)/\Rel E.U B g (K7 s rs) a w
 |[],j,s,ls,h,hr=>by
  simp only[A0g,Ff]at h;subst h;exact⟨[],trivial,λf _=>rfl,hr⟩
 | .cell t ty::r,j,s,ls,h,hr=>by
  simp only[A0g]at h;split at h
  ·rename_i l hg;split at h
   ·rename_i l' bY jC uU;cases h;have aN:=hr.ent t;rw[hg]at aN;obtain⟨ad,v',e1,e2,e3,u,z,rfl⟩:=C8A (P:=P) hT hU hX hr aN jC;obtain⟨vs,h1,h2,h3⟩:=B0r hT hU hX r (j+1) s bY uU hr;refine⟨v'::vs,⟨⟨e3,λ_ _ _ he=>by(cases he),λ_ _ he=>by(cases he)⟩,h1⟩,λf hf=>?_,h3⟩;rw[Ie,hf.cell,e1];have e4:(Gg ty ad).run P w=.ok v' w:=e2;simp[asAddr,e4,h2 f hf]
   ·cases h
  ·cases h
 | .tmp t::r,j,s,ls,h,hr=>by
  simp only[A0g]at h;have aN:=hr.ent t;cases hg:s.get t with
  |tup l=>rw[hg]at h;cases h
  |st l=>rw[hg]at h;cases h
  |iter c p=>rw[hg]at h;cases h
  |bx d' ls=>rw[hg]at h;cases h
  |one l=>
   rw[hg]at h aN;dsimp only at h;have bU:∀(s':St Ty den)(bY:List (Leaf Ty den))(l':Leaf Ty den),Rel E.U B g s' a w->A0g E (j+1) s' r=some bY->ls=l'::bY->(∀p∈E8 (j+1) s' r,p∈E8 j s (.tmp t::r))->K7 s (.tmp t::r)=K7 s' r->
     (CRep E.U w g.wm l' (a.tmps.getD t undef)/\(∀t0 x c,l'=.sl t0 x (some c)->∃d,(c,d)∈E8 j s (.tmp t::r)/\a.tmps.getD t undef=g.G d/\E.U.size t0=g.Gs d/\TyB E.U w t0 (a.tmps.getD t undef))/\∀d o,l'≠ .ptr d o)->
     ∃vs,PackRep E.U w g (E8 j s (.tmp t::r)) ls vs/\(∀f,B5m a f->((ResultVar.tmp t::r).mapM f).run P w=.ok vs w)/\Rel E.U B g (K7 s (.tmp t::r)) a w:=by
    intro s' bY l' bV hp he ct hS jC;obtain⟨vs,h1,h2,h3⟩:=B0r hT hU hX r (j+1) s' bY hp bV;subst he;refine⟨a.tmps.getD t undef::vs,⟨⟨jC.1,jC.2.1,λc o he=>absurd he (jC.2.2 c o)⟩,h1.mono ct⟩,λf hf=>?_,by rw[hS];exact h3⟩;rw[Ie,hf.tmp];simp[h2 f hf]
   cases l with
   |sl t0 x o=>
    cases o with
    |none=>
     cases hp:A0g E (j+1) s r with
     |none=>rw[hp]at h;cases h
     |some bY=>
      rw[hp]at h;simp only[Gy,Ff]at h;exact bU s bY _ hr hp h.symm (λp hp=>by simp only[E8,hg];exact hp) (by simp only[K7,hg]) ⟨aN.1,λ_ _ _ he=>by(simp[A6N]at he),λ_ _ he=>by(cases he)⟩
    |some d=>
     dsimp only at h;cases hp:A0g E (j+1) (s.kill d) r with
     |none=>rw[hp]at h;cases h
     |some bY=>
      rw[hp]at h;simp only[Gy,Ff]at h;cases hm:mem d s.live with
      |false=>
       refine bU (s.kill d) bY _ (hr.kill hU d) hp h.symm (λp hp=>by simp only[E8,hg,hm,Eh];exact hp) (by simp only[K7,hg]) ?_;simp only[A6N,hm,Eh];exact⟨aN.1.own none,λ_ _ _ he=>by(simp at he),λ_ _ he=>by(cases he)⟩
      |true=>
       refine bU (s.kill d) bY _ (hr.kill hU d) hp h.symm (λp hp=>by simp only[E8,hg,hm,Eg];exact Kn _ hp) (by simp only[K7,hg]) ?_;simp only[A6N,hm,Eg];refine⟨aN.1.own _,λt1 x1 c he=>?_,λ_ _ he=>by(cases he)⟩;simp only[Leaf.sl.injEq,Ff]at he;obtain⟨rfl,_,rfl⟩:=he;exact⟨d,by simp only[E8,hg,hm,Eg];exact Km,aN.2.1 _ _ d rfl⟩
   |ptr d0 o0=>
    cases hp:A0g E (j+1) s r with
    |none=>rw[hp]at h;cases h
    |some bY=>
     rw[hp]at h;simp only[Gy,Ff]at h;exact bU s bY _ hr hp h.symm (λp hp=>by simp only[E8,hg];exact hp) (by simp only[K7,hg]) ⟨.any _,λ_ _ _ he=>by(simp[A6N]at he),λ_ _ he=>by(cases he)⟩
   |_=>
    cases hp:A0g E (j+1) s r with
    |none=>rw[hp]at h;cases h
    |some bY=>
     rw[hp]at h;simp only[Gy,Ff]at h;exact bU s bY _ hr hp h.symm (λp hp=>by simp only[E8,hg];exact hp) (by simp only[K7,hg]) ⟨aN.1,λ_ _ _ he=>by(simp[A6N]at he),λ_ _ he=>by(cases he)⟩
def V4(vs:Ea):Value:=if h:vs.length=1 then vs[0]else .tuple vs.toArray
def A6H(P:Fg)(fn:Func)(a:Act)(w:World)(rs:List Fx)(mo:fn.results.toList=rs){vs:Ea}(ht:∀f,B5m a f->(rs.mapM f).run P w=.ok vs w):
  (Hy fn a.tmps).run P w=.ok (V4 vs) w:=by
 have h1:fn.results=rs.toArray:=by rw[<-mo]
 unfold Hy;rw[h1,List.mapM_toArray];simp only[Jv,Sem.run_map];rw[ht _ ⟨λ_=>rfl,λ_ _=>rfl⟩];simp[V4]
def PackRep.length{N:List (Nat×Nat)}:∀{ls:List (Leaf Ty den)}{vs:Ea},PackRep U w g N ls vs->ls.length=vs.length
 |[],[],_=>rfl
 |_::_,_::_,h=>by simp[PackRep.length h.2]
 |[],_::_,hp=>hp.elim
 |_::_,[],hp=>hp.elim
def O0(g:Gh)(N:List (Nat×Nat)):Gh:=
 {wm:=g.wm,ib:=g.ib,G:=λc=>match N.find? (λp=>p.1==c)with|some p=>g.G p.2|none=>.bool false,Gs:=λc=>match N.find? (λp=>p.1==c)with|some p=>g.Gs p.2|none=>0}
def A4q{g:Gh}{N:List (Nat×Nat)}(hN:∀c d c' d',(c,d)∈N->(c',d')∈N->(c=c'↔d=d')){c d:Nat}(h:(c,d)∈N):(O0 g N).G c=g.G d/\(O0 g N).Gs c=g.Gs d:=by
 have hf:∃p,N.find? (λp=>p.1==c)=some p:=by
  cases hf:N.find? (λp=>p.1==c)with
  |some p=>exact⟨p,rfl⟩
  |none=>
   have:=List.find?_eq_none.1 hf (c,d) h;simp at this
 obtain⟨p,hp⟩:=hf;have h1:=List.mem_of_find?_eq_some hp;have h2:p.1=c:=by simpa using List.find?_some hp
 have h3:p.2=d:=(hN p.1 p.2 c d h1 h).1 h2;simp only[O0,hp,h3,and_self]
def PackRep.out{N:List (Nat×Nat)}(hN:∀c d c' d',(c,d)∈N->(c',d')∈N->(c=c'↔d=d')):∀{ls:List (Leaf Ty den)}{vs:Ea},PackRep U w g N ls vs->LsRep U w (O0 g N) ls vs
 |[],[],_=>trivial
 |_::_,_::_,h=>⟨⟨h.1.1,λt x c he=>by
  obtain⟨d,h1,h2,h3,h4⟩:=h.1.2.1 t x c he;obtain⟨e1,e2⟩:=A4q (g:=g) hN h1;exact⟨h2.trans e1.symm,h3.trans e2.symm,h4⟩,λc o he=>by
  obtain⟨d,b,n,h1,h2,h3⟩:=h.1.2.2 c o he;obtain⟨e1,e2⟩:=A4q (g:=g) hN h1;exact⟨b,n,e1.trans h2,h3⟩⟩,PackRep.out hN h.2⟩
 |[],_::_,hp=>hp.elim
 |_::_,[],hp=>hp.elim
def PackRep.names{N:List (Nat×Nat)}:∀{ls:List (Leaf Ty den)}{vs:Ea},PackRep U w g N ls vs->∀lf∈ls,∀c,lf.has c=true->∃d,(c,d)∈N
 |_::_,_::_,h,lf,hl,c,hc=>by
  simp only[Hq]at hl;rcases hl with rfl|hl
  ·rcases (Leaf.has_iff c _).1 hc with⟨t,x,he⟩|⟨o,he⟩
   ·obtain⟨d,h1,_⟩:=h.1.2.1 t x c he;exact⟨d,h1⟩
   ·obtain⟨d,_,_,h1,_⟩:=h.1.2.2 c o he;exact⟨d,h1⟩
  ·exact PackRep.names h.2 lf hl c hc
 |[],_::_,hp,_,_,_,_=>hp.elim
 |_::_,[],hp,_,_,_,_=>hp.elim
 |[],[],_,lf,hl,_,_=>by simp at hl
def LsRep.head{l:Leaf Ty den}:∀{vs:Ea}(h:LsRep U w g [l] vs)(hl:0<vs.length),LRep U w g l vs[0]
 |_::_,h,_=>h.1
def B6p{N:List (Nat×Nat)}(hr:Rel U B g s a w)(hN:∀c d c' d',(c,d)∈N->(c',d')∈N->(c=c'↔d=d'))(hl:∀c d,(c,d)∈N->mem d s.live=true){ls:List (Leaf Ty den)}{vs:Ea}(h1:PackRep U w g N ls vs)
  {r:Ent Ty den}{v:Value}(gq:∀c,r.has c=true↔∃lf∈ls,lf.has c=true)(uf:r.isIter=false)(ax:∀g',LsRep U w g' ls vs->ERep U w g' r v):Post U B (O0 g N) r v w:=by
 have dD:∀c,r.has c=true->∃d,(c,d)∈N/\mem d s.live=true/\(O0 g N).G c=g.G d/\(O0 g N).Gs c=g.Gs d:=λc hc=>by
  obtain⟨lf,jC,dp⟩:=(gq c).1 hc;obtain⟨d,hd⟩:=h1.names lf jC c dp;obtain⟨e1,e2⟩:=A4q (g:=g) hN hd;exact⟨d,hd,hl c d hd,e1,e2⟩
 refine{os:=hr.os,tape:=hr.tape,output:=hr.output,size:=hr.size,frame:=hr.frame,ext:=hr.ext,zero:=hr.zero,rep:=ax _ (h1.out hN),nit:=uf,tip:=λc hc=>?_,disj:=λc c' b hc cH aC hs=>?_,mine:=λc b hc hs=>?_}
 ·obtain⟨d,_,hl,e1,e2⟩:=dD c hc;rw[e1,e2];exact hr.tip d hl
 ·obtain⟨d,hd,hl,e1,_⟩:=dD c hc;obtain⟨d',dV,jC,uV,_⟩:=dD c' cH;rw[e1]at hs;rw[uV];exact hr.disj d d' b hl jC (λe=>aC ((hN c d c' d' hd dV).2 e)) hs
 ·obtain⟨d,hd,hl,e1,_⟩:=dD c hc;rw[e1]at hs;exact hr.mine d b hl hs
variable {E:Env Ty den}{P:Fg}
def C7m(hT:∀t,Q6 P E.U t (E.tb t))(hU:E.U.Ok)(hX:A4j E.U){fn:Func}{r:Ent Ty den}(h:B1u E fn.results.toList s=some r)(hr:Rel E.U B g s a w):
  ∃v,(Hy fn a.tmps).run P w=.ok v w/\∃g',Post E.U B g' r v w:=by
 obtain⟨g0,hr⟩:=B7w hU hX E.fzs s g hr;unfold B1u at h;dsimp only at h;generalize A7J E E.fzs s=s at h hr;cases hp:A0g E 0 s fn.results.toList with
 |none=>rw[hp]at h;cases h
 |some ls=>
  rw[hp]at h;obtain⟨vs,h1,h2,_⟩:=B0r (P:=P) hT hU hX fn.results.toList 0 s ls hp hr;obtain⟨yl,qg⟩:=A86 fn.results.toList 0 s;have ah:=A6H P fn a w fn.results.toList rfl h2;have av:=h1.length;unfold V4 at ah;have kW:∀(hl:ls.length≠1),some (Ent.tup ls)=some r->∃v,(Hy fn a.tmps).run P w=.ok v w/\∃g',Post E.U B g' r v w:=λhl he=>by
   cases he;rw[dif_neg Du]at ah;refine⟨_,ah,_,B6p hr qg (λc d h=>(yl c d h).1) h1 (λc=>?_) rfl (λg' rh=>⟨_,rfl,rh⟩)⟩;simp[Ent.has,Ku]
  match ls,h,h1,av,kW,hp with
  |[],h,_,_,kW,_=>exact kW Eo h
  |[l],h,h1,av,_,hp=>
   simp only[Ff]at h;subst h;rw[dif_pos (by simpa using av.symm)]at ah;refine⟨_,ah,_,B6p hr qg (λc d h=>(yl c d h).1) h1 (λc=>by simp[Ent.has]) rfl (λg' rh=>?_)⟩;exact LsRep.head rh _
  |l::l2::bY,h,_,_,kW,_=>exact kW Eo h
end
end Go.Aev
end
