/- Proved here: lemmas that the claim's text uses. Conditions: those that each lemma states. -/
import Derived.WalkKit
import Derived.Orders
import Derived.KernelRfl
import Derived.Great.BuildSlice
import Derived.Lib.OthersKept
import Derived.Laws.Cover4
set_option maxRecDepth 100000
set_option linter.unusedVariables false
set_option linter.unusedSimpArgs false
open Nat renaming beq→Ai,blt→Bf,le_refl→Bh,zero_le→Bn,blt_eq→Bu,zero_add→Bz,lt_or_ge→Ca,add_mul→Cc,le_trans→Cw,ble→Da,mul_le_mul_right→Ec,add_assoc→Ed,one_mul→Ew,not_lt→Ey,le_succ_of_le→Ez,le_of_ble_eq_true→Fa,add_zero→Fb,mul_one→Gk,lt_of_lt_of_le→Gl,le_mul_of_pos_right→Gm,add_comm→Gn
open Go renaming TypeId→Ba,execOp→Bb,Operand→Bd,run_underlying→Bg,Program→Bi,FuncId→Bm,typeInfo→Bq,IntKind→Cd,sizeOf→Ce,ResultVar→Ch,resolve→Cm,loadVar→Cn,invoke→Co,callFunc→Cp,newRow→Ct,loadCells→Cu,grownCap→Cz,convert→Do,builtin→Dp,storeCells→Dy,results→Dz,run_sliceBound_if→Eo,run_loadCells→Ep,madeCells→Er,loadCellsFrom→Es,run_runesToString→Fu,run_loadCells_list→Fv,run_bytesToString→Fw,eqGuard_at_bool→Fx
open Option.some renaming injEq→Be,inj→Br
open List renaming getElem?_eq_getElem→Bj,getElem?_map→Bo,mem_cons→Bp,length_cons→Bw,range→Cj,mem_append→Ck,mem_of_getElem?→Db,getElem?_append_left→Dc,getElem?_range→Dk,getElem?_append_right→Dl,eq_nil_of_length_eq_zero→Dm,getElem?_take→Dr,getElem?_eq_none→Ds,getElem?_drop→Du,any_eq_true→Dv,mapM_cons→Ee,length_map→Ef,getElem_of_mem→Eg,zipIdx_cons→Fc,map_map→Fe,map_congr_left→Ff,length_append→Fg,getElem?_cons_succ→Fh,getD_eq_getElem?_getD→Fi,foldl_cons→Fj,take_zero→Gp,size_toArray→Gq,not_mem_nil→Gr,mem_or_eq_of_mem_set→Gt,mem_map→Gu,mem_cons_self→Gv,mem_cons_of_mem→Gw,map_cons→Gx,length→Gy,flatMap_cons→Gz
open Bool renaming and_eq_true→Bl,not_eq_true'→Fo,false_eq_true→Fp,and_self→Hj
open Ne renaming symm→Bt
open Go.World renaming cell?_of_block→Bx,cell?→By,freeze→Ea,setCell→Fy
open Go.Question renaming appendCap→Cb,forced→Eu,cut→Gc
open Array renaming getElem?_eq_some_iff→Cf,getElem?_push→Cs,getElem?_toList→Cy,ext'→Dg,replicate→Dx,toList_map→Ek,getD_eq_getD_getElem?→El,getElem?_setIfInBounds→Fq,getElem?_modify→Fs,getElem?_append_left→Ft,size_setIfInBounds→Hk,length_toList→Hm
open Go.Utf8 renaming decode→Cg,encode→Ga
open Prod.mk renaming injEq→Ci
open Go.Addr renaming add_lit→Cl,mk→Em
open Option renaming map_some→Cq,map_eq_some_iff→Di,pure_def→Gf,isSome_none→Gg,bind_eq_some_iff→Gi,bind_eq_bind→Gj
open Go.Builtin renaming firstCells→Cr,append_→Df,lenOf→Dn,zeroCells→Fm,len_→Hi
open Go.Value renaming int→Cv,cells→Dq
open Go.Conv renaming runesFrom→Cx,runesToString→Hf,bytesToString→Hg
open Go.Instr renaming sureAddr→Dd,loadAt→Dw,sliceBounds→Eh,fill→Ei,buildSlice→Ej,sliceAt→Hb,slice→Hc,box→Hd
open ByteArray renaming mk→De,size→Fl
open Go.Act renaming eval→Dh,put→En
open Go.Oper renaming wp→Dj,upon_enter→Eb
open UInt8 renaming ofNat→Et
open Go.Op renaming stringOp→Ev
open Go.Deferred renaming ofValue→Fk
open Go.Value.tuple renaming inj→Fz
open Go.Sem renaming run_bind→Gb
open Go.Program renaming built→Ge
open List.cons renaming injEq→Ha
open Function renaming comp→He
open Go.ByteArray renaming extract_mk→Hh
open Go.Array renaming range_zero'→Hl
open Go.Value.slice renaming injEq→Hn
section
namespace Go.Aev
open Go
section defs
variable (Ty:Type)(den:Ty→Type)
inductive Leaf:Type where
 |any
 |int (k:Cd) (n:Int)
 |bool (b:Bool)
 |str (s:List UInt8)
 |sl (t:Ty) (l:List (den t)) (own:Option Nat)
 |elem (t:Ty) (x:den t) (off:Nat)
 |agg (t:Ty) (x:den t)
 |val (v:Value)
 |ptr (d off:Nat)
 |ifc (T:Ba) (t:Ty) (x:den t)
 |one1 (t:Ty) (x:den t)
inductive Ent:Type where
 |one (l:Leaf Ty den)
 |tup (ls:List (Leaf Ty den))
 |iter (s:List UInt8) (pos:Nat)
 |bx (d:Nat) (ls:List (Leaf Ty den))
 |st (ls:List (Leaf Ty den))
structure UO where
 deq:(t u:Ty)→Decidable (t=u)
 cells:(t:Ty)→den t→List (Leaf Ty den)
 dec:(t:Ty)→List (Leaf Ty den)→Option (den t)
 ofBytes:(t:Ty)→Option (List UInt8→List (den t))
 toBytes:(t:Ty)→Option (List (den t)→List UInt8)
 ofRunes:(t:Ty)→Option (List Int→List (den t))
 toRunes:(t:Ty)→Option (List (den t)→List Int)
 size:Ty→Nat
 bytes:Ty→Nat
 bty:Nat:=0
 ety:Ty→Option Ba:=fun _=>none
inductive TK where
 |int (k:Cd)
 |str
 |bool
 |slice (t:Ty) (e:Ba)
 |struct (t:Ty) (fs:List (Nat×Nat))
 |iface (t:Ty)
 |other
structure St where
 fr:List (Nat×Ent Ty den)
 live:List Nat
structure Env where
 U:UO Ty den
 tb:Ba→TK Ty
 T:Bm→List (Leaf Ty den)→Option (Bool×Ent Ty den)
 cons:Bm→Option Nat
 drop:Nat→List Nat
 nt:Nat
 zr:Ba→Option (List (Leaf Ty den)):=fun _=>none
 mb:Nat→Bool:=fun _=>false
 bn:Nat→Nat:=fun d=>100+d
 np:Nat:=0
 oz:Nat→Bool:=fun _=>false
 TIg:String→List (Leaf Ty den)→List (List (Leaf Ty den))→Option (Bool×List (Leaf Ty den)×List (List (Leaf Ty den))):=fun _ _ _=>none
 bi:String→List Nat:=fun _=>[]
 bp:Bm→Option (List Nat):=fun _=>none
 ro:Bm→Bool:=fun _=>false
 TRg:Bm→List (Leaf Ty den)→List (List (Leaf Ty den))→Option (Bool×List (Leaf Ty den)):=fun _ _ _=>none
 TBg:Bm→List (Leaf Ty den)→List (List (Leaf Ty den))→Option (Bool×List (Leaf Ty den)×List (List (Leaf Ty den))):=fun _ _ _=>none
end defs
variable {Ty:Type}{den:Ty→Type}
def M1{α:Type}:Option (Bool×α)→Option α
 |some (true,a)=>some a
 |_=>none
def Env.TI(E:Env Ty den)(nm:String)(ls:List (Leaf Ty den))(cs:List (List (Leaf Ty den))):Option (List (Leaf Ty den)×List (List (Leaf Ty den))):=M1 (E.TIg nm ls cs)
def Env.TR(E:Env Ty den)(f:Bm)(ls:List (Leaf Ty den))(cs:List (List (Leaf Ty den))):Option (List (Leaf Ty den)):=M1 (E.TRg f ls cs)
def Env.TB(E:Env Ty den)(f:Bm)(ls:List (Leaf Ty den))(cs:List (List (Leaf Ty den))):Option (List (Leaf Ty den)×List (List (Leaf Ty den))):=M1 (E.TBg f ls cs)
def C6:Nat:=77777777
def mem(d:Nat):List Nat→Bool
 |[]=>false
 |e::r=>bif Ai e d then true else mem d r
def rem(d:Nat):List Nat→List Nat
 |[]=>[]
 |e::r=>bif Ai e d then rem d r else e::rem d r
def Leaf.close:Leaf Ty den→Leaf Ty den
 | .sl t l _=>.sl t l none
 | .ptr _ _=>.any
 |x=>x
def Leaf.strip(d:Nat):Leaf Ty den→Leaf Ty den
 | .sl t l (some e)=>.sl t l (bif Ai e d then none else some e)
 | .ptr e o=>bif Ai e d then .any else .ptr e o
 |x=>x
def Ent.strip(d:Nat):Ent Ty den→Ent Ty den
 | .one l=>.one (l.strip d)
 | .tup ls=>.tup (ls.map (·.strip d))
 | .st ls=>.st (ls.map (·.strip d))
 | .bx e ls=>bif Ai e d then .one .any else .bx e (ls.map (·.strip d))
 |e=>e
def A5T(d:Nat):List (Nat×Ent Ty den)→List (Nat×Ent Ty den)
 |[]=>[]
 |(i,e)::r=>(i,e.strip d)::A5T d r
def look:List (Nat×Ent Ty den)→Nat→Ent Ty den
 |[],_=>.one .any
 |(j,e)::r,i=>bif Ai j i then e else look r i
def ins:List (Nat×Ent Ty den)→Nat→Ent Ty den→List (Nat×Ent Ty den)
 |[],i,e=>[(i,e)]
 |(j,x)::r,i,e=>bif Ai j i then(i,e)::r else bif Bf i j then(i,e)::(j,x)::r else(j,x)::ins r i e
def del:List (Nat×Ent Ty den)→List Nat→List (Nat×Ent Ty den)
 |[],_=>[]
 |(j,x)::r,ds=>bif mem j ds then del r ds else(j,x)::del r ds
namespace St
def get(s:St Ty den)(i:Nat):Ent Ty den:=look s.fr i
def set(s:St Ty den)(i:Nat)(e:Ent Ty den):St Ty den:={s with fr:=ins s.fr i e}
def setO(s:St Ty den)(d:Option Nat)(e:Ent Ty den):St Ty den:=match d with|some i=>s.set i e|none=>s
def fresh(s:St Ty den)(d:Nat):St Ty den:={fr:=A5T d s.fr,live:=d::rem d s.live}
def kill(s:St Ty den)(d:Nat):St Ty den:={fr:=A5T d s.fr,live:=rem d s.live}
def dels(s:St Ty den)(ds:List Nat):St Ty den:={s with fr:=del s.fr ds}
end St
def B7h:Value→Leaf Ty den
 | .int k n=>.int k n
 | .bool b=>.bool b
 | .string s=>.str s.data.toList
 |_=>.any
def opd(E:Env Ty den)(s:St Ty den)(ty:Ba):Bd→Ent Ty den
 | .tmp t=>match s.get t with
  | .iter _ _=>.one .any
  | .bx _ _=>.one .any
  |e=>e
 | .const v=>match v with
  | .slice none 0 0=>match E.tb ty with
   | .slice u _=>.one (.sl u [] none)
   |_=>.one .any
  |v=>.one (B7h v)
 |_=>.one .any
def opl(E:Env Ty den)(s:St Ty den)(ty:Ba)(x:Bd):Leaf Ty den:=
 match opd E s ty x with
 | .one l=>l
 |_=>.any
def A2G:Bd→Bool
 | .const (.slice none 0 0)=>true
 |_=>false
def C7(dst:Option Nat):Nat:=match dst with|some d=>100+d|none=>99
def nmR(dst:Option Nat)(j:Nat):Nat:=match dst with|some d=>1000*(j+1)+d|none=>98
def B3B(op:BinOp)(k:Cd)(a b:Int):Option (Leaf Ty den):=
 match op with
 | .add=>some (.int k (k.wrap (a+b)))
 | .sub=>some (.int k (k.wrap (a - b)))
 | .mul=>some (.int k (k.wrap (a*b)))
 | .eql=>some (.bool (a==b))
 | .neq=>some (.bool (a !=b))
 | .lss=>some (.bool (a<b))
 | .leq=>some (.bool (a≤b))
 | .gtr=>some (.bool (a>b))
 | .geq=>some (.bool (a≥b))
 | .and=>some (.int k (bits .and k a b))
 | .or=>some (.int k (bits .or k a b))
 |_=>none
def idx{α:Type}(l:List α)(i:Int):Option α:=bif decide (0≤i)then l[i.toNat]? else none
def sub{α:Type}(l:List α)(lo hi:Int):Option (List α):=
 bif decide (0≤lo)&&(decide (lo≤hi)&&decide (hi≤(l.length:Int)))then some ((l.drop lo.toNat).take (hi.toNat - lo.toNat))else none
def T1(U:UO Ty den)(t u:Ty)(l:List (den u)):Option (List (den t)):=
 match U.deq u t with
 | .isTrue h=>some (h ▸ l)
 | .isFalse _=>none
def A3(n b:Nat):Bool:=decide (n*b≤140737488355328)
def A32(ns:List Int):List UInt8:=ns.flatMap fun n=>(Ga n).data.toList
inductive Ex where
 |normal|exit (id:Nat)|ret
section ev
variable (E:Env Ty den){R:Type}
def U3(s:St Ty den)(d:Int):Option Bd→Option Int
 |none=>some d
 |some x=>match opl E s 0 x with
  | .int _ n=>some n
  |_=>none
def G4:List (Leaf Ty den)→List (Leaf Ty den)
 |[]=>[]
 |l::r=>l.close::G4 r
def R2(s:St Ty den):List Ba→List Bd→List (Leaf Ty den)
 |_,[]=>[]
 |[],x::r=>opl E s 0 x::R2 s [] r
 |t::ts,x::r=>opl E s t x::R2 s ts r
def A1d(nm:Nat)(t:Ty)(l:List (den t))(s:St Ty den):Leaf Ty den×St Ty den:=
 bif mem nm s.live then(.sl t l none,s)else(.sl t l (some nm),s.fresh nm)
def Q3(dst:Option Nat)(p:Option Nat)(j:Nat)(s:St Ty den):Leaf Ty den→Leaf Ty den×St Ty den
 | .sl t l (some 0)=>match p with
  |some d=>A1d d t l s
  |none=>(.sl t l none,s)
 | .sl t l (some (i+1))=>bif Ai i j then A1d (nmR dst j) t l s else(.sl t l none,s)
 | .ptr _ _=>(.any,s)
 |x=>(x,s)
def S1(dst:Option Nat)(p:Option Nat):Nat→St Ty den→List (Leaf Ty den)→List (Leaf Ty den)×St Ty den
 |_,s,[]=>([],s)
 |j,s,l::r=>
  let (l',s'):=Q3 dst p j s l
  let (r',nc):=S1 dst p (j+1) s' r
  (l'::r',nc)
def bxi(d:Nat):Nat:=1000000+d
def U7(s:St Ty den)(d:Nat):Option (List (Leaf Ty den)):=match s.get (bxi d)with
 | .bx e ls=>bif Ai e d then some ls else none
 |_=>none
def B8(k:Nat):Nat:=900000+k
def bo(d j:Nat):Nat:=2000000+(100*d+j)
def pk1(k d c:Nat)(s:St Ty den):Leaf Ty den→Leaf Ty den×St Ty den
 | .sl t x (some e)=>bif mem e s.live then(.sl t x (some c),s.kill e)else(.sl t x none,s)
 | .ptr e o=>(bif Ai e d&&Ai o C6 then .ptr (B8 k) C6 else .any,s)
 |l=>(l.close,s)
def pkC(k d:Nat):Nat→St Ty den→List (Leaf Ty den)→List (Leaf Ty den)×St Ty den
 |_,s,[]=>([],s)
 |j,s,l::r=>
  let (l',s'):=pk1 k d (bo (B8 k) j) s l
  let (r',nc):=pkC k d (j+1) s' r
  (l'::r',nc)
def pkB:Nat→St Ty den→List Nat→Option (List (List (Leaf Ty den))×St Ty den)
 |_,s,[]=>some ([],s)
 |k,s,d::r=>match s.get (bxi d)with
  | .bx e ls=>bif Ai e d&&Bf ls.length 100 then
   (let (c,s'):=pkC k d 0 s ls
   match pkB (k+1) s' r with
   |some (cs,nc)=>some (c::cs,nc)
   |none=>none)else none
  |_=>none
def E0:Nat→List (List (Leaf Ty den))→List (Leaf Ty den)
 |_,[]=>[]
 |k,c::r=>.ptr (B8 k) 0::(c++E0 (k+1) r)
def A1h(ls:List (Leaf Ty den)):List Nat→Option (List Nat)
 |[]=>some []
 |p::ps=>match ls.getD p .any,A1h ls ps with
  | .ptr d 0,some ds=>some (d::ds)
  |_,_=>none
def A3Q(ls:List (Leaf Ty den)):Nat→List Nat→List (Leaf Ty den)
 |_,[]=>ls
 |k,p::ps=>(A3Q ls (k+1) ps).set p (.ptr (B8 k) 0)
def A0c:List Nat→Bool
 |[]=>true
 |x::r=> !mem x r&&A0c r
def A1c(s:St Ty den):List Nat→Bool
 |[]=>true
 |d::r=>mem d s.live&&A1c s r
def W5(s:St Ty den):List Nat→St Ty den
 |[]=>s
 |d::r=>(W5 s r).set (bxi d) (.one .any)
def P7(k d c n:Nat)(s:St Ty den):Leaf Ty den→Leaf Ty den×St Ty den
 | .sl t x (some e)=>bif Ai e c then A1d n t x s else(.sl t x none,s)
 | .ptr e o=>(bif Ai e (B8 k)&&Ai o C6 then .ptr d C6 else .any,s)
 |l=>(l,s)
def unC(k d:Nat):Nat→St Ty den→List (Leaf Ty den)→List (Leaf Ty den)×St Ty den
 |_,s,[]=>([],s)
 |j,s,l::r=>
  let (l',s'):=P7 k d (bo (B8 k) j) (bo d j) s l
  let (r',nc):=unC k d (j+1) s' r
  (l'::r',nc)
def unB:Nat→St Ty den→List Nat→List (List (Leaf Ty den))→St Ty den
 |k,s,d::ds,c::cs=>
  let (c',s'):=unC k d 0 s c
  unB (k+1) (s'.set (bxi d) (.bx d c')) ds cs
 |_,s,_,_=>s
def A2S:List (Leaf Ty den)→Ent Ty den
 |[l]=>.one l
 |ls=>.tup ls
def A5Z:List (List (Leaf Ty den))→Bool
 |[]=>true
 |c::r=>Bf c.length 100&&A5Z r
def A5l(S:List (Leaf Ty den)→List (List (Leaf Ty den))→Option (List (Leaf Ty den)×List (List (Leaf Ty den))))(ps:List Nat)(ls:List (Leaf Ty den))(dst:Option Nat)(s:St Ty den)(k:Ent Ty den→St Ty den→Option R):Option R:=
 match A1h ls ps with
 |some ds=>bif A0c ds&&Bf ds.length 100 then(match pkB 0 s ds with
  |some (cs,s1)=>bif A1c s1 ds then(match S (A3Q (G4 ls) 0 ps) cs with
   |some (rs,av)=>bif Ai av.length ds.length&&(Bf rs.length 100&&A5Z av)then
    (let (sn,s2):=S1 dst none 0 (W5 s1 ds) rs
    bif A1c s2 ds then k (A2S sn) (unB 0 s2 ds av)else none)else none
   |none=>none)else none
  |none=>none)else none
 |none=>none
def B7m(f:Bm)(ps:List Nat)(dH:List Ba)(args:List Bd)(dst:Option Nat)(s:St Ty den)(k:Ent Ty den→St Ty den→Option R):Option R:=
 A5l (E.TB f) ps (R2 E s dH args) dst s k
def A9O(S:List (Leaf Ty den)→List (List (Leaf Ty den))→Option (Bool×List (Leaf Ty den)×List (List (Leaf Ty den))))(ps:List Nat)(ls:List (Leaf Ty den))(dst:Option Nat)(s:St Ty den)(k:Ent Ty den→St Ty den→Option R):Option R:=
 match A1h ls ps with
 |some ds=>bif A0c ds&&Bf ds.length 100 then(match pkB 0 s ds with
  |some (cs,s1)=>bif A1c s1 ds then(match S (A3Q (G4 ls) 0 ps) cs with
   |some (gd,rs,av)=>bif gd then(bif Ai av.length ds.length&&(Bf rs.length 100&&A5Z av)then
    (let (sn,s2):=S1 dst none 0 (W5 s1 ds) rs
    bif A1c s2 ds then k (A2S sn) (unB 0 s2 ds av)else none)else none)else none
   |none=>none)else none
  |none=>none)else none
 |none=>none
def B5Z(f:Bm)(ps:List Nat)(dH:List Ba)(args:List Bd)(dst:Option Nat)(s:St Ty den)(k:Ent Ty den→St Ty den→Option R):Option R:=
 A9O (E.TBg f) ps (R2 E s dH args) dst s k
theorem B4F{S:List (Leaf Ty den)→List (List (Leaf Ty den))→Option (Bool×List (Leaf Ty den)×List (List (Leaf Ty den)))}{ps:List Nat}{ls:List (Leaf Ty den)}{dst:Option Nat}{s:St Ty den}{k:Ent Ty den→St Ty den→Option R}{r:R}
  (h:A9O S ps ls dst s k=some r):A5l (fun a b=>M1 (S a b)) ps ls dst s k=some r:=by
 unfold A9O at h;unfold A5l;split at h
 ·rename_i ds jG
  revert h
  cases A0c ds&&Bf ds.length 100 with
  |false=>intro h;cases h
  |true=>
   simp only[cond_true];intro h;split at h
   ·rename_i cs s1 vq
    revert h
    cases A1c s1 ds with
    |false=>intro h;cases h
    |true=>
     simp only[cond_true];intro h;split at h
     ·rename_i gd rs av hS;cases gd with
      |false=>cases h
      |true=>simp only[hS,M1];exact h
     ·cases h
   ·cases h
 ·cases h
theorem C4C{f:Bm}{ps:List Nat}{dH:List Ba}{args:List Bd}{dst:Option Nat}{s:St Ty den}{k:Ent Ty den→St Ty den→Option R}{r:R}
 (h:B5Z E f ps dH args dst s k=some r):B7m E f ps dH args dst s k=some r:=B4F h
def nlL(nm j:Nat):Leaf Ty den→Leaf Ty den
 | .sl t [] none=>.sl t [] (some (bo nm j))
 |l=>l
def nlS(nm j:Nat)(s:St Ty den):Leaf Ty den→St Ty den
 | .sl _ [] none=>s.fresh (bo nm j)
 |_=>s
def A03(nm:Nat):Nat→List (Leaf Ty den)→List (Leaf Ty den)
 |_,[]=>[]
 |j,l::r=>nlL nm j l::A03 nm (j+1) r
def A5f(nm:Nat):Leaf Ty den→Leaf Ty den
 | .val (.pointer none)=>.ptr nm C6
 |l=>l
def A3w(b:Bool)(nm:Nat)(ls:List (Leaf Ty den)):List (Leaf Ty den):=bif b then ls.map (A5f nm)else ls
def A35(nm:Nat):Nat→St Ty den→List (Leaf Ty den)→St Ty den
 |_,s,[]=>s
 |j,s,l::r=>A35 nm (j+1) (nlS nm j s l) r
def B0b(f:Bm)(dH:List Ba)(args:List Bd)(dst:Option Nat)(s:St Ty den)(k:Ent Ty den→St Ty den→Option R):Option R:=
 let ls:=R2 E s dH args
 match E.cons f with
 |none=>match E.T f (G4 ls)with
  |some (gd,.one l)=>bif gd then(let (l',s'):=Q3 dst none 0 s l;k (.one l') s')else none
  |some (gd,.tup r)=>bif gd then(let (r',s'):=S1 dst none 0 s r;k (.tup r') s')else none
  |_=>none
 |some p=>match ls.getD p .any with
  | .sl t l (some d)=>bif mem d s.live then
    match E.T f ((G4 ls).set p (.sl t l (some 0)))with
    |some (gd,.one l)=>bif gd then(let (l',s'):=Q3 dst (some d) 0 (s.kill d) l;k (.one l') s')else none
    |some (gd,.tup r)=>bif gd then(let (r',s'):=S1 dst (some d) 0 (s.kill d) r;k (.tup r') s')else none
    |_=>none
   else none
  |_=>none
def A3c:List (Leaf Ty den)→Bool
 |[]=>true
 | .sl _ _ (some _)::_=>false
 | .ptr _ _::_=>false
 |_::r=>A3c r
def A1j(s:St Ty den):List Nat→Option (List (List (Leaf Ty den)))
 |[]=>some []
 |d::r=>match U7 s d,A1j s r with
  |some ls,some cs=>bif A3c ls then some (ls::cs)else none
  |_,_=>none
def A2o(f:Bm)(dH:List Ba)(args:List Bd)(s:St Ty den):Option (Ent Ty den):=
 let ls:=R2 E s dH args
 match E.bp f with
 |none=>match E.T f (G4 ls)with
  |some (true,.one l)=>some (.one l.close)
  |some (true,.tup r)=>some (.tup (G4 r))
  |_=>none
 |some ps=>match A1h ls ps with
  |some ds=>bif A0c ds then(match A1j s ds with
   |some cs=>match E.TR f (A3Q (G4 ls) 0 ps) cs with
    |some rs=>some (A2S (G4 rs))
    |none=>none
   |none=>none)else none
  |none=>none
def A9u(f:Bm)(dH:List Ba)(args:List Bd)(s:St Ty den)(k:Ent Ty den→Option R):Option R:=
 let ls:=R2 E s dH args
 match E.bp f with
 |none=>match E.T f (G4 ls)with
  |some (gd,.one l)=>bif gd then k (.one l.close)else none
  |some (gd,.tup r)=>bif gd then k (.tup (G4 r))else none
  |_=>none
 |some ps=>match A1h ls ps with
  |some ds=>bif A0c ds then(match A1j s ds with
   |some cs=>match E.TRg f (A3Q (G4 ls) 0 ps) cs with
    |some (gd,rs)=>bif gd then k (A2S (G4 rs))else none
    |none=>none
   |none=>none)else none
  |none=>none
theorem B4Z{f:Bm}{dH:List Ba}{args:List Bd}{s:St Ty den}{k:Ent Ty den→Option R}{r:R}
  (h:A9u E f dH args s k=some r):∃ e,A2o E f dH args s=some e∧k e=some r:=by
 unfold A9u at h;unfold A2o;dsimp only at h ⊢;split at h
 ·split at h
  ·rename_i gd l hT;cases gd with
   |false=>cases h
   |true=>exact⟨_,by simp only[hT],h⟩
  ·rename_i gd l hT;cases gd with
   |false=>cases h
   |true=>exact⟨_,by simp only[hT],h⟩
  ·cases h
 ·split at h
  ·rename_i ds jG
   revert h
   cases A0c ds with
   |false=>intro h;cases h
   |true=>
    simp only[cond_true];intro h;split at h
    ·rename_i cs cH;split at h
     ·rename_i gd rs hT;cases gd with
      |false=>cases h
      |true=>exact⟨_,by simp only[cH,Env.TR,hT,M1],h⟩
     ·cases h
    ·cases h
  ·cases h
def B0j(t u:Ba)(x y:Bd)(dst:Option Nat)(s:St Ty den)(k:Ent Ty den→St Ty den→Option R):Option R:=
 match E.tb t,(bif A2G x then(match E.tb t with
   | .slice t' _=>(Leaf.sl t' [] (some (C7 dst)),s.fresh (C7 dst))
   |_=>(Leaf.any,s))else(opl E s t x,s))with
 | .slice t' _,(.sl t0 l0 (some d),s1)=>match T1 E.U t' t0 l0 with
  |some l=>bif mem d s1.live then
    match E.tb u,opl E s u y with
    | .slice _ _,.sl v m _=>match T1 E.U t' v m with
     |some m'=>bif A3 (l.length+m'.length) (E.U.bytes t')then k (.one (.sl t' (l++m') (some d))) (s1.fresh d)else none
     |none=>none
    | .str,.str b=>match E.U.ofBytes t' with
     |some f=>bif A3 (l.length+b.length) (E.U.bytes t')then k (.one (.sl t' (l++f b) (some d))) (s1.fresh d)else none
     |none=>none
    |_,_=>none
   else none
  |none=>none
 |_,_=>none
def A1g(b:Builtin)(dH:List Ba)(args:List Bd)(dst:Option Nat)(s:St Ty den)(k:Ent Ty den→St Ty den→Option R):Option R:=
 match b,dH,args with
 | .len,[t],[x]=>match E.tb t,opl E s t x with
  | .slice _ _,.sl _ l _=>k (.one (.int .i64 l.length)) s
  | .str,.str b=>k (.one (.int .i64 b.length)) s
  |_,_=>none
 | .min,_,[x,y]=>match opl E s 0 x,opl E s 0 y with
  | .int k0 a,.int _ b=>k (.one (.int k0 (if b<a then b else a))) s
  |_,_=>none
 | .max,_,[x,y]=>match opl E s 0 x,opl E s 0 y with
  | .int k0 a,.int _ b=>k (.one (.int k0 (if b>a then b else a))) s
  |_,_=>none
 | .append,[t,u],[x,y]=>B0j E t u x y dst s k
 |_,_,_=>none
def A18(s:St Ty den)(ty:Ba):Nat→List (Nat×Bd)→Option (List (Leaf Ty den))
 |_,[]=>some []
 |i,(j,x)::r=>bif Ai i j then(A18 s ty (i+1) r).map ((opl E s ty x).close:: ·)else none
def A2f(u:Ty)(s:St Ty den):Nat→List (Nat×Bd)→Option (List (den u))
 |_,[]=>some []
 |i,(j,x)::r=>bif Ai i j then(match opl E s 0 x with
  | .agg u' y=>(match T1 E.U u u' [y],A2f u s (i+1) r with
   |some [y'],some l=>some (y'::l)
   |_,_=>none)
  |_=>none)else none
def A6i(U:UO Ty den)(t:Ty):List (Leaf Ty den)→Option (List (den t))
 |[]=>some []
 |l::r=>match U.dec t [l],A6i U t r with
  |some x,some xs=>some (x::xs)
  |_,_=>none
def L0{α:Type}(ls:List α)(o:Nat)(ys:List α):List α:=ls.take o++(ys++ls.drop (o+ys.length))
def U1:Leaf Ty den→Bool
 | .int _ _| .bool _| .str _| .sl _ _ _| .elem _ _ _| .ifc _ _ _| .one1 _ _=>true
 |_=>false
def cellsOf(n:Nat):Leaf Ty den→Option (List (Leaf Ty den))
 | .agg u y=>bif Ai (E.U.size u) n then some (E.U.cells u y)else none
 |l=>bif U1 l&&Ai n 1 then some [l]else none
def A1B(s:St Ty den)(fs:List (Nat×Nat)):List (Nat×Bd)→List (Leaf Ty den)→Option (List (Leaf Ty den))
 |[],ls=>some ls
 |(j,x)::r,ls=>match fs[j]? with
  |some (o,n)=>match cellsOf E n (opl E s 0 x).close with
   |some ys=>bif Da (o+n) ls.length then A1B s fs r (L0 ls o ys)else none
   |none=>none
  |none=>none
def bnO(d:Option Nat):Nat:=match d with|some i=>E.bn i|none=>99
def mbO(d:Option Nat):Bool:=match d with|some i=>E.mb i|none=>false
def tyN(t:Ba):Option Nat:=match E.zr t with
 |some zs=>some zs.length
 |none=>none
def A9(o:Oper)(s:St Ty den)(k:Ent Ty den→St Ty den→Option R):Option R:=
 match o.op with
 | .move x=>k (opd E s o.type x) s
 | .assign x=>bif A2G x then
   (match opl E s o.type x with
   | .sl u l _=>k (.one (.sl u l (some (C7 o.dst)))) (s.fresh (C7 o.dst))
   |l=>k (.one l) s)
  else k (opd E s o.type x) s
 | .pick c a b=>match opl E s 0 c with
  | .bool true=>k (.one (opl E s o.type a)) s
  | .bool false=>k (.one (opl E s o.type b)) s
  |_=>none
 | .extract x i=>match opd E s 0 x with
  | .tup ls=>match ls[i]? with
   |some l=>k (.one l) s
   |none=>none
  |_=>none
 | .binOp op t x y _=>match opl E s t x,opl E s t y with
  | .int k0 a,.int k1 b=>match op with
   | .shr=>bif decide (0≤b)&&decide (b≤31)&&decide (k0=.i32)then k (.one (.int k0 (a / 2^b.toNat))) s else none
   | .shl=>bif decide (0≤b)&&decide (b≤31)&&decide (k0=.i32)then k (.one (.int k0 (k0.wrap (a*2^b.toNat)))) s else none
   | .quo=>bif decide (k0=k1)&& !decide (b=0)then k (.one (.int k0 (k0.wrap (a.tdiv b)))) s else none
   | .rem=>bif decide (k0=k1)&& !decide (b=0)then k (.one (.int k0 (a.tmod b))) s else none
   |_=>bif decide (k0=k1)then(match B3B op k0 a b with|some l=>k (.one l) s|none=>none)else none
  | .str a,.str b=>match op with
   | .add=>bif decide (a.length+b.length≤9223372036854775807)then k (.one (.str (a++b))) s else none
   | .eql=>k (.one (.bool (a==b))) s
   | .neq=>k (.one (.bool (!(a==b)))) s
   |_=>none
  | .bool a,.bool b=>match E.tb t with
   | .bool=>match op with
    | .eql=>k (.one (.bool (a==b))) s
    | .neq=>k (.one (.bool (!(a==b)))) s
    |_=>none
   |_=>none
  |_,_=>none
 | .unOp op _ x=>match op,opl E s 0 x with
  | .not,.bool b=>k (.one (.bool (!b))) s
  | .neg,.int k0 n=>k (.one (.int k0 (k0.wrap (0 - n)))) s
  |_,_=>none
 | .convert src dst x=>match E.tb src,E.tb dst,opl E s src x with
  | .int _,.int k0,.int _ n=>k (.one (.int k0 (k0.wrap n))) s
  | .slice t e,.str,.sl u l _=>match E.tb e,T1 E.U t u l,E.U.toBytes t,E.U.toRunes t with
   | .int .u8,some l',some f,_=>k (.one (.str (f l'))) s
   | .int .i32,some l',_,some f=>k (.one (.str (A32 (f l')))) s
   |_,_,_,_=>none
  | .str,.slice t e,.str b=>match E.tb e,E.U.ofBytes t,E.U.ofRunes t with
   | .int .u8,some f,_=>bif A3 b.length 1 then k (.one (.sl t (f b) none)) s else none
   | .int .i32,_,some f=>bif A3 b.length 1 then k (.one (.sl t (f ((Cx ⟨b.toArray⟩ b.length 0 #[]).toList.map fun| .int _ n=>n|_=>0)) (some (C7 o.dst)))) (s.fresh (C7 o.dst))else none
   |_,_,_=>none
  |_,_,_=>none
 | .indexAddr t x i=>match E.tb t,opl E s t x,opl E s 0 i with
  | .slice t' _,.sl u l _,.int _ n=>match T1 E.U t' u l with
   |some l'=>match idx l' n with
    |some y=>k (.one (.elem t' y 0)) s
    |none=>none
   |none=>none
  |_,_,_=>none
 | .index t x i=>match E.tb t,opl E s t x,opl E s 0 i with
  | .str,.str b,.int _ n=>match idx b n with
   |some y=>k (.one (.int .u8 (y.toNat:Int))) s
   |none=>none
  |_,_,_=>none
 | .build t ps=>bif mbO E o.dst then(match E.tb t,E.zr t with
  | .struct _ fs,some zs=>match A1B E s fs ps.toList (A03 (bnO E o.dst) 0 zs)with
   |some ls=>k (.st ls) (A35 (bnO E o.dst) 0 s zs)
   |none=>none
  |_,_=>none)else match E.tb t with
  | .struct u fs=>match E.zr t with
   |some zs=>match A1B E s fs ps.toList zs with
    |some ls=>match E.U.dec u ls with
     |some x=>k (.one (.agg u x)) s
     |none=>none
    |none=>none
   |none=>none
  |_=>none
 | .alloc t=>match o.dst,E.zr t with
  |some i,some zs=>bif E.oz i then(bif Bf 0 zs.length then k (.one (.ptr (C7 (some i)) 0)) ((A35 (C7 (some i)) 0 (s.fresh (C7 (some i))) zs).set (bxi (C7 (some i))) (.bx (C7 (some i)) (A3w (Ai t E.U.bty) (C7 (some i)) (A03 (C7 (some i)) 0 zs))))else none)
   else bif Bf 0 zs.length then k (.one (.ptr (C7 (some i)) 0)) ((s.fresh (C7 (some i))).set (bxi (C7 (some i))) (.bx (C7 (some i)) zs))else none
  |_,_=>none
 | .box t x=>match o.dst,E.zr t with
  |some i,some zs=>match opd E s t x with
   | .st ys=>bif E.mb i&&(Ai ys.length zs.length&&Bf 0 zs.length)then k (.one (.ptr (C7 (some i)) 0)) ((s.fresh (C7 (some i))).set (bxi (C7 (some i))) (.bx (C7 (some i)) (A3w (Ai t E.U.bty) (C7 (some i)) (ys.map (·.strip (C7 (some i)))))))else none
   |_=>match cellsOf E zs.length (opl E s t x).close with
   |some ys=>bif E.mb i then(bif Bf 0 zs.length then k (.one (.ptr (C7 (some i)) 0)) ((s.fresh (C7 (some i))).set (bxi (C7 (some i))) (.bx (C7 (some i)) ys))else none)
    else(match opl E s t x with
    | .agg u y=>bif Ai (E.U.size u) zs.length then k (.one (.elem u y 0)) s else none
    |_=>none)
   |none=>none
  |_,_=>none
 | .nilCheck x=>match opl E s 0 x with
  | .elem u y off=>k (.one (.elem u y off)) s
  | .ptr d off=>bif Bf off 1000000 then k (.one (.ptr d off)) s else none
  |_=>none
 | .store t x y=>match o.dst,opl E s 0 x,tyN E t with
  |none,.ptr d off,some n=>match opd E s t y with
   | .st ys=>(match U7 s d with
    |some ls=>bif Ai ys.length n&&(Da (off+n) ls.length&&Bf off 1000000)then k (.one .any) (s.set (bxi d) (.bx d (L0 ls off ys)))else none
    |none=>none)
   |_=>match U7 s d,cellsOf E n (opl E s t y)with
   |some ls,some ys=>bif Da (off+n) ls.length&&Bf off 1000000 then k (.one .any) (s.set (bxi d) (.bx d (L0 ls off ys)))else none
   |_,_=>none
  |_,_,_=>none
 | .fieldAddr t x i=>match E.tb t,opl E s 0 x with
  | .struct v fs,.elem u y off=>match fs[i]? with
   |some (o,n)=>bif Bf 0 n then k (.one (.elem u y (off+o))) s else none
   |none=>none
  | .struct v fs,.ptr d off=>match fs[i]? with
   |some (o,n)=>bif Bf 0 n&&(Bf off 1000000&&Bf (off+o) 1000000)then k (.one (.ptr d (off+o))) s else none
   |none=>none
  |_,_=>none
 | .load t x=>match E.tb t with
  | .other=>none
  | .iface u=>match opl E s 0 x with
   | .elem u' y off=>match(bif Ai off 0 then T1 E.U u u' [y]else none)with
    |some [y']=>k (.one (.one1 u y')) s
    |_=>none
   |_=>none
  | .struct u _=>match opl E s 0 x with
   | .elem u' y off=>match(bif Ai off 0 then T1 E.U u u' [y]else none)with
    |some [y']=>k (.one (.agg u y')) s
    |_=>match E.U.dec u (((E.U.cells u' y).drop off).take (E.U.size u))with
     |some z=>k (.one (.agg u z)) s
     |none=>none
   | .ptr d off=>match U7 s d with
    |some ls=>bif Bf off 1000000 then(match E.U.dec u (G4 ((ls.drop off).take (E.U.size u)))with
     |some z=>k (.one (.agg u z)) s
     |none=>none)else none
    |none=>none
   |_=>none
  |_=>match opl E s 0 x with
   | .elem u y off=>match(E.U.cells u y)[off]? with
    |some l=>k (.one l.close) s
    |none=>none
   | .ptr d off=>match U7 s d with
    |some ls=>bif Bf off 1000000 then(match ls[off]? with
     |some l=>k (.one l) s
     |none=>none)else none
    |none=>none
   |_=>none
 | .makeInterface t x=>match E.tb t,opl E s t x with
  | .struct u _,.agg u' y=>match T1 E.U u u' [y]with
   |some [y']=>k (.one (.ifc t u y')) s
   |_=>none
  |_,_=>none
 | .slice t x lo hi mx=>match E.tb t,opl E s t x with
  | .str,.str b=>match mx,U3 E s 0 lo,U3 E s b.length hi with
   |none,some a,some c=>match sub b a c with
    |some r=>k (.one (.str r)) s
    |none=>none
   |_,_,_=>none
  | .slice t' _,.sl u l _=>match T1 E.U t' u l with
   |some l'=>match U3 E s 0 lo,U3 E s l'.length hi,mx with
    |some a,some c,none=>match sub l' a c with
     |some r=>k (.one (.sl t' r none)) s
     |none=>none
    |some a,some c,some m=>match opl E s 0 m with
     | .int _ m=>bif hi.isSome&&decide (m=c)then(match sub l' a c with
      |some r=>k (.one (.sl t' r none)) s
      |none=>none)else none
     |_=>none
    |_,_,_=>none
   |none=>none
  |_,_=>none
 | .buildSlice t n ps=>match E.tb t with
  | .slice u e=>match E.tb e with
   | .struct _ _=>match A2f E u s 0 ps.toList with
    |some xs=>bif Ai xs.length n&&Bf (n*E.U.size u) 65536 then k (.one (.sl u xs (some (C7 o.dst)))) (s.fresh (C7 o.dst))else none
    |none=>none
   |_=>match A18 E s e 0 ps.toList with
   |some ls=>match A6i E.U u ls with
    |some xs=>bif Ai xs.length n&&(Ai (E.U.size u) 1&&Bf n 65536)then k (.one (.sl u xs (some (C7 o.dst)))) (s.fresh (C7 o.dst))else none
    |none=>none
   |none=>none
  |_=>none
 | .makeSlice t l c=>match E.tb t,opl E s 0 l,opl E s 0 c with
  | .slice u _,.int _ 0,.int _ m=>bif decide (0≤m)&&A3 m.toNat (E.U.bytes u)then k (.one (.sl u [] (some (C7 o.dst)))) (s.fresh (C7 o.dst))else none
  |_,_,_=>none
 | .range t x=>match E.tb t,opl E s t x with
  | .str,.str b=>k (.iter b 0) s
  |_,_=>none
 | .next (.tmp i) true=>match s.get i with
  | .iter b pos=>bif decide (pos<b.length)then
    k (.tup [.bool true,.int .i64 (pos:Int),.int .i32 ((Cg ⟨b.toArray⟩ pos).1:Int)]) (s.set i (.iter b (pos+(Cg ⟨b.toArray⟩ pos).2)))
   else k (.tup [.bool false]) s
  |_=>none
 | .call c=>match c.callee with
  | .value (.func f)=>match E.bp f with
   |some ps=>bif E.ro f then A9u E f c.argTypes.toList c.args.toList s fun e=>k e s
    else B5Z E f ps c.argTypes.toList c.args.toList o.dst s k
   |none=>B0b E f c.argTypes.toList c.args.toList o.dst s k
  | .builtin b=>A1g E b c.argTypes.toList c.args.toList o.dst s k
  | .invoke x nm=>A9O (E.TIg nm) (E.bi nm) (opl E s 0 x::R2 E s c.argTypes.toList c.args.toList) o.dst s k
  |_=>none
 |_=>none
def A3x:Value→Bool
 | .bool _=>false
 |_=>true
def okd(m n:Nat)(d:Option Nat):Bool:=match d with|some i=>Bf i n&&Da m i|none=>true
def B3s(d:Nat):Bd→Bool
 | .tmp t=> !Ai t d
 |_=>true
def A9Z(o o2:Oper)(s:St Ty den):Option (Nat×Leaf Ty den):=
 match o.op,o.dst,o2.op with
 | .alloc t,some d,.store t2 (.tmp d2) y=>bif Ai d d2&&(Ai t t2&&(B3s d y&&(o2.guard.isNone&&o2.dst.isNone)))then(match E.tb t,opl E s 0 y with
  | .struct u _,.agg u' x=>(match T1 E.U u u' [x]with
   |some [x']=>some (d,.elem u x' 0)
   |_=>none)
  |_,_=>none)else none
 |_,_,_=>none
def P9:Op→Bool
 | .alloc _=>true
 |_=>false
def A2X(ops:Array Oper):List Oper→Bool→St Ty den→(St Ty den→Option R)→Option R
 |[],_,s,k=>k s
 |_::r,true,s,k=>A2X ops r false s k
 |o::r,false,s,k=>bif okd E.np E.nt o.dst then match o.guard with
  |none=>bif P9 o.op&& !(mbO E o.dst)then(match r with
    |o2::_=>(match A9Z E o o2 s with
     |some (d,l)=>A2X ops r true (s.set d (.one l)) k
     |none=>none)
    |[]=>none)
   else A9 E o s fun e s'=>A2X ops r false (s'.setO o.dst e) k
  |some (j,aL)=>match(ops[j]?).bind (·.dst)with
   |some g=>match s.get g with
    | .one (.bool b)=>bif b==aL
     then A9 E o (s.set g (.one (.bool aL))) fun e s'=>A2X ops r false (s'.setO o.dst e) k
     else A2X ops r false ((s.set g (.one (.bool (!aL)))).setO o.dst (.one (.val undef))) k
    | .one (.val v)=>bif A3x v then A2X ops r false (s.setO o.dst (.one (.val undef))) k else none
    |_=>none
   |none=>none
  else none
def A11(ops:Array Oper)(os:List Oper)(s:St Ty den)(k:St Ty den→Option R):Option R:=A2X E ops os false s k
def Leaf.has(d:Nat):Leaf Ty den→Bool
 | .sl _ _ (some e)=>Ai e d
 | .ptr e _=>Ai e d
 |_=>false
def Ent.has(d:Nat):Ent Ty den→Bool
 | .one l=>l.has d
 | .tup ls=>ls.any (·.has d)
 | .st ls=>ls.any (·.has d)
 | .bx e ls=>bif Ai e d then true else ls.any (·.has d)
 |_=>false
def A0Q(d:Nat):List (Nat×Ent Ty den)→Bool
 |[]=>false
 |(_,e)::r=>bif e.has d then true else A0Q d r
def U8(o:Oper):Bool:=
 match o.op with
 | .move _| .pick .. | .extract .. | .binOp .. | .unOp .. | .indexAddr .. | .index .. | .load .. | .slice .. | .fieldAddr .. | .nilCheck _=>true
 | .build .. => !mbO E o.dst
 | .assign x=> !A2G x
 | .buildSlice _ _ _=>true
 | .makeInterface _ _=>true
 | .convert _ d _=>match E.tb d with| .slice _ _=>false|_=>true
 | .call c=>match c.callee with
  | .value (.func f)=>(E.bp f).isNone||E.ro f
  | .builtin .len| .builtin .min| .builtin .max=>true
  |_=>false
 |_=>false
def A5v(o:Oper)(j:Nat):Bool:=o.after.toList.any fun e=>Ai e.on j&&(match e.ground with| .textOnly _| .gcOnly _=>false|_=>true)
def G0:Nat→List Oper→List (Nat×Nat)
 |_,[]=>[]
 |i,o::r=>match o.dst with
  |some d=>(d,i)::G0 (i+1) r
  |none=>G0 (i+1) r
def A4s(o:Oper):Bool:=P9 o.op&&(o.guard.isNone&&mbO E o.dst)
def A0I(o:Oper):Bool:=U8 E o||A4s E o
def X0:List Oper→Nat
 |[]=>0
 |o::r=>bif A0I E o then X0 r+1 else 0
def B7B(ops:Array Oper)(iJ:List (Nat×Nat))(i:Nat)(o:Oper):Bool:=
 A0I E o&&(o.after.toList.all (fun e=>Bf e.on i)&&(o.looksAt ops).all fun t=>Bf t 1000000&&iJ.all fun p=> !Ai p.1 t||A5v o p.2)
def A7h(e:Edge):Bool:=match e.ground with| .textOnly _| .gcOnly _=>false|_=>true
def A3b(cl:List (List Nat)):List Edge→List Nat
 |[]=>[]
 |e::r=>bif A7h e then e.on::(cl.getD e.on []++A3b cl r)else A3b cl r
def A2I(o:Oper):Bool:=o.guard.isNone&&(match o.op with| .move (.tmp _)=>true|_=>false)
def A47(o:Oper):Bool:=o.guard.isNone&&(match o.op with| .extract (.tmp _) _=>true|_=>false)
def A4i(ops:Array Oper)(oi:Oper)(i:Nat):Nat→List Oper→Bool
 |_,[]=>true
 |j,o::r=>(Ai j i||(A5v o i||oi.apart ops o))&&A4i ops oi i (j+1) r
def A89:List Oper→Bool
 |[]=>true
 |o::r=>(match o.op with| .select _ _=>false|_=>true)&&A89 r
def B9H(ds:List Nat)(o:Oper):Bool:=match o.op with| .move (.tmp t)=> !mem t ds|_=>false
def C11:List Edge→Bool
 |[]=>true
 |_=>false
def A00(ops:Array Oper)(m:Nat)(ds:List Nat)(i:Nat)(o:Oper):Bool:=
 Bf i m&&(A2I o&&(C11 o.after.toList&&(A4i ops o i 0 ops.toList&&B9H ds o)))
def tl1(ops:Array Oper)(m:Nat)(i:Nat)(o:Oper):Bool:=
 Da m i&&((A2I o||A47 o)&&A4i ops o i (i+1) (ops.toList.drop (i+1)))
def flL(ops:Array Oper)(m:Nat)(ds:List Nat):Nat→List Oper→List Nat
 |_,[]=>[]
 |i,o::r=>bif A00 ops m ds i o||tl1 ops m i o then i::flL ops m ds (i+1) r else flL ops m ds (i+1) r
def A8a(fl:List Nat):Nat→List Nat→Bool
 |0,_=>true
 |n+1,l=>(mem n l||mem n fl)&&A8a fl n l
def A7K(fl:List Nat)(m:Nat):Nat→List Oper→List (List Nat)→Bool
 |_,[],_=>true
 |i,o::r,cl=>o.after.toList.all (fun e=>Bf e.on i)&&((Bf i m||A8a fl i (A3b cl o.after.toList))&&A7K fl m (i+1) r (cl++[A3b cl o.after.toList]))
def A6b(ops:Array Oper)(iJ:List (Nat×Nat)):Nat→List Oper→Bool
 |_,[]=>true
 |i,o::r=>B7B E ops iJ i o&&A6b ops iJ (i+1) r
def Y6:List Nat→Bool
 |[]=>true
 |x::r=> !mem x r&&Y6 r
def A9T:List Nat→Bool
 |[]=>true
 |x::r=>Bf x 1000000&&A9T r
def B9O(ops:Array Oper)(m:Nat):Bool:=
 A6b E ops (G0 0 (ops.toList.take m)) 0 (ops.toList.take m)&&(A7K (flL ops m ((G0 0 (ops.toList.take m)).map (·.1)) 0 ops.toList) m 0 ops.toList []&&(Y6 ((G0 0 ops.toList).map (·.1))&&(A9T ((G0 0 ops.toList).map (·.1))&&A89 ops.toList)))
def Y9:List Nat→Nat
 |[]=>0
 |_::r=>Y9 r+1
def Ent.close1:Ent Ty den→Ent Ty den
 | .one l=>.one l.close
 |e=>e
def A4a(o:Oper)(s:St Ty den)(k:Ent Ty den→Option R):Option R:=
 match o.op with
 | .buildSlice _ _ _=>A9 E o s fun e _=>k e.close1
 | .call c=>match c.callee with
  | .value (.func f)=>A9u E f c.argTypes.toList c.args.toList s k
  |_=>A9 E o s fun e s'=>bif Ai (Y9 s'.live) (Y9 s.live)then k e else none
 |_=>A9 E o s fun e s'=>bif Ai (Y9 s'.live) (Y9 s.live)then k e else none
def A1C(s:St Ty den):List Oper→Bool
 |[]=>true
 |o::r=>match o.op with
  | .buildSlice _ _ _=> !A0Q (C7 o.dst) s.fr&&A1C s r
  |_=>A1C s r
def A0i(ops:Array Oper):List Oper→St Ty den→(St Ty den→Option R)→Option R
 |[],s,k=>bif A1C s (ops.toList.take (X0 E ops.toList))then k s else none
 |o::r,s,k=>bif okd E.np E.nt o.dst then match o.guard with
  |none=>bif P9 o.op then A0i ops r (s.setO o.dst (.one .any)) k else A4a E o s fun e=>A0i ops r (s.setO o.dst e) k
  |some (j,aL)=>match(ops[j]?).bind (·.dst)with
   |some g=>match s.get g with
    | .one (.bool b)=>bif b==aL
     then A4a E o s fun e=>A0i ops r ((s.set g (.one (.bool aL))).setO o.dst e) k
     else A0i ops r ((s.set g (.one (.bool (!aL)))).setO o.dst (.one (.val undef))) k
    | .one (.val v)=>bif A3x v then A0i ops r (s.setO o.dst (.one (.val undef))) k else none
    |_=>none
   |none=>none
  else none
def W8(ops:Array Oper):List Oper→St Ty den→(St Ty den→Option R)→Option R
 |[],s,k=>k s
 |o::r,s,k=>bif okd E.np E.nt o.dst then match o.guard with
  |none=>A9 E o s fun e s'=>W8 ops r (s'.setO o.dst e) k
  |some (j,aL)=>match(ops[j]?).bind (·.dst)with
   |some g=>match s.get g with
    | .one (.bool b)=>bif b==aL
     then A9 E o (s.set g (.one (.bool aL))) fun e s'=>W8 ops r (s'.setO o.dst e) k
     else W8 ops r ((s.set g (.one (.bool (!aL)))).setO o.dst (.one (.val undef))) k
    | .one (.val v)=>bif A3x v then W8 ops r (s.setO o.dst (.one (.val undef))) k else none
    |_=>none
   |none=>none
  else none
def A0v:Nat→List Oper→Option (Nat×Nat×Ba)
 |_,[]=>none
 |i,o::r=>match o.op,o.dst with
  | .alloc t,some d=>some (i,d,t)
  |_,_=>A0v (i+1) r
def A8L:List Oper→Bool
 |[]=>true
 |o::r=> !P9 o.op&&A8L r
def T3(i:Nat)(zs:List (Leaf Ty den))(s:St Ty den):St Ty den:=
 ((s.fresh (C7 (some i))).set (bxi (C7 (some i))) (.bx (C7 (some i)) zs)).set i (.one (.ptr (C7 (some i)) 0))
def A7Y(ops:Array Oper)(i:Nat):List Oper→Bool
 |[]=>true
 |o::r=> !mem i (o.looksAt ops)&&A7Y ops i r
def B0x(ops:Array Oper)(s:St Ty den)(k:St Ty den→Option R):Option R:=
 bif B9O E ops (X0 E ops.toList)then
  A0i E ops (ops.toList.take (X0 E ops.toList)) (s.dels ((G0 0 (ops.toList.take (X0 E ops.toList))).map (·.1))) fun sF=>
   match A0v 0 (ops.toList.take (X0 E ops.toList))with
   |none=>W8 E ops (ops.toList.drop (X0 E ops.toList)) sF k
   |some (ia,i,t)=>match E.zr t with
    |some zs=>bif A8L ((ops.toList.take (X0 E ops.toList)).drop (ia+1))&&(A7Y ops i (ops.toList.take (X0 E ops.toList))&&(Bf 0 zs.length&&(A3c zs&&(!A0Q (C7 (some i)) sF.fr&& !E.oz i))))then
     W8 E ops (ops.toList.drop (X0 E ops.toList)) (T3 i zs sF) k else none
    |none=>none
 else none
def C9(body:St Ty den→(Ex→St Ty den→Option R)→Option R):Nat→St Ty den→(Ex→St Ty den→Option R)→Option R
 |0,_,_=>none
 |n+1,s,k=>body s fun e s'=>match e with
  | .normal=>C9 body n s' k
  |e=>k e s'
def B9(b:St Ty den→(Ex→St Ty den→Option R)→Option R)(k:Ex→St Ty den→Option R):Ex→St Ty den→Option R
 | .normal,s=>b s k
 |e,s=>k e s
def A8(id:Nat)(k:Ex→St Ty den→Option R):Ex→St Ty den→Option R
 | .exit j,s=>bif Ai j id then k .normal s else k (.exit j) s
 |e,s=>k e s
def A2y(d:Nat):List Nat→List Nat
 |[]=>[d]
 |e::r=>bif Bf d e then d::e::r else e::A2y d r
def gcN(fr:List (Nat×Ent Ty den)):List Nat→List Nat
 |[]=>[]
 |d::r=>bif A0Q d fr then A2y d (gcN fr r)else gcN fr r
def St.gc(s:St Ty den):St Ty den:={s with live:=gcN s.fr s.live}
def A9J:Code→Nat
 | .region id _ _=>id
 | .seq a _=>A9J a
 | .block _ c=>A9J c
 |_=>9999
def A1z(ds:List Nat)(k:Ex→St Ty den→Option R):Ex→St Ty den→Option R
 | .normal,s=>k .normal (s.dels ds).gc
 |e,s=>k e s
def B1(n:Nat):Code→St Ty den→(Ex→St Ty den→Option R)→Option R
 | .skip,s,k=>k .normal s
 | .region id ops false,s,k=>A11 E ops ops.toList s fun s'=>k .normal (s'.dels (E.drop id)).gc
 | .region id ops true,s,k=>B0x E ops s fun s'=>k .normal (s'.dels (E.drop id)).gc
 | .seq a b,s,k=>B1 n a s (B9 (B1 n b) k)
 | .cond c a b,s,k=>match opl E s 0 c with
  | .bool t=>bif t then B1 n a s k else B1 n b s k
  |_=>none
 | .block id c,s,k=>B1 n c s (A8 id k)
 | .loop c,s,k=>C9 (fun s' k'=>B1 n c s' (A1z (E.drop (10000+A9J c)) k')) n (s.dels (E.drop (10000+A9J c))).gc k
 | .exit id,s,k=>k (.exit id) s
 | .ret,s,k=>k .ret s
 |_,_,_=>none
def A4v(s:St Ty den)(j:Nat):Leaf Ty den→Leaf Ty den
 | .sl t l (some d)=>bif mem d s.live then .sl t l (some (bif Ai d 0 then 0 else j+1))else .sl t l none
 | .ptr _ _=>.any
 |l=>l
def B2v(s:St Ty den)(ty:Ba)(l:Leaf Ty den):Option (Leaf Ty den):=match E.tb ty,l with
 | .struct u _,.ptr d off=>match U7 s d with
  |some ls=>bif Bf off 1000000 then(E.U.dec u (G4 ((ls.drop off).take (E.U.size u)))).map (.agg u)else none
  |none=>none
 |_,_=>none
def X3:Nat→St Ty den→List Ch→Option (List (Leaf Ty den))
 |_,_,[]=>some []
 |j,s,.tmp t::r=>match s.get t with
  | .one l=>(X3 (j+1) (match l with| .sl _ _ (some d)=>s.kill d|_=>s) r).map (A4v s j l:: ·)
  |_=>none
 |j,s,.cell t ty::r=>match s.get t with
  | .one l=>match B2v E s ty l,X3 (j+1) s r with
   |some l',some ls=>some (l'::ls)
   |_,_=>none
  |_=>none
def J0:St Ty den→List Ch→St Ty den
 |s,[]=>s
 |s,.tmp t::r=>J0 (match s.get t with| .one (.sl _ _ (some d))=>s.kill d|_=>s) r
 |s,_::r=>J0 s r
def A7k(rs:List Ch)(s:St Ty den):Option (Ent Ty den):=
 match X3 E 0 s rs with
 |some [l]=>some (.one l)
 |some ls=>some (.tup ls)
 |none=>none
def B2(rs:List Ch):Ex→St Ty den→Option (Ent Ty den)
 | .normal,s| .ret,s=>A7k E rs s
 |_,_=>none
def A22:Nat→List (Leaf Ty den)→List (Nat×Ent Ty den)
 |_,[]=>[]
 |i,l::r=>(i,.one l)::A22 (i+1) r
def R9:List (Leaf Ty den)→Bool
 |[]=>false
 | .sl _ _ (some 0)::_=>true
 |_::r=>R9 r
def A2m(args:List (Leaf Ty den)):St Ty den:={fr:=A22 0 args,live:=bif R9 args then [0]else []}
def A2(n:Nat)(fn:Func)(args:List (Leaf Ty den)):Option (Ent Ty den):=
 match fn.body with
 |some c=>bif Da args.length E.nt then B1 E n c (A2m args) (B2 E fn.results.toList)else none
 |none=>none
def A0x:List (Leaf Ty den)→List Nat
 |[]=>[]
 | .sl _ _ (some d)::r=>d::A0x r
 | .ptr d _::r=>d::A0x r
 |_::r=>A0x r
def B3N:Nat→St Ty den→List (List (Leaf Ty den))→St Ty den
 |_,s,[]=>s
 |k,s,c::r=>B3N (k+1) (s.set (bxi (B8 k)) (.bx (B8 k) c)) r
def O5:Nat→Nat→List Nat
 |_,0=>[]
 |k,n+1=>B8 k::O5 (k+1) n
def pinned(s:St Ty den):Nat→List Nat→Bool
 |_,[]=>true
 |k,p::ps=>(match s.get p with| .one (.ptr d 0)=>Ai d (B8 k)&&Bf p E.np|_=>false)&&pinned s (k+1) ps
def A74:List (List (Leaf Ty den))→List (List (Leaf Ty den))→Bool
 |[],[]=>true
 |a::r,b::r'=>Ai a.length b.length&&A74 r r'
 |_,_=>false
def Z3(rs:List Ch)(ps:List Nat)(cs:List (List (Leaf Ty den))):Ex→St Ty den→Option (List (Leaf Ty den)×List (List (Leaf Ty den)))
 | .normal,s| .ret,s=>match X3 E 0 s rs,pkB 0 (J0 s rs) (O5 0 cs.length)with
  |some ls,some (av,s')=>bif A74 cs av&&(pinned E s 0 ps&&(A1c s' (O5 0 cs.length)&&Bf rs.length 100))then some (ls,av)else none
  |_,_=>none
 |_,_=>none
def A7t(args:List (Leaf Ty den)):Nat→List Nat→Bool
 |_,[]=>true
 |k,p::ps=>(match args[p]? with|some (.ptr d 0)=>Ai d (B8 k)|_=>false)&&A7t args (k+1) ps
def I7(n:Nat)(fn:Func)(ps:List Nat)(args:List (Leaf Ty den))(cs:List (List (Leaf Ty den))):Option (List (Leaf Ty den)×List (List (Leaf Ty den))):=
 match fn.body with
 |some c=>bif Da args.length E.nt&&(A7t args 0 ps&&(Ai ps.length cs.length&&Bf cs.length 100))then
  B1 E n c (B3N 0 {fr:=A22 0 args,live:=A0x (E0 0 cs)} cs) (Z3 E fn.results.toList ps cs)else none
 |none=>none
end ev
end Go.Aev
end
namespace Go.Aev
open Go
def C3(w:World)(b:Nat):Nat→List Value→World
 |_,[]=>w
 |o,v::r=>C3 (w.setCell ⟨b,o,none⟩ v) b (o+1) r
theorem A9F(w:World)(b o:Nat)(v:Value)(c:Array Value)(e:Ba)(fz:Nat×Nat)(h:w.heap[b]?=some (.cells c e fz)):
  (w.setCell ⟨b,o,none⟩ v).heap[b]?=some (.cells (c.setIfInBounds o v) e fz):=by
 simp[Fy,Fs,h]
theorem A61(w:World)(b o k:Nat)(v:Value)(h:k≠b):(w.setCell ⟨b,o,none⟩ v).heap[k]?=w.heap[k]? :=by
 simp only[Fy,Fs];rw[if_neg (by simpa using fun e=>h e.symm)]
theorem A4J(P:Bi)(b:Nat)(e:Ba)(fz:Nat×Nat):∀(vs:List Value)(o:Nat)(w:World)(c:Array Value),
  w.heap[b]?=some (.cells c e fz)→o+vs.length≤c.size→(∀ j,o≤j→j<o+vs.length→¬(fz.1≤j∧j<fz.2))→(∀ v∈vs,v.oneCell'=true)→
  (∀(a:Addr)(i:Nat),a=⟨b,o - i,none⟩→i≤o→(Dy a vs i).run P w=.ok () (C3 w b o vs))∧
  (∃ c',(C3 w b o vs).heap[b]?=some (.cells c' e fz)∧c'.size=c.size∧(∀ j,j<o∨o+vs.length≤j→c'[j]?=c[j]?)∧(∀ j v,vs[j]?=some v→c'[o+j]?=some v))∧
  (C3 w b o vs).heap.size=w.heap.size∧(∀ k,k≠b→(C3 w b o vs).heap[k]?=w.heap[k]?)∧
  (C3 w b o vs).os=w.os∧(C3 w b o vs).tape=w.tape∧(C3 w b o vs).output=w.output:=by
 intro vs
 induction vs with
 |nil=>
  intro o w c h _ _ _;exact⟨fun a i _ _=>rfl,⟨c,h,rfl,fun _ _=>rfl,fun j v hj=>by simp at hj⟩,rfl,fun _ _=>rfl,rfl,rfl,rfl⟩
 |cons v vs ih=>
  intro o w c h hl hf h1;have dw:o<c.size:=by simp at hl;omega
  have aw:w.cell? ⟨b,o,none⟩=some c[o]:=by
   simp[By,h,dw]
  have oT:w.frozen? ⟨b,o,none⟩=false:=by
   have:=hf o (Bh _) (by simp);simp only[World.frozen?,h];simp;omega
  have h':=A9F w b o v c e fz h;obtain⟨i1,⟨c',i2,i3,i4,i5⟩,i6,i7,i8,i9,w5⟩:=ih (o+1) (w.setCell ⟨b,o,none⟩ v) _ h' (by simp at hl ⊢;omega)
   (fun j a1 a2=>hf j (by omega) (by simp;omega)) (fun u hu=>h1 u (by simp[hu]))
  refine⟨?_,⟨c',i2,by simpa using i3,?_,?_⟩,by simpa [C3]using i6,?_,i8.trans rfl,by simpa [C3]using i9,w5.trans rfl⟩
  ·intro a i ha hi;subst ha;have cR:(Em b (o - i) none).add i=⟨b,o,none⟩:=by
    unfold Addr.add;by_cases h0:i=0
    ·subst h0;simp
    ·simp[h0];omega
   have bL:=run_store P w ⟨b,o,none⟩ v .plain (h1 v (by simp));simp only[aw,oT]at bL;simp only[Dy,Gb,cR,bL,Result.andThen_ok,Fp,if_false];exact i1 _ (i+1) (by simp) (by omega)
  ·intro j hj;rw[i4 j (by simp at hj ⊢;omega)];simp at hj;rw[Fq];rw[if_neg (by omega)]
  ·intro j u hu;cases j with
   |zero=>
    simp at hu;subst hu;rw[i4 (o+0) (by omega)];simp[dw]
   |succ j=>
    simp at hu;have:=i5 j u hu;rw[show o+(j+1)=o+1+j by omega];exact this
  ·intro k hk;simp only[C3];rw[i7 k hk,A61 w b o k v hk]
def A8t(P:Bi)(u:Ba):Prop:=(∃ e',P.underlying u=some (.slice e'))∨P.underlying u=some .string
theorem B40{P:Bi}(w:World)(t u ty e:Ba)(i:TypeInfo)(z:Value)(ht:P.underlying t=some (.slice e))(hu:A8t P u)(hi:P.info? e=some i)(hz:i.zero=some z)
  (base:Option Addr)(cZ eO:Nat)(ep:List Value)
  (cV:∀ w':World,w'.heap=w.heap→(Cr i.size cZ (.slice base cZ eO)).run P w'=.ok ep.toArray w')
  (x:Value)(m:Nat)(bM:List Value)(au:(Dn x).run P w=.ok m w)
  (iK:∀ w':World,w'.heap=w.heap→(Cr i.size m x).run P w'=.ok bM.toArray w')
  (hg:eO<cZ+m)(sp:cZ+m≤9223372036854775807)(hb:(cZ+m)*i.bytes≤140737488355328):
  (Df #[t,u] ty #[.slice base cZ eO,x]).run P w=
    .ok (.slice (some ⟨w.heap.size,0,none⟩) (cZ+m) (Cz w (cZ+m) eO e))
     (w.drew.alloc (.cells (ep.toArray++bM.toArray++Fm z.cells (Cz w (cZ+m) eO e - (cZ+m))) e)):=by
 have hn:¬(cZ+m≤eO):=by omega
 have nf:¬(9223372036854775807<((cZ:Int)+(m:Int))):=by omega
 have lC:=growslice_fits hg hb;have sq:¬(281474976710656<Builtin.nextslicecap (cZ+m) eO*i.bytes):=by omega
 have hf:=iK w.drew rfl;have w6:=cV w.drew rfl;rcases hu with⟨_,hd⟩|hd<;>
  (simp[Df,Bg ht,Bg hd,sizeOf,Bq,zeroValue,hi,hz,au,hn,nf,sq,Eu,hf,w6,Ct,Cz]
   congr 2
   apply Dg;simp[List.append_assoc])
theorem A9v{P:Bi}(w:World)(t u ty e:Ba)(i:TypeInfo)(ht:P.underlying t=some (.slice e))(hu:A8t P u)(hi:P.info? e=some i)
  (base:Option Addr)(cZ eO:Nat)(x:Value)(m:Nat)(bM:List Value)(au:(Dn x).run P w=.ok m w)
  (iK:(Cr i.size m x).run P w=.ok bM.toArray w)(w':World)
  (bL:∀ a,base=some a→(Dy (a.add (cZ*i.size)) bM).run P w=.ok () w')(pu:base=none→w'=w)
  (hg:cZ+m≤eO):
  (Df #[t,u] ty #[.slice base cZ eO,x]).run P w=.ok (.slice base (cZ+m) eO) w':=by
 cases base with
 |none=>
  have:=pu rfl;subst this;rcases hu with⟨_,hd⟩|hd<;>
   (simp[Df,Bg ht,Bg hd,sizeOf,Bq,hi,au,hg,iK])
 |some a=>
  have hs:=bL a rfl;rcases hu with⟨_,hd⟩|hd<;>
   (simp[Df,Bg ht,Bg hd,sizeOf,Bq,hi,au,hg,iK,hs])
end Go.Aev
namespace Go.Aev
variable {Ty:Type}{den:Ty→Type}
def flat(U:UO Ty den)(t:Ty)(l:List (den t)):List (Leaf Ty den):=l.flatMap (U.cells t)
structure UO.Ok(U:UO Ty den):Prop where
 pos:∀ t,0<U.size t
 bpos:∀ t,0<U.bytes t
 len:∀ t x,(U.cells t x).length=U.size t
 dec:∀ t ls x,U.dec t ls=some x→U.cells t x=ls
 ofBytes:∀ t f,U.ofBytes t=some f→∀ b:List UInt8,(f b).length=b.length∧flat U t (f b)=b.map fun c=>.int .u8 (c.toNat:Int)
 ofRunes:∀ t f,U.ofRunes t=some f→∀ b:List Int,(f b).length=b.length∧flat U t (f b)=b.map fun c=>.int .i32 c
 solid:∀ t x lf,lf∈U.cells t x→lf≠ .any∧(∀ v,lf≠ .val v)∧∀ u y,lf≠ .agg u y
 closed:∀ t x lf,lf∈U.cells t x→lf.close=lf
 ofBytes1:∀ t f,U.ofBytes t=some f→U.size t=1
 ofRunes1:∀ t f,U.ofRunes t=some f→U.size t=1
 toRunes1:∀ t f,U.toRunes t=some f→U.size t=1
 toRunes:∀ t f,U.toRunes t=some f→∀ l,flat U t l=(f l).map fun n=>.int .i32 n
 toBytes1:∀ t f,U.toBytes t=some f→U.size t=1
 toBytes:∀ t f,U.toBytes t=some f→∀ l,∃ ns:List Int,flat U t l=ns.map (fun n=>.int .u8 n)∧f l=ns.map fun n=>Et n.toNat
section
variable (U:UO Ty den)
inductive CRep (w:World)(wm:Nat→Nat):Leaf Ty den→Value→Prop
 |any (v:Value):CRep w wm .any v
 |int (k:Cd) (n:Int):CRep w wm (.int k n) (.int k n)
 |bool (b:Bool):CRep w wm (.bool b) (.bool b)
 |str (s:List UInt8):CRep w wm (.str s) (.string ⟨s.toArray⟩)
 |val (v:Value):CRep w wm (.val v) v
 |nil (t:Ty) (own:Option Nat) (a:Option Addr) (cap:Nat):CRep w wm (.sl t [] own) (.slice a 0 cap)
 |sl (t:Ty) (l:List (den t)) (own:Option Nat) (b off cap:Nat) (cs:Nat→Value) (bc:l.length≤cap) (aS:off+l.length*U.size t≤wm b)
  (hc:∀ j lf,(flat U t l)[j]?=some lf→w.cell? ⟨b,off+j,none⟩=some (cs j)) (hr:∀ j lf,(flat U t l)[j]?=some lf→CRep w wm lf (cs j)):
  CRep w wm (.sl t l own) (.slice (some ⟨b,off,none⟩) l.length cap)
 |elem (t:Ty) (x:den t) (off b o:Nat) (cs:Nat→Value) (aS:o+U.size t≤wm b)
  (hc:∀ j lf,(U.cells t x)[j]?=some lf→w.cell? ⟨b,o+j,none⟩=some (cs j)) (hr:∀ j lf,(U.cells t x)[j]?=some lf→CRep w wm lf (cs j)):
  CRep w wm (.elem t x off) (.pointer (some ⟨b,o+off,none⟩))
 |agg (t:Ty) (x:den t) (vs:List Value) (hl:vs.length=U.size t) (cs:Nat→Value) (hc:∀ j lf,(U.cells t x)[j]?=some lf→vs[j]?=some (cs j)) (hr:∀ j lf,(U.cells t x)[j]?=some lf→CRep w wm lf (cs j)):
  CRep w wm (.agg t x) (.agg vs.toArray)
 |ifc (T:Ba) (t:Ty) (x:den t) (v:Value) (h:CRep w wm (.agg t x) v):CRep w wm (.ifc T t x) (.iface T v)
 |one1 (t:Ty) (x:den t) (lf:Leaf Ty den) (v:Value) (hl:U.cells t x=[lf]) (h:CRep w wm lf v):CRep w wm (.one1 t x) v
 |ptr (d off:Nat) (p:Option Addr):CRep w wm (.ptr d off) (.pointer p)
end
theorem A2d{U:UO Ty den}(hU:U.Ok)(t:Ty)(l:List (den t)):(flat U t l).length=l.length*U.size t:=by
 induction l with
 |nil=>simp[flat]
 |cons x l ih=>
  simp only[flat,Gz,Fg,hU.len,Bw]at ih ⊢;rw[ih,Cc];omega
structure Ext(w:World)(wm:Nat→Nat)(w':World)(wm':Nat→Nat):Prop where
 ty:∀(b:Nat)(c:Array Value)(e:Ba)(fz:Nat×Nat),w.heap[b]?=some (.cells c e fz)→∃(c':Array Value)(jt:Nat×Nat),w'.heap[b]?=some (.cells c' e jt)
 cell:∀ b off,off<wm b→w'.cell? ⟨b,off,none⟩=w.cell? ⟨b,off,none⟩
 le:∀ b,wm b≤wm' b
abbrev TyP(w w':World):Prop:=∀(b:Nat)(c:Array Value)(e:Ba)(fz:Nat×Nat),w.heap[b]?=some (.cells c e fz)→∃(c':Array Value)(jt:Nat×Nat),w'.heap[b]?=some (.cells c' e jt)
theorem A0X{w w':World}{o:Obj}(h:w'.heap=w.heap.push o):TyP w w':=fun b c e fz h1=>by
 have hb:=(Cf.1 h1).1;exact⟨c,fz,by rw[h,Cs,if_neg (by omega)];exact h1⟩
theorem A6H{w w':World}(h:w'.heap=w.heap):TyP w w':=fun _ c _ fz h1=>⟨c,fz,by rw[h];exact h1⟩
theorem A5X{w w':World}{b:Nat}{c c':Array Value}{e:Ba}{fz jt:Nat×Nat}(hb:w.heap[b]?=some (.cells c e fz))(bw:w'.heap[b]?=some (.cells c' e jt))(ho:∀ k,k≠b→w'.heap[k]?=w.heap[k]?):TyP w w':=fun k c1 e1 f1 h1=>by
 by_cases hk:k=b
 ·subst hk;rw[hb]at h1;cases h1;exact⟨_,_,bw⟩
 ·exact⟨c1,f1,by rw[ho k hk];exact h1⟩
theorem C4l{w w':World}{b:Nat}(hb:∀ c e fz,w.heap[b]? ≠some (.cells c e fz))(ho:∀ k,k≠b→w'.heap[k]?=w.heap[k]?):TyP w w':=fun k c1 e1 f1 h1=>by
 by_cases hk:k=b
 ·subst hk;exact absurd h1 (hb _ _ _)
 ·exact⟨c1,f1,by rw[ho k hk];exact h1⟩
theorem Ext.refl(w:World)(wm:Nat→Nat):Ext w wm w wm:=⟨fun _ c _ fz h=>⟨c,fz,h⟩,fun _ _ _=>rfl,fun _=>Bh _⟩
theorem Ext.trans{w1 w2 w3:World}{m1 m2 m3:Nat→Nat}(h:Ext w1 m1 w2 m2)(k:Ext w2 m2 w3 m3):Ext w1 m1 w3 m3:=
 ⟨fun b c e fz h0=>by
  obtain⟨c1,f1,h1⟩:=h.ty b c e fz h0;exact k.ty b c1 e f1 h1,fun b o ho=>(k.cell b o (Gl ho (h.le b))).trans (h.cell b o ho),fun b=>Cw (h.le b) (k.le b)⟩
theorem CRep.mono{U:UO Ty den}(hU:U.Ok){w w':World}{wm wm':Nat→Nat}(hx:Ext w wm w' wm'){lf:Leaf Ty den}{v:Value}(h:CRep U w wm lf v):CRep U w' wm' lf v:=by
 induction h with
 |any v=>exact .any v
 |int k n=>exact .int k n
 |bool b=>exact .bool b
 |str s=>exact .str s
 |val v=>exact .val v
 |nil t own a cap=>exact .nil t own a cap
 |sl t l own b off cap cs bc aS hc _ ih=>
  refine .sl t l own b off cap cs bc (Cw aS (hx.le b)) (fun j lf hj=>?_) ih;have bQ:j<(flat U t l).length:=by
   rcases Ca j (flat U t l).length with h|h
   ·exact h
   ·rw[Ds h]at hj;cases hj
  rw[A2d hU]at bQ;rw[hx.cell b _ (by omega)];exact hc j lf hj
 |agg t x vs hl cs hc _ ih=>exact .agg t x vs hl cs hc ih
 |ifc T t x v _ ih=>exact .ifc T t x v ih
 |one1 t x lf v hl _ ih=>exact .one1 t x lf v hl ih
 |ptr d off p=>exact .ptr d off p
 |elem t x off b o cs aS hc _ ih=>
  refine .elem t x off b o cs (Cw aS (hx.le b)) (fun j lf hj=>?_) ih;have bQ:j<(U.cells t x).length:=by
   rcases Ca j (U.cells t x).length with h|h
   ·exact h
   ·rw[Ds h]at hj;cases hj
  rw[hU.len]at bQ;rw[hx.cell b _ (by omega)];exact hc j lf hj
theorem CRep.close{U:UO Ty den}{w:World}{wm:Nat→Nat}{lf:Leaf Ty den}{v:Value}(h:CRep U w wm lf v):CRep U w wm lf.close v:=by
 cases h with
 |nil t own a cap=>exact .nil t none a cap
 |sl t l own b off cap cs bc aS hc hr=>exact .sl t l none b off cap cs bc aS hc hr
 |any v=>exact .any v
 |int k n=>exact .int k n
 |bool b=>exact .bool b
 |str s=>exact .str s
 |val v=>exact .val v
 |elem t x off b o cs aS hc hr=>exact .elem t x off b o cs aS hc hr
 |agg t x vs hl cs hc hr=>exact .agg t x vs hl cs hc hr
 |ifc T t x v h=>exact .ifc T t x v h
 |one1 t x lf v hl h=>exact .one1 t x lf v hl h
 |ptr d off b=>exact .any _
theorem CRep.own{U:UO Ty den}{w:World}{wm:Nat→Nat}{t:Ty}{l:List (den t)}{o:Option Nat}{v:Value}(h:CRep U w wm (.sl t l o) v)(o':Option Nat):CRep U w wm (.sl t l o') v:=by
 cases h with
 |nil t own a cap=>exact .nil t o' a cap
 |sl t l own b off cap cs bc aS hc hr=>exact .sl t l o' b off cap cs bc aS hc hr
structure Gh where
 wm:Nat→Nat
 G:Nat→Value
 Gs:Nat→Nat
 ib:Nat→Nat
def A9Y(U:UO Ty den)(w:World)(b:Nat):Prop:=∃ c fz,w.heap[b]?=some (.cells c U.bty fz)
def PtrAt(U:UO Ty den)(w:World)(b off:Nat)(v:Value):Prop:=(v=.pointer (some ⟨b,off,none⟩)∧off≠C6)∨(off=C6∧A9Y U w b∧(v=.pointer none∨v=.pointer (some ⟨b,0,none⟩)))
theorem PtrAt.mono{U:UO Ty den}{w w':World}{m m':Nat→Nat}(hx:Ext w m w' m'){b off:Nat}{v:Value}(h:PtrAt U w b off v):PtrAt U w' b off v:=by
 rcases h with h|⟨h1,⟨c,fz,h2⟩,h3⟩
 ·exact .inl h
 ·obtain⟨c',jt,h4⟩:=hx.ty b c _ fz h2;exact .inr ⟨h1,⟨c',jt,h4⟩,h3⟩
theorem PtrAt.at{U:UO Ty den}{w:World}{b off:Nat}{v:Value}(h:PtrAt U w b off v)(ho:off≠C6):v=.pointer (some ⟨b,off,none⟩):=by
 rcases h with h|h
 ·exact h.1
 ·exact absurd h.1 ho
theorem PtrAt.ptr{U:UO Ty den}{w:World}{b off:Nat}{v:Value}(h:PtrAt U w b off v):∃ p,v=.pointer p:=by
 rcases h with h|⟨_,_,h|h⟩
 ·exact⟨_,h.1⟩
 ·exact⟨_,h⟩
 ·exact⟨_,h⟩
theorem A9j{off:Nat}(h:Bf off 1000000=true):off≠C6:=by
 rw[Bu]at h;unfold C6;omega
def TyB(U:UO Ty den)(w:World)(t:Ty)(v:Value):Prop:=∀ e a len cap,U.ety t=some e→v=.slice (some a) len cap→∃ c fz,w.heap[a.block]?=some (.cells c e fz)
theorem TyB.ext{U:UO Ty den}{w w':World}{m m':Nat→Nat}(hx:Ext w m w' m'){t:Ty}{v:Value}(h:TyB U w t v):TyB U w' t v:=fun e a len cap h1 h2=>by
 obtain⟨c,fz,h4⟩:=h e a len cap h1 h2;exact hx.ty _ c e fz h4
theorem TyB.nil{U:UO Ty den}{w:World}{t:Ty}{len cap:Nat}:TyB U w t (.slice none len cap):=fun e a ng cap h1 h2=>by cases h2
theorem TyB.new{U:UO Ty den}{w:World}{t:Ty}{b off len cap:Nat}{c:Array Value}{e:Ba}{fz:Nat×Nat}(he:∀ e',U.ety t=some e'→e'=e)(hb:w.heap[b]?=some (.cells c e fz)):TyB U w t (.slice (some ⟨b,off,none⟩) len cap):=fun e' a' ng fo h1 h2=>by
 cases h2;rw[he e' h1];exact⟨c,fz,hb⟩
theorem TyB.len{U:UO Ty den}{w:World}{t:Ty}{a:Addr}{len ng cap:Nat}(h:TyB U w t (.slice (some a) len cap)):TyB U w t (.slice (some a) ng cap):=fun e a' w7 fo h1 h2=>by
 cases h2;exact h e a len cap h1 rfl
def Own(w:World)(g:Gh)(U:UO Ty den)(lf:Leaf Ty den)(v:Value):Prop:=(∀ t l d,lf=.sl t l (some d)→v=g.G d∧U.size t=g.Gs d∧TyB U w t v)∧
 ∀ d off,lf=.ptr d off→∃ b n,g.G d=.slice (some ⟨b,0,none⟩) 0 n∧PtrAt U w b off v
def LRep(U:UO Ty den)(w:World)(g:Gh)(lf:Leaf Ty den)(v:Value):Prop:=CRep U w g.wm lf v∧Own w g U lf v
def LsRep(U:UO Ty den)(w:World)(g:Gh):List (Leaf Ty den)→List Value→Prop
 |[],[]=>True
 |l::ls,v::vs=>LRep U w g l v∧LsRep U w g ls vs
 |_,_=>False
def BoxOk(U:UO Ty den)(w:World)(g:Gh)(d:Nat)(ls:List (Leaf Ty den)):Prop:=
 ∃ b,g.G d=.slice (some ⟨b,0,none⟩) 0 ls.length∧0<ls.length∧g.Gs d=1∧∀(j:Nat) lf,ls[j]?=some lf→∃ u,w.cell? ⟨b,j,none⟩=some u∧u.oneCell'=true∧u.cells= #[u]∧LRep U w g lf u
def ERep(U:UO Ty den)(w:World)(g:Gh)(e:Ent Ty den)(v:Value):Prop:=
 match e with
 | .one l=>LRep U w g l v
 | .tup ls=>∃ vs:List Value,v=.tuple vs.toArray∧LsRep U w g ls vs
 | .iter s pos=>∃ b,v=.pointer (some ⟨b,0,none⟩)∧w.heap[b]?=some (.stringIter ⟨s.toArray⟩ pos)
 | .bx d ls=>BoxOk U w g d ls
 | .st ls=>∃ vs:List Value,v=.agg vs.toArray∧LsRep U w g ls vs∧∀ u∈vs,u.oneCell'=true∧u.cells= #[u]
def Tip(w:World)(wm:Nat→Nat)(v:Value)(sz:Nat):Prop:=
 ∃ a len cap,v=.slice a len cap∧len≤cap∧(cap=0∨∃ b off c e fz,a=some ⟨b,off,none⟩∧w.heap[b]?=some (.cells c e fz)∧off+cap*sz≤c.size∧
  wm b=off+len*sz∧fz.2≤wm b)
def spare(v:Value):Option Nat:=
 match v with
 | .slice (some a) len cap=>if cap=0 then none else some a.block
 |_=>none
structure Bs where
 w:World
 wm:Nat→Nat
 M:Nat→Prop
 np:Nat
 pv:Nat→Value
structure Rel(U:UO Ty den)(B:Bs)(g:Gh)(s:St Ty den)(a:Act)(w:World):Prop where
 os:w.os=B.w.os
 tape:w.tape=B.w.tape
 output:w.output=B.w.output
 size:B.w.heap.size≤w.heap.size
 frame:∀ b,b<B.w.heap.size→¬B.M b→w.heap[b]?=B.w.heap[b]? ∧g.wm b=B.wm b
 ext:Ext B.w B.wm w g.wm
 zero:∀ b,w.heap.size≤b→g.wm b=0
 ent:∀ i,ERep U w g (s.get i) (a.tmps.getD i undef)
 tip:∀ d,mem d s.live=true→Tip w g.wm (g.G d) (g.Gs d)
 disj:∀ d e b,mem d s.live=true→mem e s.live=true→d≠e→spare (g.G d)=some b→spare (g.G e)≠some b
 mine:∀ d b,mem d s.live=true→spare (g.G d)=some b→B.w.heap.size≤b∨B.M b
 iter:∀ i c pos,s.get i=.iter c pos→a.tmps.getD i undef=.pointer (some ⟨g.ib i,0,none⟩)∧B.w.heap.size≤g.ib i
 idis:∀ i j c p c' p',i≠j→s.get i=.iter c p→s.get j=.iter c' p'→g.ib i≠g.ib j
 defers:a.defers=[]
 bxl:∀ i d ls,s.get i=.bx d ls→mem d s.live=true∧i=1000000+d
 pin:∀ i,i<B.np→a.tmps.getD i undef=B.pv i
def REL(U:UO Ty den)(B:Bs)(s:St Ty den)(a:Act)(w:World):Prop:=∃ g,Rel U B g s a w
end Go.Aev
namespace Go.Aev
variable {Ty:Type}{den:Ty→Type}
theorem F6(a b:Nat):Ai a b=true↔a=b:=Nat.beq_eq ▸ Iff.rfl
theorem L2{a b:Nat}(h:a≠b):Ai a b=false:=by
 cases hb:Ai a b with
 |false=>rfl
 |true=>exact absurd ((F6 a b).1 hb) h
theorem H4(a:Nat):Ai a a=true:=(F6 a a).2 rfl
theorem T9(d e:Nat)(l:List Nat):mem e (rem d l)=true↔mem e l=true∧e≠d:=by
 induction l with
 |nil=>simp[mem,rem]
 |cons x l ih=>
  by_cases hx:x=d
  ·subst hx;simp only[rem,H4,cond_true,mem,ih];by_cases he:x=e
   ·subst he;simp
   ·rw[L2 he];simp
  ·simp only[rem,L2 hx,cond_false,mem];by_cases he:x=e
   ·subst he;simp[H4,hx]
   ·simp only[L2 he,cond_false,ih]
theorem mem_cons(d e:Nat)(l:List Nat):mem e (d::l)=true↔d=e∨mem e l=true:=by
 by_cases h:d=e
 ·subst h;simp[mem,H4]
 ·simp[mem,L2 h,h]
theorem C2y(fr:List (Nat×Ent Ty den))(i j:Nat)(e:Ent Ty den):look (ins fr i e) j=if i=j then e else look fr j:=by
 induction fr with
 |nil=>
  by_cases h:i=j
  ·simp[ins,look,h,H4]
  ·simp[ins,look,L2 h,h]
 |cons p r ih=>
  obtain⟨k,x⟩:=p;by_cases hk:k=i
  ·subst hk;simp only[ins,H4,cond_true,look];by_cases h:k=j
   ·simp[h,H4]
   ·simp[L2 h,h]
  ·simp only[ins,L2 hk,cond_false];cases hb:Bf i k with
   |true=>
    simp only[cond_true,look];by_cases h:i=j
    ·simp[h,H4]
    ·simp[L2 h,h]
   |false=>
    simp only[cond_false,look,ih];by_cases h:k=j
    ·subst h;simp[H4,Bt hk]
    ·simp[L2 h]
theorem D1f(fr:List (Nat×Ent Ty den))(ds:List Nat)(i:Nat):look (del fr ds) i=.one .any∨look (del fr ds) i=look fr i:=by
 induction fr with
 |nil=>exact .inl rfl
 |cons p r ih=>
  obtain⟨k,x⟩:=p;simp only[del];cases hm:mem k ds with
  |true=>
   simp only[cond_true,look];by_cases h:k=i
   ·subst h
    left
    clear ih
    induction r with
    |nil=>rfl
    |cons q r vu=>
     obtain⟨k2,x2⟩:=q;simp only[del];cases eH:mem k2 ds with
     |true=>simpa using vu
     |false=>
      simp only[cond_false,look];by_cases h2:k2=k
      ·subst h2;rw[hm]at eH;cases eH
      ·simp only[L2 h2,cond_false];exact vu
   ·simp only[L2 h,cond_false];exact ih
  |false=>
   simp only[cond_false,look];by_cases h:k=i
   ·simp[h,H4]
   ·simp only[L2 h,cond_false];exact ih
theorem B4n(d:Nat)(fr:List (Nat×Ent Ty den))(i:Nat):look (A5T d fr) i=(look fr i).strip d:=by
 induction fr with
 |nil=>rfl
 |cons p r ih=>
  obtain⟨k,x⟩:=p;simp only[A5T,look];by_cases h:k=i
  ·simp[h,H4]
  ·simp only[L2 h,cond_false];exact ih
theorem B5I{d e:Nat}:∀{l:List Nat},mem e (A2y d l)=true→d=e∨mem e l=true
 |[],h=>by
  simp only[A2y]at h;rw[mem_cons]at h;exact h
 |x::r,h=>by
  simp only[A2y]at h;cases hb:Bf d x with
  |true=>
   rw[hb]at h;simp only[cond_true]at h;rw[mem_cons]at h;exact h
  |false=>
   rw[hb]at h;simp only[cond_false]at h;rw[mem_cons]at h ⊢;rcases h with h|h
   ·exact .inr (.inl h)
   ·exact(B5I h).imp id .inr
theorem B2Y{fr:List (Nat×Ent Ty den)}{d:Nat}:∀{l:List Nat},mem d (gcN fr l)=true→mem d l=true
 |[],h=>h
 |e::r,h=>by
  simp only[gcN]at h;cases hh:A0Q e fr with
  |true=>
   rw[hh]at h;simp only[cond_true]at h;rw[mem_cons];exact(B5I h).imp id B2Y
  |false=>
   rw[hh]at h;simp only[cond_false]at h;rw[mem_cons];exact .inr (B2Y h)
theorem K3(s:St Ty den)(i j:Nat)(e:Ent Ty den):(s.set i e).get j=if i=j then e else s.get j:=C2y _ _ _ _
theorem A51(s:St Ty den)(d i:Nat):(s.kill d).get i=(s.get i).strip d:=B4n _ _ _
theorem A2x(s:St Ty den)(d i:Nat):(s.fresh d).get i=(s.get i).strip d:=B4n _ _ _
theorem A78(a:Act)(d i:Nat)(v:Value)(h:d<a.tmps.size):(a.put (some d) v).tmps.getD i undef=if d=i then v else a.tmps.getD i undef:=by
 simp only[En,El,Fq];by_cases hd:d=i
 ·subst hd;simp[h]
 ·simp[hd]
theorem Z4(a:Act)(d:Option Nat)(v:Value):(a.put d v).tmps.size=a.tmps.size:=by
 cases d<;>simp[En]
theorem B0h(a:Act)(d:Option Nat)(v:Value):(a.put d v).defers=a.defers:=by
 cases d<;>simp[En]
theorem Leaf.strip_cases(d:Nat)(lf:Leaf Ty den):lf.strip d=lf∨(∃ t l,lf=.sl t l (some d)∧lf.strip d=.sl t l none)∨∃ o,lf=.ptr d o∧lf.strip d=.any:=by
 cases lf with
 |sl t l o=>
  cases o with
  |none=>exact .inl rfl
  |some e=>
   by_cases h:e=d
   ·subst h;exact .inr (.inl ⟨t,l,rfl,by simp[Leaf.strip,H4]⟩)
   ·exact .inl (by simp[Leaf.strip,L2 h])
 |ptr e o=>
  by_cases h:e=d
  ·subst h;exact .inr (.inr ⟨o,rfl,by simp[Leaf.strip,H4]⟩)
  ·exact .inl (by simp[Leaf.strip,L2 h])
 |_=>exact .inl rfl
theorem Leaf.strip_ptr(d e o:Nat)(lf:Leaf Ty den)(h:lf.strip d=.ptr e o):e≠d∧lf=.ptr e o:=by
 cases lf with
 |sl t' l' o=>
  cases o<;>simp[Leaf.strip]at h
 |ptr x y=>
  by_cases hx:x=d
  ·subst hx;simp[Leaf.strip,H4]at h
  ·simp only[Leaf.strip,L2 hx,cond_false]at h;have h2:=h;simp only[Leaf.ptr.injEq]at h2;exact⟨by rw[←h2.1];exact hx,h⟩
 |_=>simp[Leaf.strip]at h
theorem Leaf.strip_own(d e:Nat)(lf:Leaf Ty den)(t:Ty)(l:List (den t))(h:lf.strip d=.sl t l (some e)):e≠d∧lf=.sl t l (some e):=by
 cases lf with
 |sl t' l' o=>
  cases o with
  |none=>simp[Leaf.strip]at h
  |some x=>
   by_cases hx:x=d
   ·subst hx;simp[Leaf.strip,H4]at h
   ·simp only[Leaf.strip,L2 hx,cond_false]at h;have h2:=h;simp only[Leaf.sl.injEq,Be]at h2;obtain⟨_,_,rfl⟩:=h2;exact⟨hx,h⟩
 |ptr x y=>
  by_cases hx:x=d
  ·subst hx;simp[Leaf.strip,H4]at h
  ·simp[Leaf.strip,L2 hx]at h
 |_=>simp[Leaf.strip]at h
variable {U:UO Ty den}
theorem CRep.strip{w:World}{wm:Nat→Nat}{lf:Leaf Ty den}{v:Value}(h:CRep U w wm lf v)(d:Nat):CRep U w wm (lf.strip d) v:=by
 rcases lf.strip_cases d with e|⟨t,l,rfl,e⟩|⟨o,rfl,e⟩
 ·rw[e];exact h
 ·rw[e];exact h.own none
 ·rw[e];exact .any v
structure Gh.off(g g':Gh)(d:Nat):Prop where
 G:∀ e,e≠d→g'.G e=g.G e
 Gs:∀ e,e≠d→g'.Gs e=g.Gs e
theorem LRep.step(hU:U.Ok){w w':World}{g g':Gh}{d:Nat}(hx:Ext w g.wm w' g'.wm)(ho:g.off g' d){lf:Leaf Ty den}{v:Value}(h:LRep U w g lf v):LRep U w' g' (lf.strip d) v:=by
 refine⟨(h.1.strip d).mono hU hx,fun t l e he=>?_,fun e o he=>?_⟩
 ·obtain⟨h1,h2⟩:=Leaf.strip_own d e lf t l he;rw[ho.G e h1,ho.Gs e h1];have:=h.2.1 t l e h2;exact⟨this.1,this.2.1,this.2.2.ext hx⟩
 ·obtain⟨h1,h2⟩:=Leaf.strip_ptr d e o lf he;rw[ho.G e h1];obtain⟨b,n,h3,h4⟩:=h.2.2 e o h2;exact⟨b,n,h3,h4.mono hx⟩
theorem LsRep.step(hU:U.Ok){w w':World}{g g':Gh}{d:Nat}(hx:Ext w g.wm w' g'.wm)(ho:g.off g' d):∀{ls:List (Leaf Ty den)}{vs:List Value},LsRep U w g ls vs→LsRep U w' g' (ls.map (·.strip d)) vs
 |[],[],_=>trivial
 |_::_,_::_,h=>⟨h.1.step hU hx ho,LsRep.step hU hx ho h.2⟩
theorem BoxOk.spare{w:World}{g:Gh}{d:Nat}{ls:List (Leaf Ty den)}(h:BoxOk U w g d ls):∃ b,g.G d=.slice (some ⟨b,0,none⟩) 0 ls.length∧Go.Aev.spare (g.G d)=some b:=by
 obtain⟨b,h1,h2,_⟩:=h;refine⟨b,h1,?_⟩;rw[h1];simp only[Go.Aev.spare];rw[if_neg (by omega)]
theorem BoxOk.step(hU:U.Ok){w w':World}{g g':Gh}{d d':Nat}{ls:List (Leaf Ty den)}(hx:Ext w g.wm w' g'.wm)(ho:g.off g' d)(h:BoxOk U w g d' ls)(hd:d'≠d)(hb:∀ b,Go.Aev.spare (g.G d')=some b→w'.heap[b]?=w.heap[b]?):BoxOk U w' g' d' (ls.map (·.strip d)):=by
 obtain⟨b0,e1,e2⟩:=h.spare;obtain⟨b,h1,h2,h3,h4⟩:=h;rw[h1]at e1;cases e1;refine⟨b0,by rw[ho.G d' hd,h1,Ef],by rw[Ef];exact h2,by rw[ho.Gs d' hd,h3],fun j lf hj=>?_⟩;rw[Bo]at hj;obtain⟨l0,di,rfl⟩:=Di.1 hj;obtain⟨u,u1,u2,u3,u4⟩:=h4 j l0 di;exact⟨u,by rw[←u1];exact Bx (a:=⟨b0,j,none⟩) (hb b0 e2),u2,u3,u4.step hU hx ho⟩
theorem ERep.step(hU:U.Ok){w w':World}{g g':Gh}{d:Nat}(hx:Ext w g.wm w' g'.wm)(ho:g.off g' d){e:Ent Ty den}{v:Value}(h:ERep U w g e v)
  (hi:∀ c pos,e=.iter c pos→∀ b,v=.pointer (some ⟨b,0,none⟩)→w'.heap[b]?=w.heap[b]?)
  (hb:∀ d' ls,e=.bx d' ls→d'≠d→∀ b,spare (g.G d')=some b→w'.heap[b]?=w.heap[b]?):ERep U w' g' (e.strip d) v:=by
 cases e with
 |bx d' ls=>
  simp only[Ent.strip];by_cases hd:d'=d
  ·subst hd;rw[H4];exact⟨.any v,fun t l d h=>by(cases h),fun _ _ h=>by(cases h)⟩
  ·rw[L2 hd];exact BoxOk.step hU hx ho h hd (hb d' ls rfl hd)
 |one l=>exact LRep.step hU hx ho h
 |tup ls=>obtain⟨vs,hv,hr⟩:=h;exact⟨vs,hv,LsRep.step hU hx ho hr⟩
 |st ls=>obtain⟨vs,hv,hr,h1⟩:=h;exact⟨vs,hv,LsRep.step hU hx ho hr,h1⟩
 |iter c pos=>
  obtain⟨b,hv,hb⟩:=h;exact⟨b,hv,(hi c pos rfl b hv).trans hb⟩
theorem LRep.same(hU:U.Ok){w w':World}{g g':Gh}(hx:Ext w g.wm w' g'.wm)(hG:g'.G=g.G)(dD:g'.Gs=g.Gs){lf:Leaf Ty den}{v:Value}(h:LRep U w g lf v):LRep U w' g' lf v:=
 ⟨h.1.mono hU hx,fun t l e he=>by rw[hG,dD];have:=h.2.1 t l e he;exact⟨this.1,this.2.1,this.2.2.ext hx⟩,fun e o he=>by rw[hG];obtain⟨b,n,h3,h4⟩:=h.2.2 e o he;exact⟨b,n,h3,h4.mono hx⟩⟩
theorem BoxOk.same(hU:U.Ok){w w':World}{g g':Gh}{d:Nat}{ls:List (Leaf Ty den)}(hx:Ext w g.wm w' g'.wm)(hG:g'.G=g.G)(dD:g'.Gs=g.Gs)(h:BoxOk U w g d ls)(hb:∀ b,Go.Aev.spare (g.G d)=some b→w'.heap[b]?=w.heap[b]?):BoxOk U w' g' d ls:=by
 obtain⟨b0,e1,e2⟩:=h.spare;obtain⟨b,h1,h2,h3,h4⟩:=h;rw[h1]at e1;cases e1;refine⟨b0,by rw[hG,h1],h2,by rw[dD,h3],fun j lf hj=>?_⟩;obtain⟨u,u1,u2,u3,u4⟩:=h4 j lf hj;exact⟨u,by rw[←u1];exact Bx (a:=⟨b0,j,none⟩) (hb b0 e2),u2,u3,u4.same hU hx hG dD⟩
theorem LsRep.same(hU:U.Ok){w w':World}{g g':Gh}(hx:Ext w g.wm w' g'.wm)(hG:g'.G=g.G)(dD:g'.Gs=g.Gs):∀{ls:List (Leaf Ty den)}{vs:List Value},LsRep U w g ls vs→LsRep U w' g' ls vs
 |[],[],_=>trivial
 |_::_,_::_,h=>⟨h.1.same hU hx hG dD,LsRep.same hU hx hG dD h.2⟩
theorem ERep.same(hU:U.Ok){w w':World}{g g':Gh}(hx:Ext w g.wm w' g'.wm)(hG:g'.G=g.G)(dD:g'.Gs=g.Gs){e:Ent Ty den}{v:Value}(h:ERep U w g e v)
  (hi:∀ c pos,e=.iter c pos→∀ b,v=.pointer (some ⟨b,0,none⟩)→w'.heap[b]?=w.heap[b]?)
  (hb:∀ d' ls,e=.bx d' ls→∀ b,spare (g.G d')=some b→w'.heap[b]?=w.heap[b]?):ERep U w' g' e v:=by
 cases e with
 |bx d' ls=>exact BoxOk.same hU hx hG dD h (hb d' ls rfl)
 |one l=>exact LRep.same hU hx hG dD h
 |tup ls=>obtain⟨vs,hv,hr⟩:=h;exact⟨vs,hv,LsRep.same hU hx hG dD hr⟩
 |st ls=>obtain⟨vs,hv,hr,h1⟩:=h;exact⟨vs,hv,LsRep.same hU hx hG dD hr,h1⟩
 |iter c pos=>
  obtain⟨b,hv,hb⟩:=h;exact⟨b,hv,(hi c pos rfl b hv).trans hb⟩
theorem ERep.any(w:World)(g:Gh)(v:Value):ERep U w g (.one .any:Ent Ty den) v:=⟨.any v,fun t l d h=>by(cases h),fun _ _ h=>by(cases h)⟩
def Ent.isIter:Ent Ty den→Bool
 | .iter _ _=>true
 | .bx _ _=>true
 |_=>false
variable {B:Bs}{g:Gh}{s:St Ty den}{a:Act}{w:World}
theorem Rel.set(h:Rel U B g s a w){e:Ent Ty den}{v:Value}(he:ERep U w g e v)(hi:e.isIter=false)(d:Nat)(hd:d<a.tmps.size∧B.np≤d):Rel U B g (s.set d e) (a.put (some d) v) w:=by
 have w9:=hd.2;have hd:=hd.1;have aI:=A78 a d;refine{h with ent:=fun i=>?_,iter:=fun i c pos hc=>?_,idis:=fun i j c p c' p' cB h1 h2=>?_,defers:=by rw[B0h];exact h.defers,bxl:=fun i e ls hc=>?_,pin:=fun i hi=>by rw[aI i v hd,if_neg (by omega)];exact h.pin i hi}
 ·rw[K3,aI i v hd];by_cases cG:d=i
  ·simp only[if_pos cG];exact he
  ·simp only[if_neg cG];exact h.ent i
 ·rw[K3]at hc;rw[aI i v hd];by_cases cG:d=i
  ·rw[if_pos cG]at hc;subst hc;cases hi
  ·rw[if_neg cG]at hc ⊢;exact h.iter i c pos hc
 ·rw[K3]at h1 h2;by_cases cG:d=i
  ·rw[if_pos cG]at h1;subst h1;cases hi
  ·by_cases ju:d=j
   ·rw[if_pos ju]at h2;subst h2;cases hi
   ·rw[if_neg cG]at h1;rw[if_neg ju]at h2;exact h.idis i j c p c' p' cB h1 h2
 ·rw[K3]at hc;by_cases cG:d=i
  ·rw[if_pos cG]at hc;subst hc;cases hi
  ·rw[if_neg cG]at hc;exact h.bxl i e ls hc
theorem Rel.weaken{s':St Ty den}(h:Rel U B g s a w)(he:∀ i,s'.get i=.one .any∨s'.get i=s.get i)(hl:∀ d,mem d s'.live=true→mem d s.live=true)(pw:∀ i d ls,s'.get i=.bx d ls→mem d s.live=true→mem d s'.live=true):Rel U B g s' a w:=by
 refine{h with ent:=fun i=>?_,tip:=fun d hd=>h.tip d (hl d hd),disj:=fun d e b hd px=>h.disj d e b (hl d hd) (hl e px),mine:=fun d b hd=>h.mine d b (hl d hd),iter:=fun i c pos hc=>?_,idis:=fun i j c p c' p' cB h1 h2=>?_,bxl:=fun i d ls hc=>?_}
 ·rcases he i with h1|h1
  ·rw[h1];exact .any _ _ _
  ·rw[h1];exact h.ent i
 ·rcases he i with h1|h1
  ·rw[h1]at hc;cases hc
  ·rw[h1]at hc;exact h.iter i c pos hc
 ·rcases he i with e1|e1
  ·rw[e1]at h1;cases h1
  ·rcases he j with e2|e2
   ·rw[e2]at h2;cases h2
   ·rw[e1]at h1;rw[e2]at h2;exact h.idis i j c p c' p' cB h1 h2
 ·have dx:=hc;rcases he i with e1|e1
  ·rw[e1]at hc;cases hc
  ·rw[e1]at hc;obtain⟨h1,h2⟩:=h.bxl i d ls hc;exact⟨pw i d ls dx h1,h2⟩
theorem C6B{fr:List (Nat×Ent Ty den)}{d:Nat}:∀{i:Nat}{e:Ent Ty den},look fr i=e→e.has d=true→A0Q d fr=true:=by
 induction fr with
 |nil=>intro i e h1 h2;simp only[look]at h1;subst h1;cases h2
 |cons p r ih=>
  obtain⟨k,x⟩:=p;intro i e h1 h2;simp only[look]at h1;simp only[A0Q];cases hx:x.has d with
  |true=>rfl
  |false=>
   cases hk:Ai k i with
   |true=>rw[hk]at h1;simp only[cond_true]at h1;subst h1;rw[hx]at h2;cases h2
   |false=>rw[hk]at h1;exact ih h1 h2
theorem A7n{d e:Nat}:∀{l:List Nat},d=e∨mem e l=true→mem e (A2y d l)=true
 |[],h=>by
  simp only[A2y];rw[mem_cons];exact h
 |x::r,h=>by
  simp only[A2y];cases hb:Bf d x with
  |true=>simp only[cond_true];rw[mem_cons];exact h
  |false=>
   simp only[cond_false];rw[mem_cons];rcases h with h|h
   ·exact .inr (A7n (.inl h))
   ·rw[mem_cons]at h;exact h.imp id fun h=>A7n (.inr h)
theorem B0q{fr:List (Nat×Ent Ty den)}{d:Nat}(hd:A0Q d fr=true):∀{l:List Nat},mem d l=true→mem d (gcN fr l)=true
 |[],h=>h
 |e::r,h=>by
  simp only[gcN];rw[mem_cons]at h;rcases h with h|h
  ·subst h;rw[hd];exact A7n (.inl rfl)
  ·cases A0Q e fr with
   |true=>exact A7n (.inr (B0q hd h))
   |false=>exact B0q hd h
theorem Rel.clean(h:Rel U B g s a w)(ds:List Nat):Rel U B g (s.dels ds).gc a w:=
 h.weaken (fun i=>D1f _ _ _) (fun _ hd=>B2Y hd) (fun i d ls hi hd=>B0q (C6B hi (by simp[Ent.has,H4])) hd)
theorem Rel.world(hU:U.Ok)(h:Rel U B g s a w){w':World}{wm':Nat→Nat}(lD:w'.os=w.os)(dO:w'.tape=w.tape)(eP:w'.output=w.output)(aC:w.heap.size≤w'.heap.size)
  (hx:Ext w g.wm w' wm')(M:Nat→Prop)(xa:∀ b,M b→∃ c e fz,w.heap[b]?=some (.cells c e fz))(vw:∀ d b,mem d s.live=true→spare (g.G d)=some b→¬M b∨(Tip w' wm' (g.G d) (g.Gs d)∧∀ i ls,s.get i≠ .bx d ls))
  (xb:∀ b,M b→B.w.heap.size≤b∨B.M b)
  (oT:∀ b,b<w.heap.size→¬M b→w'.heap[b]?=w.heap[b]? ∧wm' b=g.wm b)(hz:∀ b,w'.heap.size≤b→wm' b=0):Rel U B {g with wm:=wm'} s a w':=by
 have aB:∀{b:Nat}{o:Obj},w.heap[b]?=some o→b<w.heap.size:=fun hb=>(Cf.1 hb).1;refine{os:=lD.trans h.os,tape:=dO.trans h.tape,output:=eP.trans h.output,size:=Cw h.size aC,frame:=fun b hb hM=>?_,ext:=h.ext.trans hx,zero:=hz,ent:=fun i=>ERep.same (g':={g with wm:=wm'}) hU hx rfl rfl (h.ent i) (fun c pos hc b hv=>?_) (fun d ls hc b hs=>?_),tip:=fun d hd=>?_,disj:=h.disj,mine:=h.mine,iter:=h.iter,idis:=h.idis,defers:=h.defers,bxl:=h.bxl,pin:=h.pin}
 ·have h1:=h.frame b hb hM;have h2:=oT b (Gl hb h.size) (fun e=>by
   rcases xb b e with h3|h3
   ·omega
   ·exact hM h3)
  exact⟨h2.1.trans h1.1,h2.2.trans h1.2⟩
 ·have he:=h.ent i;rw[hc]at he;obtain⟨b',dj,bw⟩:=he;rw[hv]at dj;cases dj;exact(oT b (aB bw) (fun e=>by obtain⟨_,_,_,h3⟩:=xa b e;rw[bw]at h3;cases h3)).1
 ·obtain⟨hl,_⟩:=h.bxl i d ls hc;refine(oT b ?_ ((vw d b hl hs).resolve_right (fun h2=>h2.2 i ls hc))).1;obtain⟨a0,len,cap,hv,aQ,cC⟩:=h.tip d hl;rw[hv]at hs;cases a0 with
  |none=>simp[spare]at hs
  |some a1=>
   by_cases dw:cap=0
   ·simp[spare,dw]at hs
   ·obtain⟨b',off,c,e,fz,ha,hb,_⟩:=cC.resolve_left dw;cases ha;simp[spare,dw]at hs;subst hs;exact aB hb
 ·obtain⟨a0,len,cap,hv,aQ,hc⟩:=h.tip d hd;by_cases dw:cap=0
  ·exact⟨a0,len,cap,hv,aQ,.inl dw⟩
  refine(hc.resolve_left dw).elim fun b cC=>?_;obtain⟨off,c,e,fz,ha,hb,cH,aS,ms⟩:=cC;rcases vw d b hd (by rw[hv,ha];simp[spare,dw])with xc|⟨hT,_⟩
  case inr=>exact hT
  refine⟨a0,len,cap,hv,aQ,.inr ?_⟩;have:=oT b (aB hb) xc;exact⟨b,off,c,e,fz,ha,this.1.trans hb,cH,this.2.trans aS,by show fz.2≤wm' b;rw[this.2];exact ms⟩
def Gh.put(g:Gh)(d:Nat)(v:Value)(sz:Nat):Gh:={g with G:=fun e=>if e=d then v else g.G e,Gs:=fun e=>if e=d then sz else g.Gs e}
theorem Gh.put_off(g:Gh)(d:Nat)(v:Value)(sz:Nat):g.off (g.put d v sz) d:=
 ⟨fun e he=>by simp[Gh.put,he],fun e he=>by simp[Gh.put,he]⟩
theorem Ent.strip_iter{d:Nat}{e:Ent Ty den}{c:List UInt8}{pos:Nat}(h:e.strip d=.iter c pos):e=.iter c pos:=by
 cases e with
 |iter c' p'=>simpa [Ent.strip]using h
 |one l=>simp[Ent.strip]at h
 |tup ls=>simp[Ent.strip]at h
 |st ls=>simp[Ent.strip]at h
 |bx d' ls=>
  simp only[Ent.strip]at h;cases hb:Ai d' d<;>rw[hb]at h<;>cases h
theorem Ent.strip_bx{d d':Nat}{e:Ent Ty den}{ls:List (Leaf Ty den)}(h:e.strip d=.bx d' ls):d'≠d∧∃ bh,e=.bx d' bh:=by
 cases e with
 |iter c' p'=>simp[Ent.strip]at h
 |one l=>simp[Ent.strip]at h
 |tup ls=>simp[Ent.strip]at h
 |st ls=>simp[Ent.strip]at h
 |bx x y=>
  simp only[Ent.strip]at h;by_cases hx:x=d
  ·subst hx;rw[H4]at h;cases h
  ·rw[L2 hx]at h;simp only[cond_false,Ent.bx.injEq]at h;obtain⟨rfl,_⟩:=h;exact⟨hx,y,rfl⟩
theorem Rel.fresh(hU:U.Ok)(h:Rel U B g s a w)(d:Nat)(v:Value)(sz:Nat)(ht:Tip w g.wm v sz)
  (hd:∀ e b,mem e s.live=true→e≠d→spare v=some b→spare (g.G e)≠some b)(hm:∀ b,spare v=some b→B.w.heap.size≤b∨B.M b):
  Rel U B (g.put d v sz) (s.fresh d) a w:=by
 have hG:∀ e,e≠d→(g.put d v sz).G e=g.G e:=fun e he=>by simp[Gh.put,he]
 have dD:∀ e,e≠d→(g.put d v sz).Gs e=g.Gs e:=fun e he=>by simp[Gh.put,he]
 have jH:(g.put d v sz).G d=v:=by simp[Gh.put]
 have ss:(g.put d v sz).Gs d=sz:=by simp[Gh.put]
 have aM:∀ e,mem e (s.fresh d).live=true→e=d∨(e≠d∧mem e s.live=true):=fun e he=>by
  simp only[St.fresh]at he;rw[mem_cons,T9]at he;rcases he with rfl|⟨h1,h2⟩
  ·exact .inl rfl
  ·exact .inr ⟨h2,h1⟩
 refine{os:=h.os,tape:=h.tape,output:=h.output,size:=h.size,frame:=h.frame,ext:=h.ext,zero:=h.zero,ent:=fun i=>?_,tip:=fun e he=>?_,disj:=fun e f b he hf az h1=>?_,mine:=fun e b he h1=>?_,iter:=fun i c pos hc=>?_,idis:=fun i j c p c' p' cB h1 h2=>?_,defers:=h.defers,bxl:=fun i e ls hc=>?_,pin:=h.pin}
 ·rw[A2x];exact ERep.step (g':=g.put d v sz) (w':=w) hU (Ext.refl w g.wm) (g.put_off d v sz) (h.ent i) (fun _ _ _ _ _=>rfl) (fun _ _ _ _ _ _=>rfl)
 ·rcases aM e he with rfl|⟨h1,h2⟩
  ·rw[jH,ss];exact ht
  ·rw[hG e h1,dD e h1];exact h.tip e h2
 ·rcases aM e he with rfl|⟨e1,e2⟩
  ·rcases aM f hf with rfl|⟨f1,f2⟩
   ·exact absurd rfl az
   ·rw[jH]at h1;rw[hG f f1];exact hd f b f2 f1 h1
  ·rw[hG e e1]at h1;rcases aM f hf with rfl|⟨f1,f2⟩
   ·rw[jH];exact fun h2=>hd e b e2 e1 h2 h1
   ·rw[hG f f1];exact h.disj e f b e2 f2 az h1
 ·rcases aM e he with rfl|⟨e1,e2⟩
  ·rw[jH]at h1;exact hm b h1
  ·rw[hG e e1]at h1;exact h.mine e b e2 h1
 ·rw[A2x]at hc;exact h.iter i c pos (Ent.strip_iter hc)
 ·rw[A2x]at h1 h2;exact h.idis i j c p c' p' cB (Ent.strip_iter h1) (Ent.strip_iter h2)
 ·rw[A2x]at hc;obtain⟨h1,bh,h2⟩:=Ent.strip_bx hc;obtain⟨h3,h4⟩:=h.bxl i e bh h2;refine⟨?_,h4⟩;simp only[St.fresh];rw[mem_cons,T9];exact .inr ⟨h3,h1⟩
theorem Rel.kill(hU:U.Ok)(h:Rel U B g s a w)(d:Nat):Rel U B g (s.kill d) a w:=by
 have aM:∀ e,mem e (s.kill d).live=true→mem e s.live=true:=fun e he=>((T9 d e s.live).1 he).1;refine{h with ent:=fun i=>?_,tip:=fun e he=>h.tip e (aM e he),disj:=fun e f b he hf=>h.disj e f b (aM e he) (aM f hf),mine:=fun e b he=>h.mine e b (aM e he),iter:=fun i c pos hc=>?_,idis:=fun i j c p c' p' cB h1 h2=>?_,bxl:=fun i e ls hc=>?_}
 ·rw[A51];exact(h.ent i).step hU (Ext.refl _ _) ⟨fun _ _=>rfl,fun _ _=>rfl⟩ (fun _ _ _ _ _=>rfl) (fun _ _ _ _ _ _=>rfl)
 ·rw[A51]at hc;exact h.iter i c pos (Ent.strip_iter hc)
 ·rw[A51]at h1 h2;exact h.idis i j c p c' p' cB (Ent.strip_iter h1) (Ent.strip_iter h2)
 ·rw[A51]at hc;obtain⟨h1,bh,h2⟩:=Ent.strip_bx hc;obtain⟨h3,h4⟩:=h.bxl i e bh h2;exact⟨(T9 d e s.live).2 ⟨h3,h1⟩,h4⟩
theorem A2U{w:World}{wm:Nat→Nat}{v:Value}{sz b:Nat}(h:Tip w wm v sz)(hs:spare v=some b):∃ c e fz,w.heap[b]?=some (.cells c e fz):=by
 obtain⟨a0,len,cap,rfl,aQ,cC⟩:=h;cases a0 with
 |none=>simp[spare]at hs
 |some a1=>
  by_cases dw:cap=0
  ·simp[spare,dw]at hs
  ·obtain⟨b',off,c,e,fz,ha,hb,_⟩:=cC.resolve_left dw;cases ha;simp[spare,dw]at hs;subst hs;exact⟨c,e,fz,hb⟩
end Go.Aev
namespace Go.Aev
variable {Ty:Type}{den:Ty→Type}
def S3(P:Bi)(U:UO Ty den)(t:Ba):TK Ty→Prop
 | .int k=>P.underlying t=some (.int k)
 | .str=>P.underlying t=some .string
 | .bool=>P.underlying t=some .bool
 | .slice u e=>(P.underlying t=some (.slice e)∧∃ i z,P.info? e=some i∧i.size=U.size u∧i.bytes=U.bytes u∧i.zero=some z∧z.cells.size=U.size u)∧∀ e',U.ety u=some e'→e'=e
 | .struct u pl=>∃ fs i z,P.underlying t=some (.struct fs)∧fs.toList.mapM (fun f=>(P.info? f.type).map fun i=>(f.offset,i.size))=some pl∧
  P.info? t=some i∧i.size=U.size u∧i.zero=some z∧z.cells.size=U.size u
 | .iface u=>(∃ m,P.underlying t=some (.interface m))∧U.size u=1
 | .other=>True
section
variable {U:UO Ty den}{w:World}{g:Gh}{wm:Nat→Nat}
theorem CRep.int_inv{k:Cd}{n:Int}{v:Value}(h:CRep U w wm (.int k n) v):v=.int k n:=by cases h;rfl
theorem CRep.bool_inv{b:Bool}{v:Value}(h:CRep U w wm (.bool b) v):v=.bool b:=by cases h;rfl
theorem CRep.str_inv{s:List UInt8}{v:Value}(h:CRep U w wm (.str s) v):v=.string ⟨s.toArray⟩:=by cases h;rfl
theorem CRep.sl_inv{t:Ty}{l:List (den t)}{o:Option Nat}{v:Value}(h:CRep U w wm (.sl t l o) v):∃ a cap,v=.slice a l.length cap:=by
 cases h with
 |nil t o a cap=>exact⟨a,cap,rfl⟩
 |sl t l o b off cap=>exact⟨_,cap,rfl⟩
theorem LRep.int(k:Cd)(n:Int):LRep U w g (.int k n) (.int k n):=⟨.int k n,fun _ _ _ h=>by(cases h),fun _ _ h=>by(cases h)⟩
theorem LRep.bool(b:Bool):LRep U w g (.bool b) (.bool b):=⟨.bool b,fun _ _ _ h=>by(cases h),fun _ _ h=>by(cases h)⟩
theorem LRep.str(s:List UInt8):LRep U w g (.str s) (.string ⟨s.toArray⟩):=⟨.str s,fun _ _ _ h=>by(cases h),fun _ _ h=>by(cases h)⟩
theorem LRep.any(v:Value):LRep U w g .any v:=⟨.any v,fun _ _ _ h=>by(cases h),fun _ _ h=>by(cases h)⟩
theorem LRep.closed{lf:Leaf Ty den}{v:Value}(h:CRep U w g.wm lf v):LRep U w g lf.close v:=
 ⟨h.close,fun t l d e=>by(cases lf<;>simp[Leaf.close]at e),fun d o e=>by(cases lf<;>simp[Leaf.close]at e)⟩
theorem B6T(s:ByteArray):(⟨s.data.toList.toArray⟩:ByteArray)=s:=by cases s;simp
theorem C0J(v:Value):LRep U w g (B7h v) v:=by
 cases v<;>first
  |exact LRep.int _ _
  |exact LRep.bool _
  |exact LRep.any _
  |(rename_i s;have:=LRep.str (U:=U) (w:=w) (g:=g) s.data.toList;rw[B6T]at this;exact this)
end
section
variable {E:Env Ty den}{B:Bs}{g:Gh}{s:St Ty den}{a:Act}{w:World}
theorem A2M(h:Rel E.U B g s a w)(ty:Ba)(x:Bd):ERep E.U w g (opd E s ty x) (a.eval x):=by
 cases x with
 |tmp t=>
  have he:=h.ent t;simp only[opd,Dh];cases hg:s.get t with
  |iter c p=>exact ERep.any _ _ _
  |one l=>rw[hg]at he;exact he
  |tup ls=>rw[hg]at he;exact he
  |st ls=>rw[hg]at he;exact he
  |bx d ls=>exact ERep.any _ _ _
 |const v=>
  simp only[opd,Dh];split
  ·split
   ·exact⟨.nil _ _ _ _,fun t l d e=>by(simp at e),fun _ _ e=>by(cases e)⟩
   ·exact ERep.any _ _ _
  ·exact C0J v
 |global g'=>exact ERep.any _ _ _
 |func f=>exact ERep.any _ _ _
theorem J1(h:Rel E.U B g s a w)(ty:Ba)(x:Bd):LRep E.U w g (opl E s ty x) (a.eval x):=by
 have he:=A2M h ty x;unfold opl;cases hd:opd E s ty x with
 |one l=>rw[hd]at he;exact he
 |tup ls=>exact LRep.any _
 |st ls=>exact LRep.any _
 |iter c p=>exact LRep.any _
 |bx d ls=>exact LRep.any _
theorem B3z(s:St Ty den)(ty:Ba)(x:Bd):(opd E s ty x).isIter=false:=by
 cases x with
 |tmp t=>
  simp only[opd];cases hg:s.get t<;>rfl
 |const v=>
  simp only[opd];split
  ·split<;>rfl
  ·rfl
 |_=>rfl
theorem Y1{ty:Ba}{x:Bd}{k:Cd}{n:Int}(h:Rel E.U B g s a w)(he:opl E s ty x=.int k n):a.eval x=.int k n:=by
 have:=J1 h ty x;rw[he]at this;exact this.1.int_inv
theorem A5w{ty:Ba}{x:Bd}{b:Bool}(h:Rel E.U B g s a w)(he:opl E s ty x=.bool b):a.eval x=.bool b:=by
 have:=J1 h ty x;rw[he]at this;exact this.1.bool_inv
theorem A3I{ty:Ba}{x:Bd}{c:List UInt8}(h:Rel E.U B g s a w)(he:opl E s ty x=.str c):a.eval x=.string ⟨c.toArray⟩:=by
 have:=J1 h ty x;rw[he]at this;exact this.1.str_inv
theorem REL.setO(h:Rel E.U B g s a w){e:Ent Ty den}{v:Value}(he:ERep E.U w g e v)(hi:e.isIter=false)(d:Option Nat)(hd:∀ i,d=some i→i<a.tmps.size∧B.np≤i):REL E.U B (s.setO d e) (a.put d v) w:=by
 cases d with
 |none=>exact⟨g,h⟩
 |some i=>exact⟨g,h.set he hi i (hd i rfl)⟩
def K0(E:Env Ty den)(B:Bs){R:Type}(o:Oper)(a:Act)(k:Ent Ty den→St Ty den→Option R)(r:R)(next:Act→World→Prop):Prop:=
 ∀ e s' v w',k e s'=some r→REL E.U B (s'.setO o.dst e) (a.put o.dst v) w'→next (a.put o.dst v) w'
variable {P:Bi}{R:Type}{o:Oper}{k:Ent Ty den→St Ty den→Option R}{r:R}{next:Act→World→Prop}{Q:Exit→Act→World→Prop}
theorem R7{v:Value}{w':World}(ag:(Bb a.eval o).run P w=.ok (.value v) w')(hn:next (a.put o.dst v) w'):o.wp P a w next Q:=by
 unfold Dj;rw[ag];exact hn
theorem H8(h:Rel E.U B g s a w)(hd:∀ i,o.dst=some i→i<a.tmps.size∧B.np≤i)(hn:K0 E B o a k r next){e:Ent Ty den}{v:Value}(hk:k e s=some r)
  (he:ERep E.U w g e v)(hi:e.isIter=false)(ag:(Bb a.eval o).run P w=.ok (.value v) w):o.wp P a w next Q:=
 R7 ag (hn e s v w hk (REL.setO h he hi _ hd))
end
section
variable {E:Env Ty den}{B:Bs}{g:Gh}{s:St Ty den}{a:Act}{w:World}
variable {P:Bi}{R:Type}{o:Oper}{k:Ent Ty den→St Ty den→Option R}{r:R}{next:Act→World→Prop}{Q:Exit→Act→World→Prop}
variable (hT:∀ t,S3 P E.U t (E.tb t))(hU:E.U.Ok)
theorem C0A{x:Bd}(ak:o.op=.move x)(h:A9 E o s k=some r)(hr:Rel E.U B g s a w)(hd:∀ i,o.dst=some i→i<a.tmps.size∧B.np≤i)(hn:K0 E B o a k r next):o.wp P a w next Q:=by
 simp only[A9,ak]at h;exact H8 hr hd hn h (A2M hr _ _) (B3z _ _ _) (by simp[Bb,ak])
theorem C2c{c x y:Bd}(ak:o.op=.pick c x y)(h:A9 E o s k=some r)(hr:Rel E.U B g s a w)(hd:∀ i,o.dst=some i→i<a.tmps.size∧B.np≤i)(hn:K0 E B o a k r next):o.wp P a w next Q:=by
 simp only[A9,ak]at h;split at h
 ·rename_i hc;exact H8 (v:=a.eval x) hr hd hn h (show ERep _ _ _ (.one _) _ from J1 hr _ _) rfl (by simp[Bb,ak,A5w hr hc,asBool])
 ·rename_i hc;exact H8 (v:=a.eval y) hr hd hn h (show ERep _ _ _ (.one _) _ from J1 hr _ _) rfl (by simp[Bb,ak,A5w hr hc,asBool])
 ·cases h
theorem LsRep.get{U:UO Ty den}{w:World}{g:Gh}:∀{ls:List (Leaf Ty den)}{vs:List Value},LsRep U w g ls vs→∀{i:Nat}{l:Leaf Ty den},ls[i]?=some l→∃ v,vs[i]?=some v∧LRep U w g l v
 |_::_,_::_,h,0,l,hl=>by simp at hl;subst hl;exact⟨_,rfl,h.1⟩
 |_::_,_::_,h,i+1,l,hl=>by simpa using LsRep.get h.2 (i:=i) (by simpa using hl)
 |[],_,_,i,l,hl=>by simp at hl
theorem D0B{x:Bd}{i:Nat}(ak:o.op=.extract x i)(h:A9 E o s k=some r)(hr:Rel E.U B g s a w)(hd:∀ i,o.dst=some i→i<a.tmps.size∧B.np≤i)(hn:K0 E B o a k r next):o.wp P a w next Q:=by
 simp only[A9,ak]at h;split at h
 ·rename_i ls hx;split at h
  ·rename_i l hl;have he:=A2M hr 0 x;rw[hx]at he;obtain⟨vs,hv,nh⟩:=he;obtain⟨v,ed,aq⟩:=nh.get hl;exact H8 hr hd hn h aq rfl (by simp[Bb,ak,hv,Instr.extract,ed])
  ·cases h
 ·cases h
theorem D02(P:Bi)(w:World)(t:Ba)(a b:Int)(k':Cd)(h0:0≤b)(h1:b≤31):(binOp .shr t (.int .i32 a) (.int k' b)).run P w=.ok (.int .i32 (a / 2^b.toNat)) w:=by
 rw[binOp_shr,shift_shr_i32 _ _ _ h0 (by omega)];rfl
theorem C8D(P:Bi)(w:World)(t:Ba)(a b:Int)(k':Cd)(h0:0≤b)(h1:b≤31):(binOp .shl t (.int .i32 a) (.int k' b)).run P w=.ok (.int .i32 (IntKind.i32.wrap (a*2^b.toNat))) w:=by
 rw[binOp_shl,shift_shl_i32 _ _ _ h0 (by omega)];rfl
theorem C0{α:Type}{c:Bool}{x:Option α}{y:α}(h:(bif c then x else none)=some y):c=true∧x=some y:=by
 cases c with
 |true=>exact⟨rfl,h⟩
 |false=>cases h
theorem C9T(op:BinOp)(k0:Cd)(x y:Int)(l:Leaf Ty den)(t:Ba)(h:B3B op k0 x y=some l):
  ∃ v,(binOp op t (.int k0 x) (.int k0 y)).run P w=.ok v w∧LRep E.U w g l v:=by
 cases op<;>simp only[B3B,Be,reduceCtorEq]at h<;>subst h<;>
  first
  |(refine⟨_,?_,LRep.int _ _⟩;simp[binOp,Op.intArith];done)
  |(refine⟨_,?_,LRep.bool _⟩;simp[binOp,Op.intCmp];done)
  |(refine⟨_,?_,LRep.int _ _⟩;first|(rw[binOp_and,intBits_and];rfl)|(rw[binOp_or,intBits_or];rfl))
include hT in
theorem C2O{op:BinOp}{t yt:Ba}{x y:Bd}(ak:o.op=.binOp op t x y yt)(h:A9 E o s k=some r)(hr:Rel E.U B g s a w)(hd:∀ i,o.dst=some i→i<a.tmps.size∧B.np≤i)(hn:K0 E B o a k r next):o.wp P a w next Q:=by
 simp only[A9,ak]at h;split at h
 ·rename_i k0 x' k1 y' hx hy;have ex:=Y1 hr hx;have ey:=Y1 hr hy;have fin:∀(l:Leaf Ty den)(v:Value),k (.one l) s=some r→(binOp op t (.int k0 x') (.int k1 y')).run P w=.ok v w→LRep E.U w g l v→o.wp P a w next Q:=fun l v hk ag hl=>
   H8 hr hd hn hk (show ERep _ _ _ (.one l) _ from hl) rfl (by simp[Bb,ak,ex,ey,eqGuard_at_int,ag])
  split at h
  ·obtain⟨hc,h'⟩:=C0 h;clear h;simp only[Bl,decide_eq_true_eq]at hc;obtain⟨⟨h0,h1⟩,rfl⟩:=hc;exact fin _ _ h' (D02 P w t x' y' k1 h0 h1) (LRep.int _ _)
  ·obtain⟨hc,h'⟩:=C0 h;clear h;simp only[Bl,decide_eq_true_eq]at hc;obtain⟨⟨h0,h1⟩,rfl⟩:=hc;exact fin _ _ h' (C8D P w t x' y' k1 h0 h1) (LRep.int _ _)
  ·obtain⟨hc,h'⟩:=C0 h;clear h;simp only[Bl,decide_eq_true_eq,Fo,decide_eq_false_iff_not]at hc;obtain⟨rfl,h0⟩:=hc;exact fin _ _ h' (by simp[binOp,Op.intDiv,h0]) (LRep.int _ _)
  ·obtain⟨hc,h'⟩:=C0 h;clear h;simp only[Bl,decide_eq_true_eq,Fo,decide_eq_false_iff_not]at hc;obtain⟨rfl,h0⟩:=hc;exact fin _ _ h' (by simp[binOp,Op.intDiv,h0]) (LRep.int _ _)
  ·obtain⟨hc,h'⟩:=C0 h;clear h;simp only[decide_eq_true_eq]at hc;subst hc;split at h'
   ·rename_i l hl;obtain⟨v,hv,aq⟩:=C9T (P:=P) (w:=w) (g:=g) (E:=E) op k0 x' y' l t hl;exact fin l v h' hv aq
   ·cases h'
 ·rename_i x' y' hx hy;have ex:=A3I hr hx;have ey:=A3I hr hy;have fin:∀(l:Leaf Ty den)(v:Value),k (.one l) s=some r→(binOp op t (.string ⟨x'.toArray⟩) (.string ⟨y'.toArray⟩)).run P w=.ok v w→LRep E.U w g l v→o.wp P a w next Q:=fun l v hk ag hl=>
   H8 hr hd hn hk (show ERep _ _ _ (.one l) _ from hl) rfl (by simp[Bb,ak,ex,ey,eqGuard_at_string,ag])
  split at h
  ·obtain⟨hc,h'⟩:=C0 h;clear h;simp only[decide_eq_true_eq]at hc;refine fin _ (.string ⟨(x'++y').toArray⟩) h' ?_ (LRep.str _);have e1:(⟨x'.toArray⟩:ByteArray)++⟨y'.toArray⟩=⟨(x'++y').toArray⟩:=by
    apply ByteArray.ext;simp
   have e2:(De x'.toArray).size=x'.length:=by simp[Fl]
   have e3:(De y'.toArray).size=y'.length:=by simp[Fl]
   have aQ:¬(9223372036854775807<(x'.length:Int)+(y'.length:Int)):=by omega
   simp[binOp,Ev,e1,e2,e3,aQ]
  ·exact fin _ _ h (by simp[binOp,Ev]) (LRep.bool _)
  ·exact fin _ _ h (by simp[binOp,Ev]) (LRep.bool _)
  ·cases h
 ·rename_i x' y' hx hy;have ex:=A5w hr hx;have ey:=A5w hr hy;split at h
  ·rename_i ht;have eQ:=hT t;rw[ht]at eQ;split at h
   ·exact H8 hr hd hn h (show ERep _ _ _ (.one _) _ from LRep.bool _) rfl (by simp[Bb,ak,ex,ey,Fx,run_eql_bool w t x' y' eQ])
   ·exact H8 hr hd hn h (show ERep _ _ _ (.one _) _ from LRep.bool _) rfl (by simp[Bb,ak,ex,ey,Fx,run_neq_bool w t x' y' eQ])
   ·cases h
  ·cases h
 ·cases h
theorem C6N{op:UnOp}{t:Ba}{x:Bd}(ak:o.op=.unOp op t x)(h:A9 E o s k=some r)(hr:Rel E.U B g s a w)(hd:∀ i,o.dst=some i→i<a.tmps.size∧B.np≤i)(hn:K0 E B o a k r next):o.wp P a w next Q:=by
 simp only[A9,ak]at h;split at h
 ·rename_i b hx;exact H8 hr hd hn h (show ERep _ _ _ (.one _) _ from LRep.bool _) rfl (by simp[Bb,ak,A5w hr hx,Op.unary])
 ·rename_i k0 n hx;exact H8 hr hd hn h (show ERep _ _ _ (.one _) _ from LRep.int _ _) rfl (by simp[Bb,ak,Y1 hr hx,Op.unary,Op.intArith])
 ·cases h
end
end Go.Aev
namespace Go.Aev
variable {Ty:Type}{den:Ty→Type}
section
variable {U:UO Ty den}
theorem A5p(t:Ty)(x:den t)(l:List (den t)):flat U t (x::l)=U.cells t x++flat U t l:=rfl
theorem B8F(t:Ty)(l m:List (den t)):flat U t (l++m)=flat U t l++flat U t m:=by simp[flat]
theorem flat_get(hU:U.Ok)(t:Ty):∀(l:List (den t))(i:Nat)(x:den t)(j:Nat),l[i]?=some x→j<U.size t→(flat U t l)[i*U.size t+j]?=(U.cells t x)[j]?
 |[],i,x,j,h,_=>by simp at h
 |y::l,0,x,j,h,hj=>by
  simp at h;subst h;rw[A5p,Nat.zero_mul,Bz,Dc (by rw[hU.len];exact hj)]
 |y::l,i+1,x,j,h,hj=>by
  have:=flat_get hU t l i x j (by simpa using h) hj;rw[A5p,Dl (by rw[hU.len,Cc];omega),hU.len];rw[←this];congr 1;rw[Cc];omega
theorem B4x(hU:U.Ok)(t:Ty):∀(l:List (den t))(i:Nat),flat U t (l.drop i)=(flat U t l).drop (i*U.size t)
 |l,0=>by simp
 |[],i+1=>by simp[flat]
 |x::l,i+1=>by
  have:=B4x hU t l i;rw[List.drop_succ_cons,this,A5p,Cc,Ew,Gn];rw[←List.drop_drop]
  congr 1
  rw[←hU.len t x];simp
theorem B8p(hU:U.Ok)(t:Ty):∀(l:List (den t))(i:Nat),flat U t (l.take i)=(flat U t l).take (i*U.size t)
 |l,0=>by simp[flat]
 |[],i+1=>by simp[flat]
 |x::l,i+1=>by
  have:=B8p hU t l i;rw[List.take_succ_cons,A5p,this,A5p,Cc,Ew,Gn];rw[List.take_append,hU.len]
  congr 1
  ·rw[List.take_of_length_le (by rw[hU.len];omega)]
  ·congr 1;omega
theorem J7{α:Type}{l:List α}{i:Nat}{x:α}(h:l[i]?=some x):i<l.length:=by
 rcases Ca i l.length with h'|h'
 ·exact h'
 ·rw[Ds h']at h;cases h
variable {w:World}{g:Gh}{wm:Nat→Nat}
theorem CRep.sl_cells{t:Ty}{l:List (den t)}{o:Option Nat}{v:Value}(hU:U.Ok)(h:CRep U w wm (.sl t l o) v):
  (l=[]∧∃ a cap,v=.slice a 0 cap)∨∃(b off cap:Nat)(cs:Nat→Value),v=.slice (some ⟨b,off,none⟩) l.length cap∧l.length≤cap∧off+l.length*U.size t≤wm b∧
   (∀ j lf,(flat U t l)[j]?=some lf→w.cell? ⟨b,off+j,none⟩=some (cs j))∧(∀ j lf,(flat U t l)[j]?=some lf→CRep U w wm lf (cs j)):=by
 cases h with
 |nil t o a cap=>exact .inl ⟨rfl,a,cap,rfl⟩
 |sl t l o b off cap cs bc aS hc hr=>exact .inr ⟨b,off,cap,cs,rfl,bc,aS,hc,hr⟩
def B13(lf:Leaf Ty den):Prop:=lf≠ .any∧(∀ v,lf≠ .val v)∧∀ u y,lf≠ .agg u y
theorem CRep.one(hU:U.Ok){lf:Leaf Ty den}{v:Value}(h:CRep U w wm lf v)(hs:B13 lf):v.oneCell'=true∧v.cells= #[v]:=by
 induction h with
 |any v=>exact absurd rfl hs.1
 |val v=>exact absurd rfl (hs.2.1 v)
 |agg t x vs hl cs hc hr=>exact absurd rfl (hs.2.2 t x)
 |one1 t x lf v hl h ih=>exact ih (hU.solid t x lf (by rw[hl];simp))
 |_=>exact⟨rfl,rfl⟩
theorem B9t(hU:U.Ok){t:Ty}{l:List (den t)}{j:Nat}{lf:Leaf Ty den}(h:(flat U t l)[j]?=some lf):B13 lf:=by
 have hm:=Db h;unfold flat at hm;obtain⟨x,_,hx⟩:=List.mem_flatMap.1 hm;exact hU.solid t x lf hx
end
section
variable {U:UO Ty den}{B:Bs}{g:Gh}{s:St Ty den}{a:Act}{w:World}
def D1(wm:Nat→Nat)(b n:Nat):Nat→Nat:=fun k=>if k=b then n else wm k
theorem Rel.alloc(hU:U.Ok)(h:Rel U B g s a w)(o:Obj)(n:Nat)(w':World)(hw:w'.heap=w.heap.push o)(lD:w'.os=w.os)(dO:w'.tape=w.tape)(eP:w'.output=w.output):
  Rel U B {g with wm:=D1 g.wm w.heap.size n} s a w':=by
 have dP:∀ b,b<w.heap.size→w'.heap[b]?=w.heap[b]? :=fun b hb=>by rw[hw,Cs,if_neg (by omega)]
 refine h.world hU lD dO eP (by rw[hw];simp) ⟨A0X hw,fun b off ho=>?_,fun b=>?_⟩ (fun _=>False) (fun b e=>e.elim) (fun _ _ _ _=>.inl fun e=>e) (fun b e=>e.elim) (fun b hb _=>⟨dP b hb,?_⟩) (fun b hb=>?_)
 ·rcases Ca b w.heap.size with h1|h1
  ·exact Bx (a:=⟨b,off,none⟩) (dP b h1)
  ·rw[h.zero b h1]at ho;omega
 ·unfold D1;by_cases hb:b=w.heap.size
  ·subst hb;rw[if_pos rfl,h.zero _ (Bh _)];exact Bn _
  ·rw[if_neg hb];exact Bh _
 ·simp only[D1];rw[if_neg (by omega)]
 ·rw[hw]at hb;simp at hb;simp only[D1];rw[if_neg (by omega)];exact h.zero b (by omega)
theorem Rel.drew(hU:U.Ok)(h:Rel U B g s a w):Rel U B g s a w.drew:=
 h.world hU (w':=w.drew) (wm':=g.wm) rfl rfl rfl (Bh _) ⟨A6H rfl,fun _ _ _=>rfl,fun _=>Bh _⟩ (fun _=>False) (fun b e=>e.elim) (fun _ _ _ _=>.inl fun e=>e) (fun b e=>e.elim) (fun b _ _=>⟨rfl,rfl⟩) h.zero
theorem B1y(hU:U.Ok){t:Ty}{l:List (den t)}{w':World}{wm':Nat→Nat}{b:Nat}{c:Array Value}{e:Ba}{fz:Nat×Nat}(hb:w'.heap[b]?=some (.cells c e fz))(cap:Nat)(bc:l.length≤cap)
  (aS:l.length*U.size t≤wm' b)(hr:∀(j:Nat)(lf:Leaf Ty den),(flat U t l)[j]?=some lf→∃ v:Value,c[j]?=some v∧CRep U w' wm' lf v)(o:Option Nat):CRep U w' wm' (.sl t l o) (.slice (some ⟨b,0,none⟩) l.length cap):=by
 refine .sl t l o b 0 cap (fun j=>c.getD j undef) bc (by omega) (fun j lf hj=>?_) (fun j lf hj=>?_)
 ·obtain⟨v,hv,_⟩:=hr j lf hj;simp[By,hb,hv,El]
 ·obtain⟨v,hv,aq⟩:=hr j lf hj;simpa [El,hv]using aq
end
section
variable {E:Env Ty den}{B:Bs}{g:Gh}{s:St Ty den}{a:Act}{w:World}
variable {P:Bi}{R:Type}{o:Oper}{k:Ent Ty den→St Ty den→Option R}{r:R}{next:Act→World→Prop}{Q:Exit→Act→World→Prop}
variable (hT:∀ t,S3 P E.U t (E.tb t))(hU:E.U.Ok)
include hT in
theorem A0R{t:Ba}{u:Ty}{e:Ba}(h:E.tb t=.slice u e):P.underlying t=some (.slice e)∧∃ i z,P.info? e=some i∧i.size=E.U.size u∧i.bytes=E.U.bytes u∧i.zero=some z∧z.cells.size=E.U.size u:=by
 have:=hT t;rw[h]at this;exact this.1
include hT in
theorem A4k{t:Ba}{u:Ty}{e:Ba}(h:E.tb t=.slice u e):∀ e',E.U.ety u=some e'→e'=e:=by
 have:=hT t;rw[h]at this;exact this.2
include hT in
theorem A1Y{t:Ba}(h:E.tb t=.str):P.underlying t=some .string:=by
 have:=hT t;rw[h]at this;exact this
include hT in
theorem A5g{t:Ba}{k:Cd}(h:E.tb t=.int k):P.underlying t=some (.int k):=by
 have:=hT t;rw[h]at this;exact this
theorem B0K{U:UO Ty den}{t u:Ty}{l:List (den u)}{l':List (den t)}(h:T1 U t u l=some l'):∃ e:u=t,e ▸ l=l':=by
 unfold T1 at h;split at h
 ·rename_i e _;exact⟨e,by simpa using h⟩
 ·cases h
theorem A5Q{U:UO Ty den}{t u:Ty}{l:List (den u)}{l':List (den t)}(h:T1 U t u l=some l'){w:World}{wm:Nat→Nat}{o:Option Nat}{v:Value}(hr:CRep U w wm (.sl u l o) v):CRep U w wm (.sl t l' o) v∧l.length=l'.length:=by
 obtain⟨e,he⟩:=B0K h;subst e;subst he;exact⟨hr,rfl⟩
theorem B9l{α:Type}{l:List α}{i:Int}{x:α}(h:idx l i=some x):0≤i∧l[i.toNat]?=some x:=by
 unfold idx at h;obtain⟨h1,h2⟩:=C0 h;exact⟨by simpa using h1,h2⟩
theorem B2s{α:Type}{l r:List α}{lo hi:Int}(h:sub l lo hi=some r):0≤lo∧lo≤hi∧hi≤(l.length:Int)∧r=(l.drop lo.toNat).take (hi.toNat - lo.toNat):=by
 unfold sub at h;obtain⟨h1,h2⟩:=C0 h;simp only[Bl,decide_eq_true_eq]at h1;exact⟨h1.1,h1.2.1,h1.2.2,by simpa using h2.symm⟩
include hT hU in
theorem C1Z{t:Ba}{x i:Bd}(ak:o.op=.indexAddr t x i)(h:A9 E o s k=some r)(hr:Rel E.U B g s a w)(hd:∀ i,o.dst=some i→i<a.tmps.size∧B.np≤i)(hn:K0 E B o a k r next):o.wp P a w next Q:=by
 simp only[A9,ak]at h;split at h
 ·rename_i u e u0 l0 own k0 n ht hx hi;split at h
  ·rename_i l cW;split at h
   ·rename_i y hy;obtain⟨h0,gR⟩:=B9l hy;obtain⟨dQ,ie,z,bR,aC,_,_,_⟩:=A0R hT ht;have ei:=Y1 hr hi;have ce:=J1 hr t x;rw[hx]at ce;have aq:=(A5Q cW ce.1).1;have aB:=J7 gR;rcases aq.sl_cells hU with⟨rfl,_⟩|⟨b,off,cap,cs,hv,bc,aS,hc,fq⟩
    ·simp at gR
    ·have cL:0≤n∧n<(l.length:Int):=⟨h0,by omega⟩;have gf:(n.toNat+1)*E.U.size u≤l.length*E.U.size u:=Ec _ (by omega);rw[Cc,Ew]at gf;refine H8 (e:=.one (.elem u y 0)) (v:=.pointer (some ⟨b,(off+n.toNat*E.U.size u)+0,none⟩)) hr hd hn h ?_ rfl ?_
     ·refine⟨.elem u y 0 b (off+n.toNat*E.U.size u) (fun j=>cs (n.toNat*E.U.size u+j)) (by omega) (fun j lf hj=>?_) (fun j lf hj=>?_),fun _ _ _ e=>by(cases e),fun _ _ e=>by(cases e)⟩
      ·have bQ:=J7 hj;rw[hU.len]at bQ;have:=hc (n.toNat*E.U.size u+j) lf (by rw[flat_get hU u l n.toNat y j gR bQ];exact hj);rw[Ed];exact this
      ·have bQ:=J7 hj;rw[hU.len]at bQ;exact fq (n.toNat*E.U.size u+j) lf (by rw[flat_get hU u l n.toNat y j gR bQ];exact hj)
     ·have cR:(Em b off none).add (n.toNat*E.U.size u)=⟨b,off+n.toNat*E.U.size u,none⟩:=Cl _ _ _;simp[Bb,ak,hv,ei,Instr.indexAt,asIntOf,Bg dQ,cL.1,cL.2,Ce,Bq,bR,aC,cR]
   ·cases h
  ·cases h
 ·cases h
theorem A2w(b:List UInt8):(De b.toArray).size=b.length:=by simp[Fl]
include hT in
theorem C7C{t:Ba}{x i:Bd}(ak:o.op=.index t x i)(h:A9 E o s k=some r)(hr:Rel E.U B g s a w)(hd:∀ i,o.dst=some i→i<a.tmps.size∧B.np≤i)(hn:K0 E B o a k r next):o.wp P a w next Q:=by
 simp only[A9,ak]at h;split at h
 ·rename_i b k0 n ht hx hi;split at h
  ·rename_i y hy;obtain⟨h0,gR⟩:=B9l hy;have dQ:=A1Y hT ht;have ei:=Y1 hr hi;have ex:=A3I hr hx;have aB:=J7 gR;have hg:(De b.toArray)[n.toNat]?=some y:=by
    rw[ByteArray.getElem?_lt' _ _ (by rw[A2w];exact aB)]
    congr 1
    rw[Bj aB]at gR;have:=Br gR;rw[←this];rfl
   exact H8 (e:=.one (.int .u8 (y.toNat:Int))) (v:=.int .u8 (y.toNat:Int)) hr hd hn h (LRep.int _ _) rfl (by simp[Bb,ak,ex,ei,Instr.index,asIntOf,Bg dQ,h0,hg])
  ·cases h
 ·cases h
theorem C0I{t:Ba}{k:TK Ty}(h:S3 P E.U t k)(hk:∀(_:k=.other),False)(cI:∀ u pl (_:k=.struct u pl),False)(w:World):(isAgg t).run P w=.ok false w:=by
 cases k with
 |int k=>simp[isAgg,Bg (show P.underlying t=some (.int k)from h)]
 |str=>simp[isAgg,Bg (show P.underlying t=some .string from h)]
 |bool=>simp[isAgg,Bg (show P.underlying t=some .bool from h)]
 |slice u e=>simp[isAgg,Bg h.1.1]
 |struct u pl=>exact(cI u pl rfl).elim
 |iface u=>obtain⟨⟨m,h⟩,_⟩:=h;simp[isAgg,Bg h]
 |other=>exact(hk rfl).elim
theorem B57{t:Ba}{fs:Array Field}(h:P.underlying t=some (.struct fs))(w:World):(isAgg t).run P w=.ok true w:=by simp[isAgg,Bg h]
theorem B4V{α β:Type}{f:α→Option β}:∀{l:List α}{r:List β},l.mapM f=some r→r.length=l.length
 |[],r,h=>by simp at h;subst h;rfl
 |x::l,r,h=>by
  simp only[Ee,Gj,Gi,Gf,Be]at h;obtain⟨b,_,r',ct,rfl⟩:=h;simp[B4V ct]
theorem B4y{α β:Type}{f:α→Option β}:∀{l:List α}{r:List β},l.mapM f=some r→∀(i:Nat)(x:α),l[i]?=some x→∃ y,r[i]?=some y∧f x=some y
 |[],r,h,i,x,hx=>by simp at hx
 |a::l,r,h,i,x,hx=>by
  simp only[Ee,Gj,Gi,Gf,Be]at h;obtain⟨b,hb,r',ct,rfl⟩:=h;cases i with
  |zero=>simp at hx;subst hx;exact⟨b,by simp,hb⟩
  |succ i=>obtain⟨y,h1,h2⟩:=B4y ct i x (by simpa using hx);exact⟨y,by simpa using h1,h2⟩
include hT in
theorem A3Z{t:Ba}{u:Ty}{pl:List (Nat×Nat)}(h:E.tb t=.struct u pl):∃ fs i z,P.underlying t=some (.struct fs)∧fs.toList.mapM (fun f=>(P.info? f.type).map fun i=>(f.offset,i.size))=some pl∧
  P.info? t=some i∧i.size=E.U.size u∧i.zero=some z∧z.cells.size=E.U.size u:=by
 have:=hT t;rw[h]at this;exact this
theorem A55{U:UO Ty den}{w:World}{wm:Nat→Nat}{t:Ty}{x:den t}{v:Value}(h:CRep U w wm (.agg t x) v):
  ∃ vs:List Value,v=.agg vs.toArray∧vs.length=U.size t∧∃ cs:Nat→Value,(∀ j lf,(U.cells t x)[j]?=some lf→vs[j]?=some (cs j))∧∀ j lf,(U.cells t x)[j]?=some lf→CRep U w wm lf (cs j):=by
 cases h with
 |agg t x vs hl cs hc hr=>exact⟨vs,rfl,hl,cs,hc,hr⟩
theorem A8R{U:UO Ty den}{t u:Ty}{y:den u}{y':den t}(h:T1 U t u [y]=some [y']):∃ e:u=t,e ▸ y=y':=by
 unfold T1 at h;split at h
 ·rename_i e _;subst e;simp only[Be,Ha]at h;exact⟨rfl,h.1⟩
 ·cases h
theorem B9g{U:UO Ty den}{u u':Ty}{c:Bool}{y:den u'}{y':den u}{r:List (den u)}(h:(bif c then T1 U u u' [y]else none)=some [y']):c=true∧∃ e:u'=u,e ▸ y=y':=by
 cases c with
 |true=>exact⟨rfl,A8R h⟩
 |false=>cases h
theorem A5S(hr:Rel E.U B g s a w){d:Nat}{ls:List (Leaf Ty den)}(h:U7 s d=some ls):BoxOk E.U w g d ls∧mem d s.live=true∧s.get (bxi d)=.bx d ls:=by
 unfold U7 at h;split at h
 ·rename_i e bh he;obtain⟨h1,h2⟩:=C0 h;have:=(F6 _ _).1 h1;subst this;cases h2;have h3:=hr.ent (bxi e);rw[he]at h3;exact⟨h3,(hr.bxl _ _ _ he).1,he⟩
 ·cases h
theorem A76{d off:Nat}{ls:List (Leaf Ty den)}{v:Value}(ho:Bf off 1000000=true)(hx:LRep E.U w g (.ptr d off) v)(hb:BoxOk E.U w g d ls):∃ b,g.G d=.slice (some ⟨b,0,none⟩) 0 ls.length∧v=.pointer (some ⟨b,off,none⟩)∧0<ls.length∧g.Gs d=1∧∀(j:Nat) lf,ls[j]?=some lf→∃ u,w.cell? ⟨b,j,none⟩=some u∧u.oneCell'=true∧u.cells= #[u]∧LRep E.U w g lf u:=by
 obtain⟨b,n,h1,h2⟩:=hx.2.2 d off rfl;obtain⟨b',h3,h4,h5,h6⟩:=hb;rw[h1]at h3;cases h3;exact⟨b,h1,h2.at (A9j ho),h4,h5,h6⟩
theorem A91:∀(ls:List (Leaf Ty den))(j:Nat),(G4 ls)[j]?=(ls[j]?).map Leaf.close
 |[],j=>by simp[G4]
 |l::r,0=>by simp[G4]
 |l::r,j+1=>by simp only[G4,Fh];exact A91 r j
include hT hU in
theorem B95{t:Ba}{x:Bd}(ak:o.op=.load t x)(h:A9 E o s k=some r)(hr:Rel E.U B g s a w)(hd:∀ i,o.dst=some i→i<a.tmps.size∧B.np≤i)(hn:K0 E B o a k r next):o.wp P a w next Q:=by
 simp only[A9,ak]at h;split at h
 ·cases h
 ·rename_i u ht;obtain⟨⟨mm,h1⟩,dR⟩:(∃ m,P.underlying t=some (.interface m))∧E.U.size u=1:=by have:=hT t;rw[ht]at this;exact this
  have hC:(isAgg t).run P w=.ok false w:=by simp[isAgg,Bg h1]
  split at h
  ·rename_i u' y off hx;split at h
   ·rename_i y' hy;obtain⟨h0,e0,he⟩:=B9g (r:=[]) hy;have h0:=(F6 _ _).1 h0;subst h0;subst e0;simp only at he;subst he;have ce:=J1 hr 0 x;rw[hx]at ce;obtain⟨hc,_⟩:=ce;generalize hv:a.eval x=v at hc;cases hc with
    |elem _ _ _ b o' cs aS aw aq=>
     have au:=hU.len u' y;rw[dR]at au;obtain⟨lf,cz⟩:∃ lf,E.U.cells u' y=[lf]:=by
      match cH:E.U.cells u' y,au with
      |[lf],_=>exact⟨lf,rfl⟩
     have hj:(E.U.cells u' y)[0]?=some lf:=by rw[cz];rfl
     refine H8 (e:=.one (.one1 u' y)) (v:=cs 0) hr hd hn h ⟨.one1 u' y lf _ cz (aq 0 lf hj),fun _ _ _ he=>by(cases he),fun _ _ he=>by(cases he)⟩ rfl ?_;have:=aw 0 lf hj;rw[Fb]at this;simp[Bb,ak,hv,Dw,Dd,Cn,hC,this]
   ·cases h
  ·cases h
 ·rename_i u pl ht;obtain⟨fs,ie,z,h1,_,h3,h4,_⟩:=A3Z hT ht;have hC:=B57 (P:=P) h1 w;split at h
  ·rename_i u' y off hx;have ce:=J1 hr 0 x;rw[hx]at ce;obtain⟨hc,_⟩:=ce;generalize hv:a.eval x=v at hc;cases hc with
   |elem _ _ _ b o' cs aS aw aq=>
    have au:=hU.len u' y;have fin:∀(z:den u),E.U.cells u z=((E.U.cells u' y).drop off).take (E.U.size u)→k (.one (.agg u z)) s=some r→o.wp P a w next Q:=fun z hz hk=>by
     have vz:=hU.len u z;have aI:∀ j lf,(E.U.cells u z)[j]?=some lf→(E.U.cells u' y)[off+j]?=some lf∧j<E.U.size u:=fun j lf hj=>by
      have bQ:=J7 hj;rw[hz,Dr,Du]at hj;split at hj
      ·exact⟨hj,by omega⟩
      ·cases hj
     have dk:(Cu ⟨b,o'+off,none⟩ (E.U.size u)).run P w=.ok ((Cj (E.U.size u)).map fun j=>cs (off+j)).toArray w:=
      Ep w _ _ _ fun j hj=>by
       obtain⟨h5,_⟩:=aI j _ (Bj (by omega));have:=aw (off+j) _ h5;rw[Cl,Ed];exact this
     refine H8 (e:=.one (.agg u z)) (v:=.agg ((Cj (E.U.size u)).map fun j=>cs (off+j)).toArray) hr hd hn hk ⟨.agg u z _ (by simp) (fun j=>cs (off+j)) (fun j lf hj=>?_) (fun j lf hj=>aq (off+j) lf (aI j lf hj).1),fun _ _ _ he=>by(cases he),fun _ _ he=>by(cases he)⟩ rfl ?_
     ·rw[Bo,Dk (aI j lf hj).2];rfl
     ·simp[Bb,ak,hv,Dw,Dd,Cn,hC,Ce,Bq,h3,h4,dk]
    split at h
    ·rename_i y' hy;obtain⟨h0,e0,he⟩:=B9g (r:=[]) hy;have h0:=(F6 _ _).1 h0;subst h0;subst e0;simp only at he;subst he;refine fin y ?_ h;rw[List.drop_zero, ←au,List.take_length]
    ·split at h
     ·rename_i z hz;exact fin z (hU.dec _ _ _ hz) h
     ·cases h
  ·rename_i d off hx;split at h
   ·rename_i ls bm;obtain⟨bN,h⟩:=C0 h;split at h
    ·rename_i z hz;have ce:=J1 hr 0 x;rw[hx]at ce;obtain⟨cM,_,_⟩:=A5S hr bm;obtain⟨b,hG,hv,ck,dD,bY⟩:=A76 bN ce cM;have su:=hU.dec _ _ _ hz;have vz:=hU.len u z;have aI:∀ j lf,(E.U.cells u z)[j]?=some lf→∃ l0,ls[off+j]?=some l0∧lf=l0.close∧j<E.U.size u:=fun j lf hj=>by
      have bQ:=J7 hj;rw[su,A91,Dr,Du]at hj;split at hj
      ·obtain⟨l0,h5,rfl⟩:=Di.1 hj;exact⟨l0,h5,rfl,by omega⟩
      ·cases hj
     have cH:∀ j,j<E.U.size u→∃ uu,w.cell? ⟨b,off+j,none⟩=some uu∧∀ lf,(E.U.cells u z)[j]?=some lf→CRep E.U w g.wm lf uu:=fun j hj=>by
      obtain⟨l0,h5,h6,_⟩:=aI j _ (Bj (by omega));obtain⟨uu,u1,_,_,u4⟩:=bY _ _ h5;refine⟨uu,u1,fun lf cz=>?_⟩;rw[Bj (by omega)]at cz;cases cz;rw[h6];exact u4.1.close
     have sx:∃ cs:Nat→Value,∀ j,j<E.U.size u→w.cell? ⟨b,off+j,none⟩=some (cs j)∧∀ lf,(E.U.cells u z)[j]?=some lf→CRep E.U w g.wm lf (cs j):=
      ⟨fun j=>(w.cell? ⟨b,off+j,none⟩).getD undef,fun j hj=>by
       obtain⟨uu,u1,u2⟩:=cH j hj;refine⟨?_,fun lf cz=>?_⟩
       ·show _=some ((w.cell? ⟨b,off+j,none⟩).getD undef);rw[u1];rfl
       ·show CRep E.U w g.wm lf ((w.cell? ⟨b,off+j,none⟩).getD undef);rw[u1];exact u2 lf cz⟩
     obtain⟨cs,cH⟩:=sx;have dk:(Cu ⟨b,off,none⟩ (E.U.size u)).run P w=.ok ((Cj (E.U.size u)).map cs).toArray w:=
      Ep w _ _ cs fun j hj=>by rw[Cl];exact(cH j hj).1
     refine H8 (e:=.one (.agg u z)) (v:=.agg ((Cj (E.U.size u)).map cs).toArray) hr hd hn h ⟨.agg u z _ (by simp) cs (fun j lf hj=>?_) (fun j lf hj=>?_),fun _ _ _ he=>by(cases he),fun _ _ he=>by(cases he)⟩ rfl ?_
     ·obtain⟨_,_,_,h7⟩:=aI j lf hj;rw[Bo,Dk h7];rfl
     ·obtain⟨_,_,_,h7⟩:=aI j lf hj;exact(cH j h7).2 lf hj
     ·simp[Bb,ak,hv,Dw,Dd,Cn,hC,Ce,Bq,h3,h4,dk]
    ·cases h
   ·cases h
  ·cases h
 ·rename_i hk _ cI;have hC:=C0I (E:=E) (hT t) hk cI w;split at h
  ·rename_i u y off hx;split at h
   ·rename_i lf cz;have ce:=J1 hr 0 x;rw[hx]at ce;obtain⟨hc,_⟩:=ce;generalize hv:a.eval x=v at hc;cases hc with
    |elem _ _ _ b o' cs aS aw aq=>
     refine H8 (e:=.one lf.close) (v:=cs off) hr hd hn h (LRep.closed (aq off lf cz)) rfl ?_;simp[Bb,ak,hv,Dw,Dd,Cn,hC,aw off lf cz]
   ·cases h
  ·rename_i d off hx;split at h
   ·rename_i ls bm;obtain⟨bN,h⟩:=C0 h;split at h
    ·rename_i l hl;have ce:=J1 hr 0 x;rw[hx]at ce;obtain⟨cM,_,_⟩:=A5S hr bm;obtain⟨b,hG,hv,ck,dD,bY⟩:=A76 bN ce cM;obtain⟨uu,u1,_,_,u4⟩:=bY off l hl;refine H8 (e:=.one l) (v:=uu) hr hd hn h u4 rfl ?_;simp[Bb,ak,hv,Dw,Dd,Cn,hC,u1]
    ·cases h
   ·cases h
  ·cases h
end
end Go.Aev
namespace Go.Aev
variable {Ty:Type}{den:Ty→Type}
section
variable {E:Env Ty den}{B:Bs}{g:Gh}{s:St Ty den}{a:Act}{w:World}
variable {P:Bi}{R:Type}{o:Oper}{k:Ent Ty den→St Ty den→Option R}{r:R}{next:Act→World→Prop}{Q:Exit→Act→World→Prop}
variable (hT:∀ t,S3 P E.U t (E.tb t))(hU:E.U.Ok)
theorem REL.newOwn(hU:E.U.Ok)(hr:Rel E.U B g s a w)(hd:∀ i,o.dst=some i→i<a.tmps.size∧B.np≤i)(d:Nat){t:Ty}{l:List (den t)}{c:Array Value}{e:Ba}{fz:Nat×Nat}{cap:Nat}(hety:∀ e',E.U.ety t=some e'→e'=e)(w':World)
  (hw:w'.heap=w.heap.push (.cells c e fz))(lD:w'.os=w.os)(dO:w'.tape=w.tape)(eP:w'.output=w.output)(bc:l.length≤cap)(aC:cap*E.U.size t≤c.size)
  (ms:fz.2=0)
  (hc:∀(j:Nat)(lf:Leaf Ty den),(flat E.U t l)[j]?=some lf→∃ v:Value,c[j]?=some v∧CRep E.U w g.wm lf v):
  REL E.U B ((s.fresh d).setO o.dst (.one (.sl t l (some d)))) (a.put o.dst (.slice (some ⟨w.heap.size,0,none⟩) l.length cap)) w':=by
 have h1:=hr.alloc hU (.cells c e fz) (l.length*E.U.size t) w' hw lD dO eP;have a8:w'.heap[w.heap.size]?=some (.cells c e fz):=by rw[hw];simp
 have dP:∀ b,b<w.heap.size→w'.heap[b]?=w.heap[b]? :=fun b hb=>by rw[hw,Cs,if_neg (by omega)]
 have hx:Ext w g.wm w' (D1 g.wm w.heap.size (l.length*E.U.size t)):=by
  refine⟨A0X hw,fun b off ho=>?_,fun b=>?_⟩
  ·rcases Ca b w.heap.size with h2|h2
   ·exact Bx (a:=⟨b,off,none⟩) (dP b h2)
   ·rw[hr.zero b h2]at ho;omega
  ·unfold D1;by_cases hb:b=w.heap.size
   ·subst hb;rw[if_pos rfl,hr.zero _ (Bh _)];exact Bn _
   ·rw[if_neg hb];exact Bh _
 have eR:D1 g.wm w.heap.size (l.length*E.U.size t) w.heap.size=l.length*E.U.size t:=by simp[D1]
 have aq:CRep E.U w' (D1 g.wm w.heap.size (l.length*E.U.size t)) (.sl t l (some d)) (.slice (some ⟨w.heap.size,0,none⟩) l.length cap):=
  B1y hU a8 cap bc (by rw[eR];exact Bh _) (fun j lf hj=>by obtain⟨v,hv,ed⟩:=hc j lf hj;exact⟨v,hv,ed.mono hU hx⟩) _
 have h2:=h1.fresh hU d (.slice (some ⟨w.heap.size,0,none⟩) l.length cap) (E.U.size t)
  ⟨_,_,_,rfl,bc,.inr ⟨w.heap.size,0,c,e,fz,rfl,a8,by omega,by simp[D1],by rw[ms];exact Bn _⟩⟩
  (fun e' b he az hs xd=>by
   have hb:b=w.heap.size:=by
    simp only[spare]at hs;split at hs
    ·cases hs
    ·exact(Br hs).symm
   subst hb;obtain⟨a0,len,fo,hv,_,cC⟩:=hr.tip e' he;have eI:spare (g.G e')=some w.heap.size:=xd;rw[hv]at eI;simp only[spare]at eI;split at eI
   ·rename_i a1 l1 c1 bW;cases bW;split at eI
    ·cases eI
    ·rename_i dw;rcases cC with h3|⟨b,off,c,e,fz,ha,hb,_⟩
     ·exact dw h3
     ·cases ha;simp at eI;subst eI;exact absurd (Cf.1 hb).1 (by omega)
   ·cases eI)
  (fun b hs=>by
   simp only[spare]at hs;split at hs
   ·cases hs
   ·left
    have:=Br hs;rw[←this];exact hr.size)
 refine REL.setO h2 (e:=.one (.sl t l (some d))) ⟨aq,fun t' l' d' he=>?_,fun _ _ he=>by(cases he)⟩ rfl o.dst hd;simp only[Leaf.sl.injEq,Be]at he;obtain⟨rfl,_,rfl⟩:=he;exact⟨by simp[Gh.put],by simp[Gh.put],TyB.new hety a8⟩
theorem REL.newCl(hU:E.U.Ok)(hr:Rel E.U B g s a w)(hd:∀ i,o.dst=some i→i<a.tmps.size∧B.np≤i){t:Ty}{l:List (den t)}{c:Array Value}{e:Ba}{fz:Nat×Nat}{cap:Nat}(w':World)
  (hw:w'.heap=w.heap.push (.cells c e fz))(lD:w'.os=w.os)(dO:w'.tape=w.tape)(eP:w'.output=w.output)(bc:l.length≤cap)
  (hc:∀(j:Nat)(lf:Leaf Ty den),(flat E.U t l)[j]?=some lf→∃ v:Value,c[j]?=some v∧CRep E.U w g.wm lf v):
  REL E.U B (s.setO o.dst (.one (.sl t l none))) (a.put o.dst (.slice (some ⟨w.heap.size,0,none⟩) l.length cap)) w':=by
 have h1:=hr.alloc hU (.cells c e fz) (l.length*E.U.size t) w' hw lD dO eP;have a8:w'.heap[w.heap.size]?=some (.cells c e fz):=by rw[hw];simp
 have dP:∀ b,b<w.heap.size→w'.heap[b]?=w.heap[b]? :=fun b hb=>by rw[hw,Cs,if_neg (by omega)]
 have hx:Ext w g.wm w' (D1 g.wm w.heap.size (l.length*E.U.size t)):=by
  refine⟨A0X hw,fun b off ho=>?_,fun b=>?_⟩
  ·rcases Ca b w.heap.size with h2|h2
   ·exact Bx (a:=⟨b,off,none⟩) (dP b h2)
   ·rw[hr.zero b h2]at ho;omega
  ·unfold D1;by_cases hb:b=w.heap.size
   ·subst hb;rw[if_pos rfl,hr.zero _ (Bh _)];exact Bn _
   ·rw[if_neg hb];exact Bh _
 have eR:D1 g.wm w.heap.size (l.length*E.U.size t) w.heap.size=l.length*E.U.size t:=by simp[D1]
 have aq:CRep E.U w' (D1 g.wm w.heap.size (l.length*E.U.size t)) (.sl t l none) (.slice (some ⟨w.heap.size,0,none⟩) l.length cap):=
  B1y hU a8 cap bc (by rw[eR];exact Bh _) (fun j lf hj=>by obtain⟨v,hv,ed⟩:=hc j lf hj;exact⟨v,hv,ed.mono hU hx⟩) _
 exact REL.setO h1 (e:=.one (.sl t l none)) ⟨aq,fun _ _ _ he=>by(cases he),fun _ _ he=>by(cases he)⟩ rfl o.dst hd
theorem A9s(hr:Rel E.U B g s a w){d n:Int}{x:Option Bd}(h:U3 E s d x=some n):(x=none∧n=d)∨∃ y k0,x=some y∧a.eval y=.int k0 n:=by
 cases x with
 |none=>simp only[U3,Be]at h;exact .inl ⟨rfl,h.symm⟩
 |some y=>
  simp only[U3]at h;split at h
  ·rename_i k0 m hy;simp only[Be]at h;subst h;exact .inr ⟨y,k0,rfl,Y1 hr hy⟩
  ·cases h
theorem B3l(P:Bi)(w:World)(sy:Bool)(len cap:Nat)(dw:len≤cap)(lo hi mx:Option Value)(l h m:Nat)(hl:(lo=none∧l=0)∨∃ k,lo=some (.int k (l:Int)))(hh:(hi=none∧mx=none∧h=len)∨∃ k,hi=some (.int k (h:Int)))
  (hm:(mx=none∧m=cap)∨∃ k,mx=some (.int k (m:Int)))(h1:l≤h)(h2:h≤m)(h3:m≤cap):
  (Eh sy len cap lo hi mx).run P w=.ok (l,h,m) w:=by
 have a1:(l:Int)≤(h:Int):=by omega
 have a2:(h:Int)≤(m:Int):=by omega
 have a3:(m:Int)≤(cap:Int):=by omega
 have a0:(0:Int)≤(l:Int):=by omega
 have b0:(0:Int)≤(h:Int):=by omega
 have c0:(0:Int)≤(m:Int):=by omega
 rcases hm with⟨rfl,rfl⟩|⟨km,rfl⟩<;>rcases hh with⟨rfl,rK,rfl⟩|⟨kh,rfl⟩<;>rcases hl with⟨rfl,rfl⟩|⟨kl,rfl⟩<;>
  first
  |(cases rK;done)
  |(simp[Eh,Eo,a0,a1,a2,a3,b0,c0];done)
  |(simp[Eh,Eo,a0,a1,a2,a3,b0,c0];intros;omega)
  |(simp[Eh,Eo,a0,a1,a2,a3,b0,c0,h1,h2,h3,Ey.2 h1,Ey.2 h2,Ey.2 h3];done)
include hT hU in
theorem C91{t:Ba}{x:Bd}{lo hi mx:Option Bd}(ak:o.op=.slice t x lo hi mx)(h:A9 E o s k=some r)(hr:Rel E.U B g s a w)(hd:∀ i,o.dst=some i→i<a.tmps.size∧B.np≤i)(hn:K0 E B o a k r next):o.wp P a w next Q:=by
 simp only[A9,ak]at h;split at h
 ·rename_i b ht hx;have dQ:=A1Y hT ht;have ex:=A3I hr hx;split at h
  ·rename_i va vc gg jI;split at h
   ·rename_i rr bZ;obtain⟨h0,h1,h2,rfl⟩:=B2s bZ;have e1:((va.toNat:Nat):Int)=va:=by omega
    have e2:((vc.toNat:Nat):Int)=vc:=by omega
    have hb:=B3l P w false b.length b.length (Bh _) (lo.map a.eval) (hi.map a.eval) none va.toNat vc.toNat b.length
     (by
       rcases A9s hr gg with⟨rfl,h3⟩|⟨y,k0,rfl,h3⟩
       ·left;exact⟨rfl,by omega⟩
       ·right;exact⟨k0,by rw[e1];simp[h3]⟩)
     (by
       rcases A9s hr jI with⟨rfl,h3⟩|⟨y,k0,rfl,h3⟩
       ·left;exact⟨rfl,rfl,by omega⟩
       ·right;exact⟨k0,by rw[e2];simp[h3]⟩)
     (.inl ⟨rfl,rfl⟩) (by omega) (by omega) (Bh _)
    refine H8 (e:=.one (.str _)) (v:=.string ⟨((b.drop va.toNat).take (vc.toNat - va.toNat)).toArray⟩) hr hd hn h (LRep.str _) rfl ?_;simp[Bb,ak,ex,Hb,Hc,Bg dQ,A2w,hb,Hh]
   ·cases h
  ·cases h
 ·rename_i u e u0 l0 own ht hx;split at h
  ·rename_i l cW;obtain⟨dQ,ie,z,bR,aC,_,_,_⟩:=A0R hT ht;have ce:=J1 hr t x;rw[hx]at ce;have aq:=(A5Q cW ce.1).1;have fin:∀(va vc:Int)(mv:Option Value)(m:Nat→Nat),0≤va→va≤vc→vc≤(l.length:Int)→U3 E s 0 lo=some va→U3 E s (l.length:Int) hi=some vc→
     (∀ cap,l.length≤cap→((mv=none∧m cap=cap)∨((∃ k,mv=some (.int k ((m cap:Nat):Int)))∧hi≠none∧m cap=vc.toNat)))→mx.map a.eval=mv→
     k (.one (.sl u ((l.drop va.toNat).take (vc.toNat - va.toNat)) none)) s=some r→o.wp P a w next Q:=by
    intro va vc mv m h0 h1 h2 gg jI hm ni hk;have e1:((va.toNat:Nat):Int)=va:=by omega
    have e2:((vc.toNat:Nat):Int)=vc:=by omega
    obtain⟨a0,xe,vA⟩:=aq.sl_inv;have au:((l.drop va.toNat).take (vc.toNat - va.toNat)).length=vc.toNat - va.toNat:=by simp;omega
    have eS:∀(a0:Option Addr)(cap:Nat),a.eval x=.slice a0 l.length cap→l.length≤cap→
      (Bb a.eval o).run P w=.ok (.value (.slice (if m cap=va.toNat then a0 else a0.map (·.add (va.toNat*E.U.size u))) (vc.toNat - va.toNat) (m cap - va.toNat))) w:=by
     intro a0 cap hv bc;have gT:=hm cap bc;have hb:=B3l P w true l.length cap bc (lo.map a.eval) (hi.map a.eval) mv va.toNat vc.toNat (m cap)
      (by
        rcases A9s hr gg with⟨rfl,h3⟩|⟨y,k0,rfl,h3⟩
        ·left;exact⟨rfl,by omega⟩
        ·right;exact⟨k0,by rw[e1];simp[h3]⟩)
      (by
        rcases A9s hr jI with⟨rfl,h3⟩|⟨y,k0,rfl,h3⟩
        ·rcases gT with⟨h4,_⟩|⟨_,h4,_⟩
         ·left;exact⟨rfl,h4,by omega⟩
         ·exact absurd rfl h4
        ·right;exact⟨k0,by rw[e2];simp[h3]⟩)
      (by
        rcases gT with h4|⟨h4,_⟩
        ·exact .inl h4
        ·exact .inr h4)
      (by omega) (by rcases gT with⟨_,h4⟩|⟨_,_,h4⟩<;>omega) (by rcases gT with⟨_,h4⟩|⟨_,_,h4⟩<;>omega)
     simp[Bb,ak,hv,Hb,Hc,Bg dQ,ni,hb,Ce,Bq,bR,aC]
    rcases aq.sl_cells hU with⟨rfl,a1,cap,hv⟩|⟨b,off,cap,cs,hv,bc,aS,hc,fq⟩
    ·have hz:vc.toNat - va.toNat=0:=by simp at h2;omega
     refine H8 (e:=.one (.sl u _ none)) hr hd hn hk ?_ rfl (eS a1 cap hv (Bn _));refine⟨?_,fun _ _ _ e=>by(simp at e),fun _ _ e=>by(cases e)⟩;rw[hz,Gp];exact .nil u none _ _
    ·refine H8 (e:=.one (.sl u _ none)) hr hd hn hk ?_ rfl (eS _ cap hv bc);refine⟨?_,fun _ _ _ e=>by(simp at e),fun _ _ e=>by(cases e)⟩;by_cases hz:vc.toNat - va.toNat=0
     ·rw[hz,Gp];exact .nil u none _ _
     ·have py:m cap≠va.toNat:=by
       rcases hm cap bc with⟨_,h4⟩|⟨_,_,h4⟩<;>omega
      rw[if_neg py];have cR:(Em b off none).add (va.toNat*E.U.size u)=⟨b,off+va.toNat*E.U.size u,none⟩:=Cl _ _ _;simp only[Cq,cR];have iL:∀(j:Nat)(lf:Leaf Ty den),(flat E.U u ((l.drop va.toNat).take (vc.toNat - va.toNat)))[j]?=some lf→(flat E.U u l)[va.toNat*E.U.size u+j]?=some lf:=by
       intro j lf hj;rw[B8p hU,B4x hU]at hj;rw[Dr]at hj;split at hj
       ·rw[Du]at hj;exact hj
       ·cases hj
      have gf:(va.toNat+(vc.toNat - va.toNat))*E.U.size u≤l.length*E.U.size u:=Ec _ (by omega);rw[Cc]at gf;have:=CRep.sl (U:=E.U) (w:=w) (wm:=g.wm) u ((l.drop va.toNat).take (vc.toNat - va.toNat)) none b (off+va.toNat*E.U.size u) (m cap - va.toNat) (fun j=>cs (va.toNat*E.U.size u+j))
       (by rw[au];rcases hm cap bc with⟨_,h4⟩|⟨_,_,h4⟩<;>omega) (by rw[au];omega)
       (fun j lf hj=>by have:=hc _ lf (iL j lf hj);rw[Ed];exact this) (fun j lf hj=>fq _ lf (iL j lf hj))
      rw[au]at this;exact this
   split at h
   ·rename_i va vc gg jI;split at h
    ·rename_i rr bZ;obtain⟨h0,h1,h2,rfl⟩:=B2s bZ;exact fin va vc none (fun c=>c) h0 h1 h2 gg jI (fun cap _=>.inl ⟨rfl,rfl⟩) rfl h
    ·cases h
   ·rename_i va vc m gg jI;split at h
    ·rename_i k0 mv hm;obtain⟨hc,h'⟩:=C0 h;simp only[Bl,decide_eq_true_eq]at hc;obtain⟨vB,hc⟩:=hc;split at h'
     ·rename_i rr bZ;obtain⟨h0,h1,h2,rfl⟩:=B2s bZ;have em:=Y1 hr hm;have xg:hi≠none:=fun e=>by rw[e]at vB;cases vB
      exact fin va vc (some (.int k0 vc)) (fun _=>vc.toNat) h0 h1 h2 gg jI (fun cap _=>.inr ⟨⟨k0,by congr 2;omega⟩,xg,rfl⟩) (by simp[em,hc]) h'
     ·cases h'
    ·cases h
   ·cases h
  ·cases h
 ·cases h
end
end Go.Aev
section
open Go.Lib
namespace Go.Aev
variable {Ty:Type}{den:Ty→Type}
section
variable {E:Env Ty den}{B:Bs}{g:Gh}{s:St Ty den}{a:Act}{w:World}
variable {P:Bi}{R:Type}{o:Oper}{k:Ent Ty den→St Ty den→Option R}{r:R}{next:Act→World→Prop}{Q:Exit→Act→World→Prop}
variable (hT:∀ t,S3 P E.U t (E.tb t))(hU:E.U.Ok)
theorem B48(hr:Rel E.U B g s a w)(ty:Ba):∀(ps:List (Nat×Bd))(i:Nat)(ls:List (Leaf Ty den)),A18 E s ty i ps=some ls→
  ls.length=ps.length∧(ps.map fun(j,x)=>(j,a.eval x))=((ps.map fun p=>a.eval p.2).zipIdx i).map (fun x=>(x.2,x.1))∧
   ∀(j:Nat)(lf:Leaf Ty den),ls[j]?=some lf→∃ v,(ps.map fun p=>a.eval p.2)[j]?=some v∧CRep E.U w g.wm lf v
 |[],i,ls,h=>by
  simp only[A18,Be]at h;subst h;exact⟨rfl,rfl,fun j lf hj=>by simp at hj⟩
 |(j0,x)::ps,i,ls,h=>by
  simp only[A18]at h;obtain⟨hc,h'⟩:=C0 h;have oV:=(F6 i j0).1 hc;subst oV;cases hp:A18 E s ty (i+1) ps with
  |none=>rw[hp]at h';cases h'
  |some bh=>
   rw[hp]at h';simp only[Cq,Be]at h';subst h';obtain⟨h1,h2,h3⟩:=B48 hr ty ps (i+1) bh hp;refine⟨by simp[h1],by simp[h2,Fc],fun j lf hj=>?_⟩;cases j with
   |zero=>
    simp at hj;subst hj;exact⟨a.eval x,by simp,(J1 hr ty x).1.close⟩
   |succ j=>
    obtain⟨v,hv,aq⟩:=h3 j lf (by simpa using hj);exact⟨v,by simpa using hv,aq⟩
theorem B6G{U:UO Ty den}(hU:U.Ok)(t:Ty):∀(ls:List (Leaf Ty den))(xs:List (den t)),A6i U t ls=some xs→xs.length=ls.length∧flat U t xs=ls
 |[],xs,h=>by simp only[A6i,Be]at h;subst h;exact⟨rfl,rfl⟩
 |l::ls,xs,h=>by
  simp only[A6i]at h;split at h
  ·rename_i x lE hx iM;simp only[Be]at h;subst h;obtain⟨h1,h2⟩:=B6G hU t ls lE iM;exact⟨by simp[h1],by rw[A5p,hU.dec t [l] x hx,h2];rfl⟩
  ·cases h
theorem B9J(hr:Rel E.U B g s a w)(u:Ty):∀(ps:List (Nat×Bd))(i:Nat)(xs:List (den u)),A2f E u s i ps=some xs→
  xs.length=ps.length∧(ps.map fun(j,x)=>(j,a.eval x))=((ps.map fun p=>a.eval p.2).zipIdx i).map (fun x=>(x.2,x.1))∧
   ∀(j:Nat)(x:den u),xs[j]?=some x→∃ v,(ps.map fun p=>a.eval p.2)[j]?=some v∧CRep E.U w g.wm (.agg u x) v
 |[],i,xs,h=>by
  simp only[A2f,Be]at h;subst h;exact⟨rfl,rfl,fun j x hj=>by simp at hj⟩
 |(j0,x0)::ps,i,xs,h=>by
  simp only[A2f]at h;obtain⟨hc,h'⟩:=C0 h;have oV:=(F6 i j0).1 hc;subst oV;split at h'
  ·rename_i u' y hy;split at h'
   ·rename_i y' l xh iN;simp only[Be]at h';subst h';obtain⟨rfl,e2⟩:=A8R xh;simp only at e2;subst e2;obtain⟨h1,h2,h3⟩:=B9J hr u' ps (i+1) l iN;refine⟨by simp[h1],by simp[h2,Fc],fun j x hj=>?_⟩;cases j with
    |zero=>
     simp at hj;subst hj;have:=J1 hr 0 x0;rw[hy]at this;exact⟨a.eval x0,by simp,this.1⟩
    |succ j=>
     obtain⟨v,hv,aq⟩:=h3 j x (by simpa using hj);exact⟨v,by simpa using hv,aq⟩
   ·cases h'
  ·cases h'
theorem B6i{α β:Type}(f:α→List β)(c:Nat):∀(l:List α),(∀ v∈l,(f v).length=c)→(l.flatMap f).length=l.length*c
 |[],_=>by simp
 |v::l,h=>by
  rw[Gz,Fg,h v Gv,B6i f c l fun x hx=>h x (Gw _ hx),Bw,Nat.succ_mul];omega
def A48(P:Bi)(U:UO Ty den)(t:Ba)(zs:List (Leaf Ty den)):Prop:=
 ∃ i z,P.info? t=some i∧i.size=zs.length∧i.zero=some z∧z.cells.size=zs.length∧∀(j:Nat) lf,zs[j]?=some lf→∃ u,z.cells[j]?=some u∧u.oneCell'=true∧u.cells= #[u]∧(∀(w:World)(g:Gh),LRep U w g lf u)∧∀ t,lf=.sl t [] none→u=.slice none 0 0
theorem B8f:∀(l:List Value)(k off:Nat)(cells:Array Value),off+k+l.length≤cells.size→
  ((l.zipIdx k).foldl (fun cs (p:Value×Nat)=>cs.setIfInBounds (off+p.2) p.1) cells).size=cells.size∧
  ∀ i,((l.zipIdx k).foldl (fun cs (p:Value×Nat)=>cs.setIfInBounds (off+p.2) p.1) cells)[i]?=if off+k≤i∧i<off+k+l.length then l[i - (off+k)]? else cells[i]?
 |[],k,off,cells,h=>⟨rfl,fun i=>by rw[if_neg (by simp only[List.length_nil];omega)];rfl⟩
 |v::l,k,off,cells,h=>by
  simp only[Bw]at h;obtain⟨h1,h2⟩:=B8f l (k+1) off (cells.setIfInBounds (off+k) v) (by rw[Hk];omega);simp only[Fc,Fj];refine⟨by rw[h1,Hk],fun i=>?_⟩;rw[h2 i];by_cases hi:off+(k+1)≤i∧i<off+(k+1)+l.length
  ·rw[if_pos hi,if_pos (by simp only[Bw];omega)];rw[show i - (off+k)=(i - (off+(k+1)))+1 by omega,Fh]
  ·rw[if_neg hi,Fq];by_cases hk:off+k=i
   ·rw[if_pos hk,if_pos (by omega),if_pos (by simp only[Bw];omega),show i - (off+k)=0 by omega];rfl
   ·rw[if_neg hk,if_neg (by simp only[Bw];omega)]
structure A6c(U:UO Ty den)(w:World)(g:Gh)(ls:List (Leaf Ty den))(cells:Array Value):Prop where
 size:cells.size=ls.length
 at_:∀(j:Nat) lf,ls[j]?=some lf→∃ u,cells[j]?=some u∧u.oneCell'=true∧u.cells= #[u]∧LRep U w g lf u
theorem A6B{α:Type}(ls:List α)(o:Nat)(ys:List α)(h:o+ys.length≤ls.length):(L0 ls o ys).length=ls.length∧∀ i,(L0 ls o ys)[i]?=if o≤i∧i<o+ys.length then ys[i - o]? else ls[i]? :=by
 unfold L0;refine⟨by simp;omega,fun i=>?_⟩;by_cases h1:i<o
 ·rw[Dc (by simp;omega),Dr,if_pos h1,if_neg (by omega)]
 ·rw[Dl (by simp;omega),List.length_take,Nat.min_eq_left (by omega)];by_cases h2:i - o<ys.length
  ·rw[Dc h2,if_pos (by omega)]
  ·rw[Dl (by omega),Du,if_neg (by omega)]
   congr 1;omega
theorem B7U{lf:Leaf Ty den}(h:U1 lf=true):B13 lf:=by
 cases lf<;>first
  |(cases h;done)
  |exact⟨(by intro e;cases e),(by intro v e;cases e),(by intro u y e;cases e)⟩
include hU in
theorem B38{n:Nat}{lf:Leaf Ty den}{v:Value}{ys:List (Leaf Ty den)}(h:cellsOf E n lf=some ys)(hl:LRep E.U w g lf v):
  v.cells.size=n∧ys.length=n∧∀(j:Nat) y,ys[j]?=some y→∃ u,v.cells[j]?=some u∧u.oneCell'=true∧u.cells= #[u]∧LRep E.U w g y u:=by
 have one:∀{lf:Leaf Ty den},(bif U1 lf&&Ai n 1 then some [lf]else none)=some ys→LRep E.U w g lf v→v.cells.size=n∧ys.length=n∧∀(j:Nat) y,ys[j]?=some y→∃ u,v.cells[j]?=some u∧u.oneCell'=true∧u.cells= #[u]∧LRep E.U w g y u:=fun h hl=>by
  obtain⟨h1,h2⟩:=C0 h;cases h2;simp only[Bl]at h1;have hn:=(F6 _ _).1 h1.2;obtain⟨h3,h4⟩:=hl.1.one hU (B7U h1.1);refine⟨by rw[h4,hn];rfl,by rw[hn];rfl,fun j y hj=>?_⟩;cases j with
  |zero=>
   simp at hj;subst hj;exact⟨v,by rw[h4];rfl,h3,h4,hl⟩
  |succ j=>simp at hj
 cases lf with
 |agg u y=>
  obtain⟨h1,h2⟩:=C0 h;cases h2;have hn:=(F6 _ _).1 h1;obtain⟨vs,rfl,cu,cs,cH,fq⟩:=A55 hl.1;have cm:=hU.len u y;refine⟨by show vs.toArray.size=n;simp[cu,hn],by rw[cm,hn],fun j lf hj=>?_⟩;have h5:=cH j lf hj;have hr:=fq j lf hj;have hs:=hU.solid u y lf (Db hj);obtain⟨h6,h7⟩:=hr.one hU hs;refine⟨cs j,by show vs.toArray[j]?=_;simpa using h5,h6,h7,hr,fun t l d he=>?_,fun d o he=>?_⟩
  ·subst he;have:=hU.closed u y _ (Db hj);simp[Leaf.close]at this
  ·subst he;have:=hU.closed u y _ (Db hj);simp[Leaf.close]at this
 |any=>exact one (lf:=.any) h hl
 |int k n=>exact one h hl
 |bool b=>exact one h hl
 |str s=>exact one h hl
 |sl t l o=>exact one h hl
 |elem t x o=>exact one h hl
 |val v=>exact one (lf:=.val v) h hl
 |ptr d o=>exact one (lf:=.ptr d o) h hl
 |ifc T t x=>exact one h hl
 |one1 t x=>exact one h hl
include hU in
theorem B0l(hr:Rel E.U B g s a w){g':Gh}(rL:g'.wm=g.wm)(pl:List (Nat×Nat)):∀(ps:List (Nat×Bd))(ls bh:List (Leaf Ty den))(cells:Array Value),A1B E s pl ps ls=some bh→A6c E.U w g' ls cells→
  ∃ bS,Ei (pl.toArray[·]?) cells (ps.map fun p=>(p.1,a.eval p.2))=some bS∧A6c E.U w g' bh bS
 |[],ls,bh,cells,h,hf=>by
  simp only[A1B,Be]at h;subst h;exact⟨cells,rfl,hf⟩
 |(j,x)::ps,ls,bh,cells,h,hf=>by
  simp only[A1B]at h;split at h
  ·rename_i o' n iN;split at h
   ·rename_i ys dS;obtain⟨aQ,h⟩:=C0 h;have aQ:=Fa aQ;have hx:LRep E.U w g' (opl E s 0 x).close (a.eval x):=LRep.closed (by rw[rL];exact(J1 hr 0 x).1);obtain⟨c1,c2,c3⟩:=B38 hU dS hx;have aC:=hf.size;obtain⟨k1,k2⟩:=B8f (a.eval x).cells.toList 0 o' cells (by simp;omega);obtain⟨m1,m2⟩:=A6B ls o' ys (by omega);have bH:A6c E.U w g' (L0 ls o' ys) (((a.eval x).cells.toList.zipIdx 0).foldl (fun cs (p:Value×Nat)=>cs.setIfInBounds (o'+p.2) p.1) cells):=by
     refine⟨by rw[k1,m1,aC],fun i lf hi=>?_⟩;rw[m2]at hi;rw[k2];simp only[Fb,Hm,c1];rw[c2]at hi;by_cases cL:o'≤i∧i<o'+n
     ·rw[if_pos cL]at hi ⊢;obtain⟨u,u1,u2,u3,u4⟩:=c3 _ _ hi;exact⟨u,by rw[←u1];simp,u2,u3,u4⟩
     ·rw[if_neg cL]at hi ⊢;exact hf.at_ i lf hi
    obtain⟨bS,q1,q2⟩:=B0l hr rL pl ps _ bh _ h bH;refine⟨bS,?_,q2⟩;simp only[Gx,Ei];have sA:pl.toArray[j]?=some (o',n):=by simpa using iN
    rw[sA];dsimp only;rw[if_neg (by simp[c1];omega)];rw[←q1]
    congr 1
    rw[←Array.foldl_toList,Array.toList_zipIdx]
   ·cases h
  ·cases h
def nlG(U:UO Ty den)(nm j:Nat)(g:Gh):Leaf Ty den→Gh
 | .sl t [] none=>g.put (bo nm j) (.slice none 0 0) (U.size t)
 |_=>g
theorem A7z(l:Leaf Ty den):(∃ t,l=.sl t [] none)∨((∀ nm j,nlL nm j l=l)∧(∀ nm j (s:St Ty den),nlS nm j s l=s)∧∀(U:UO Ty den) nm j g,nlG U nm j g l=g):=by
 cases l with
 |sl t x o=>
  cases x with
  |nil=>cases o with
   |none=>exact .inl ⟨t,rfl⟩
   |some e=>exact .inr ⟨fun _ _=>rfl,fun _ _ _=>rfl,fun _ _ _ _=>rfl⟩
  |cons y x=>exact .inr ⟨fun _ _=>rfl,fun _ _ _=>rfl,fun _ _ _ _=>rfl⟩
 |_=>exact .inr ⟨fun _ _=>rfl,fun _ _ _=>rfl,fun _ _ _ _=>rfl⟩
def A0L(U:UO Ty den)(nm:Nat):Nat→Gh→List (Leaf Ty den)→Gh
 |_,g,[]=>g
 |j,g,l::r=>A0L U nm (j+1) (nlG U nm j g l) r
theorem A8y(U:UO Ty den)(nm:Nat):∀(zs:List (Leaf Ty den))(j:Nat)(g:Gh),(A0L U nm j g zs).wm=g.wm∧∀ e,(∀ i,j≤i→e≠bo nm i)→(A0L U nm j g zs).G e=g.G e∧(A0L U nm j g zs).Gs e=g.Gs e
 |[],j,g=>⟨rfl,fun e _=>⟨rfl,rfl⟩⟩
 |l::zs,j,g=>by
  obtain⟨h1,h2⟩:=A8y U nm zs (j+1) (nlG U nm j g l);simp only[A0L];rcases A7z l with⟨t,rfl⟩|⟨_,_,h⟩
  ·refine⟨h1,fun e he=>?_⟩;obtain⟨k1,k2⟩:=h2 e (fun i hi=>he i (by omega));have:=he j (Bh _);rw[k1,k2];simp[nlG,Gh.put,this]
  ·rw[h]at h1 h2 ⊢;exact⟨h1,fun e he=>h2 e (fun i hi=>he i (by omega))⟩
include hU in
theorem B2B(nm:Nat):∀(zs:List (Leaf Ty den))(j:Nat)(s:St Ty den)(g:Gh),Rel E.U B g s a w→Rel E.U B (A0L E.U nm j g zs) (A35 nm j s zs) a w
 |[],j,s,g,hr=>hr
 |l::zs,j,s,g,hr=>by
  simp only[A0L,A35];refine B2B nm zs (j+1) _ _ ?_;rcases A7z l with⟨t,rfl⟩|⟨_,h2,h3⟩
  ·exact hr.fresh hU _ _ _ ⟨_,_,_,rfl,Bh _,.inl rfl⟩ (fun _ _ _ _ hs=>by simp[spare]at hs) (fun _ hs=>by simp[spare]at hs)
  ·rw[h2,h3];exact hr
theorem LRep.keep{g1 g2:Gh}(hw:g2.wm=g1.wm){lf:Leaf Ty den}{v:Value}{U:UO Ty den}(h:LRep U w g1 lf v)(hk:∀ e,lf.has e=true→g2.G e=g1.G e∧g2.Gs e=g1.Gs e):LRep U w g2 lf v:=by
 refine⟨by rw[hw];exact h.1,fun t l d he=>?_,fun d o he=>?_⟩
 ·obtain⟨e1,e2⟩:=hk d (by rw[he];simp[Leaf.has,H4]);rw[e1,e2];exact h.2.1 t l d he
 ·obtain⟨e1,e2⟩:=hk d (by rw[he];simp[Leaf.has,H4]);rw[e1];exact h.2.2 d o he
theorem B2x(U:UO Ty den)(w:World)(nm:Nat):∀(zs:List (Leaf Ty den))(us:List Value)(j:Nat)(g:Gh),zs.length=us.length→(∀(i:Nat) lf u,zs[i]?=some lf→us[i]?=some u→(∀ g:Gh,LRep U w g lf u)∧∀ t,lf=.sl t [] none→u=.slice none 0 0)→
  (A03 nm j zs).length=zs.length∧∀(i:Nat) lf u,(A03 nm j zs)[i]?=some lf→us[i]?=some u→LRep U w (A0L U nm j g zs) lf u
 |[],us,j,g,hl,_=>⟨rfl,fun i lf u h=>by simp[A03]at h⟩
 |l::zs,[],j,g,hl,_=>by simp at hl
 |l::zs,v::us,j,g,hl,h=>by
  obtain⟨h1,h2⟩:=B2x U w nm zs us (j+1) (nlG U nm j g l) (by simpa using hl) (fun i lf u hi hu=>h (i+1) lf u (by simpa using hi) (by simpa using hu));refine⟨by simp[A03,h1],fun i lf u hi hu=>?_⟩;cases i with
  |succ i=>exact h2 i lf u (by simpa [A03]using hi) (by simpa using hu)
  |zero=>
   simp only[A03,List.getElem?_cons_zero,Be]at hi hu;subst hu;obtain⟨k1,k2⟩:=h 0 l v rfl rfl;simp only[A0L];rcases A7z l with⟨t,rfl⟩|⟨h3,_,h4⟩
   ·subst hi;rw[k2 t rfl];obtain⟨q1,q2⟩:=A8y U nm zs (j+1) (g.put (bo nm j) (.slice none 0 0) (U.size t));refine⟨.nil _ _ _ _,fun t1 l1 d1 he=>?_,fun _ _ he=>by(cases he)⟩;obtain⟨rfl,_,rfl⟩:=he;obtain⟨e1,e2⟩:=q2 (bo nm j) (fun i hi=>by unfold bo;omega);simp only[nlG];rw[e1,e2];exact⟨by simp[Gh.put],by simp[Gh.put],TyB.nil⟩
   ·rw[h3]at hi;subst hi;exact k1 _
theorem B7v{U:UO Ty den}{w:World}{g:Gh}:∀{ls:List (Leaf Ty den)}{vs:List Value},ls.length=vs.length→(∀(j:Nat) lf u,ls[j]?=some lf→vs[j]?=some u→LRep U w g lf u)→LsRep U w g ls vs
 |[],[],_,_=>trivial
 |l::ls,v::vs,hl,h=>⟨h 0 l v rfl rfl,B7v (by simpa using hl) fun j lf u h1 h2=>h (j+1) lf u (by simpa using h1) (by simpa using h2)⟩
 |[],_::_,hl,_=>by simp at hl
 |_::_,[],hl,_=>by simp at hl
variable (hZ:∀ t zs,E.zr t=some zs→A48 P E.U t zs)
include hT in
theorem C9O{t:Ba}{x:Bd}(ak:o.op=.makeInterface t x)(h:A9 E o s k=some r)(hr:Rel E.U B g s a w)(hd:∀ i,o.dst=some i→i<a.tmps.size∧B.np≤i)(hn:K0 E B o a k r next):o.wp P a w next Q:=by
 simp only[A9,ak]at h;split at h
 ·rename_i u pl u' y ht hx;obtain⟨fs,ie,z,h1,_⟩:=A3Z hT ht;split at h
  ·rename_i y' hy;obtain⟨e0,he⟩:=A8R hy;subst e0;simp only at he;subst he;have ce:=J1 hr t x;rw[hx]at ce;refine H8 (e:=.one (.ifc t u' y)) (v:=.iface t (a.eval x)) hr hd hn h ⟨.ifc t u' y _ ce.1,fun _ _ _ he=>by(cases he),fun _ _ he=>by(cases he)⟩ rfl ?_;simp[Bb,ak,Instr.makeInterface,Bg h1]
  ·cases h
 ·cases h
include hT hU hZ in
theorem C47{t:Ba}{ps:Array (Nat×Bd)}(ak:o.op=.build t ps)(h:A9 E o s k=some r)(hr:Rel E.U B g s a w)(hd:∀ i,o.dst=some i→i<a.tmps.size∧B.np≤i)(hn:K0 E B o a k r next):o.wp P a w next Q:=by
 simp only[A9,ak]at h;cases jv:mbO E o.dst with
 |true=>
  rw[jv]at h;simp only[cond_true]at h;split at h
  ·rename_i u pl zs ht et;split at h
   ·rename_i ls bm;obtain⟨fs,ie,z,h1,h2,h3,h4,h5,h6⟩:=A3Z hT ht;obtain⟨xj,z',e1,e2,e3,e4,e5⟩:=hZ t zs et;rw[h3]at e1;cases e1;rw[h5]at e3;cases e3;obtain⟨q1,q2⟩:=B2x E.U w (bnO E o.dst) zs z.cells.toList 0 g (by simp[e4]) (fun i lf u hi hu=>by
     obtain⟨uu,u1,u2,u3,u4,u5⟩:=e5 i lf hi;rw[Cy,u1]at hu;cases hu;exact⟨u4 w,u5⟩)
    have rL:=(A8y E.U (bnO E o.dst) zs 0 g).1;have jJ:A6c E.U w (A0L E.U (bnO E o.dst) 0 g zs) (A03 (bnO E o.dst) 0 zs) z.cells:=⟨by rw[q1,e4],fun j lf hj=>by
     have bQ:j<zs.length:=by rw[←q1];exact J7 hj
     obtain⟨uu,u1,u2,u3,u4,u5⟩:=e5 j _ (Bj bQ);exact⟨uu,u1,u2,u3,q2 j lf uu hj (by rw[Cy];exact u1)⟩⟩
    obtain⟨bS,p1,p2⟩:=B0l hU hr rL pl ps.toList _ ls z.cells bm jJ;have hH:P.built t (ps.map fun(i,x)=>(i,a.eval x)).toList=some bS:=by
     unfold Ge;rw[h3,h1];dsimp only;rw[h5,h2];dsimp only;rw[Ek];exact p1
    refine R7 (v:=.agg bS) (w':=w) (by simp[Bb,ak,run_build w t _ _ hH]) (hn _ _ _ _ h (REL.setO (B2B hU (bnO E o.dst) zs 0 s g hr) (e:=.st ls) ?_ rfl _ hd));have aC:=p2.size;refine⟨bS.toList,by simp,B7v (by simp[aC]) (fun j lf u h1 h2=>?_),fun u hu=>?_⟩
    ·obtain⟨uu,u1,_,_,u4⟩:=p2.at_ j lf h1;rw[Cy,u1]at h2;cases h2;exact u4
    ·obtain⟨j,hj,rfl⟩:=Eg hu;have bQ:j<ls.length:=by simp at hj;omega
     obtain⟨uu,u1,u2,u3,u4⟩:=p2.at_ j _ (Bj bQ);have h9:bS.toList[j]?=some uu:=by rw[Cy];exact u1
     rw[Bj hj]at h9;rw[Br h9];exact⟨u2,u3⟩
   ·cases h
  ·cases h
 |false=>
 rw[jv]at h;simp only[cond_false]at h;split at h
 ·rename_i u pl ht;split at h
  ·rename_i zs et;split at h
   ·rename_i ls bm;split at h
    ·rename_i x hx;obtain⟨fs,ie,z,h1,h2,h3,h4,h5,h6⟩:=A3Z hT ht;obtain⟨xj,z',e1,e2,e3,e4,e5⟩:=hZ t zs et;rw[h3]at e1;cases e1;rw[h5]at e3;cases e3;have jJ:A6c E.U w g zs z.cells:=⟨e4,fun j lf hj=>by
      obtain⟨uu,u1,u2,u3,u4,_⟩:=e5 j lf hj;exact⟨uu,u1,u2,u3,u4 w g⟩⟩
     obtain⟨bS,q1,q2⟩:=B0l hU hr rfl pl ps.toList zs ls z.cells bm jJ;have bY:=hU.dec u ls x hx;have cm:=hU.len u x;have hH:P.built t (ps.map fun(i,x)=>(i,a.eval x)).toList=some bS:=by
      unfold Ge;rw[h3,h1];dsimp only;rw[h5,h2];dsimp only;rw[Ek];exact q1
     have bX:=q2.size;refine H8 (e:=.one (.agg u x)) (v:=.agg bS.toList.toArray) hr hd hn h ⟨.agg u x bS.toList (by rw[Hm,bX, ←bY,cm]) (fun j=>(bS[j]?).getD undef) (fun j lf hj=>?_) (fun j lf hj=>?_),fun _ _ _ he=>by(cases he),fun _ _ he=>by(cases he)⟩ rfl ?_
     ·rw[bY]at hj;obtain⟨uu,u1,_⟩:=q2.at_ j lf hj;rw[Cy,u1];rfl
     ·rw[bY]at hj;obtain⟨uu,u1,_,_,u4⟩:=q2.at_ j lf hj;rw[u1];exact u4.1
     ·simp[Bb,ak,run_build w t _ _ hH]
    ·cases h
   ·cases h
  ·cases h
 ·cases h
include hT in
theorem C5i{t:Ba}{x:Bd}{i:Nat}(ak:o.op=.fieldAddr t x i)(h:A9 E o s k=some r)(hr:Rel E.U B g s a w)(hd:∀ i,o.dst=some i→i<a.tmps.size∧B.np≤i)(hn:K0 E B o a k r next):o.wp P a w next Q:=by
 simp only[A9,ak]at h;have mu:∀{v:Ty}{pl:List (Nat×Nat)}{o' n:Nat},E.tb t=.struct v pl→pl[i]?=some (o',n)→0<n→∀ b off,a.eval x=.pointer (some ⟨b,off,none⟩)→(Bb a.eval o).run P w=.ok (.value (.pointer (some ⟨b,off+o',none⟩))) w:=by
  intro v pl o' n ht hp gi b off hv;obtain⟨fs,ie,z,h1,h2,_⟩:=A3Z hT ht;have hl:=B4V h2;have jK:=(List.getElem?_eq_some_iff.1 hp).1;have hi:fs[i]?=some (fs[i]'(by simpa using (by omega:i<fs.toList.length))):=by simp
  obtain⟨p,sB,hf⟩:=B4y h2 i _ (by rw[Cy];exact hi);rw[←Br (hp.symm.trans sB)]at hf;cases nj:P.info? (fs[i]'(by simpa using (by omega:i<fs.toList.length))).type with
  |none=>rw[nj]at hf;cases hf
  |some xk=>
   rw[nj]at hf;simp only[Cq,Be,Ci]at hf;have cR:(Em b off none).add o'=⟨b,off+o',none⟩:=Cl _ _ _;have aC:(Ce (fs[i]'(by simpa using (by omega:i<fs.toList.length))).type).run P w=.ok n w:=by simp[Ce,Bq,nj,hf.2]
   simp[Bb,ak,hv,Instr.fieldAt,Bg h1,hi,Dd,fieldPlace,aC,hf.1,cR];omega
 split at h
 ·rename_i v pl u y off ht hx;split at h
  ·rename_i o' n hp;obtain⟨gi,h⟩:=C0 h;have gi:0<n:=by simpa [Bu]using gi
   have ce:=J1 hr 0 x;rw[hx]at ce;obtain⟨dx,_⟩:=ce;generalize hv:a.eval x=vv at dx;cases dx with
   |elem _ _ _ b o1 cs aS aw aq=>
    refine H8 (e:=.one (.elem u y (off+o'))) (v:=.pointer (some ⟨b,o1+(off+o'),none⟩)) hr hd hn h ⟨.elem u y (off+o') b o1 cs aS aw aq,fun _ _ _ he=>by(cases he),fun _ _ he=>by(cases he)⟩ rfl ?_;rw[←Ed];exact mu ht hp gi b _ hv
  ·cases h
 ·rename_i v pl d off ht hx;split at h
  ·rename_i o' n hp;obtain⟨gi,h⟩:=C0 h;rw[Bl,Bl]at gi;obtain⟨gi,bN,pz⟩:=gi;have gi:0<n:=by simpa [Bu]using gi
   have ce:=J1 hr 0 x;rw[hx]at ce;obtain⟨b,m,hG,hv⟩:=ce.2.2 d off rfl;have hv:=hv.at (A9j bN);refine H8 (e:=.one (.ptr d (off+o'))) (v:=.pointer (some ⟨b,off+o',none⟩)) hr hd hn h ⟨.ptr _ _ _,fun _ _ _ he=>by(cases he),fun d' o2 he=>by(cases he;exact⟨b,m,hG,.inl ⟨rfl,A9j pz⟩⟩)⟩ rfl (mu ht hp gi b _ hv)
  ·cases h
 ·cases h
include hT hU in
theorem C0v{t:Ba}{n:Nat}{ps:Array (Nat×Bd)}(ak:o.op=.buildSlice t n ps)(h:A9 E o s k=some r)(hr:Rel E.U B g s a w)(hd:∀ i,o.dst=some i→i<a.tmps.size∧B.np≤i)(hn:K0 E B o a k r next):o.wp P a w next Q:=by
 simp only[A9,ak]at h;split at h
 ·rename_i u e ht;split at h
  ·rename_i u2 nk;split at h
   ·rename_i xs iM;obtain⟨hc,h'⟩:=C0 h;simp only[Bl]at hc;have jL:=(F6 _ _).1 hc.1;have nl:n*E.U.size u<65536:=by simpa [Bu]using hc.2
    obtain⟨dQ,ie,z,bR,aC,_,hz,et⟩:=A0R hT ht;obtain⟨h1,h2,h3⟩:=B9J hr u ps.toList 0 xs iM;have ck:=hU.pos u;have au:n=ps.toList.length:=by omega
    have nq:∀ v∈(ps.toList.map fun p=>a.eval p.2),v.cells.size=E.U.size u:=by
     intro v hv;obtain⟨j,hj,pA⟩:=Eg hv;have oW:j<xs.length:=by simpa [h1]using hj
     obtain⟨v',dj,aq⟩:=h3 j xs[j] (Bj oW);rw[Bj hj]at dj;obtain⟨vs,e1,e2,_⟩:=A55 aq;rw[←pA,Br dj,e1];simpa [Dq]using e2
    have aw:∀(j:Nat)(lf:Leaf Ty den),(flat E.U u xs)[j]?=some lf→∃ v:Value,((ps.toList.map fun p=>a.eval p.2).flatMap fun v=>v.cells.toList)[j]?=some v∧CRep E.U w g.wm lf v:=by
     intro j lf hj;rw[Great.flat_get ck _ nq];have bQ:=J7 hj;rw[A2d hU]at bQ;have jM:j / E.U.size u<xs.length:=(Nat.div_lt_iff_lt_mul ck).2 bQ;have sC:=Nat.mod_lt j ck;have dl:j / E.U.size u*E.U.size u+j % E.U.size u=j:=Nat.div_add_mod' j (E.U.size u);obtain⟨v,hv,aq⟩:=h3 (j / E.U.size u) _ (Bj jM);obtain⟨vs,e1,e2,cs,e3,e4⟩:=A55 aq;have cz:(E.U.cells u xs[j / E.U.size u])[j % E.U.size u]?=some lf:=by
      rw[←flat_get hU u xs (j / E.U.size u) _ (j % E.U.size u) (Bj jM) sC,dl];exact hj
     refine⟨cs (j % E.U.size u),?_,e4 _ _ cz⟩;rw[hv,e1];simpa [Dq]using e3 _ _ cz
    have ag:(Ej t n (ps.map fun(j,x)=>(j,a.eval x))).run P w=.ok (.slice (some ⟨w.heap.size,0,none⟩) n n) (w.alloc (.cells ((ps.toList.map fun p=>a.eval p.2).flatMap fun v=>v.cells.toList).toArray e)):=by
     by_cases h0:n=0
     ·subst h0;have eu:ps= #[]:=by
       apply Dg;simpa using (Dm au.symm)
      subst eu;simp[Ej,Bg dQ,Ce,Bq,bR,Ei,Ct,Hl]
     ·have xl:¬n*ie.size=0:=by
       rw[aC];have:=Nat.mul_pos (Nat.pos_of_ne_zero h0) ck;omega
      refine run_buildSlice w t e n _ _ ie z dQ bR hz (by rw[aC];omega) xl ?_;rw[Ek,h2,aC];exact Great.fill_whole ck _ _ nq (by simp[au])
    refine R7 (v:=.slice (some ⟨w.heap.size,0,none⟩) n n) (w':=w.alloc (.cells ((ps.toList.map fun p=>a.eval p.2).flatMap fun v=>v.cells.toList).toArray e)) (by simp[Bb,ak,ag]) (hn _ _ _ _ h' ?_);have bV:((ps.toList.map fun p=>a.eval p.2).flatMap fun v=>v.cells.toList).length=n*E.U.size u:=by
     rw[B6i _ _ _ fun v hv=>by simpa using nq v hv,Ef,au]
    have:=REL.newOwn (o:=o) (hety:=A4k hT ht) hU hr hd (C7 o.dst) (t:=u) (l:=xs) (c:=((ps.toList.map fun p=>a.eval p.2).flatMap fun v=>v.cells.toList).toArray) (e:=e) (fz:=(0,0)) (cap:=n) (w.alloc (.cells ((ps.toList.map fun p=>a.eval p.2).flatMap fun v=>v.cells.toList).toArray e)) rfl rfl rfl rfl
     (by omega) (by simp only[Gq];omega) rfl (fun j lf hj=>by
      obtain⟨v,hv,aq⟩:=aw j lf hj;exact⟨v,by simpa using hv,aq⟩)
    rw[show xs.length=n from jL]at this;exact this
   ·cases h
  split at h
  ·rename_i ls bm;split at h
   ·rename_i xs iM;obtain⟨hc,h'⟩:=C0 h;simp only[Bl]at hc;obtain⟨fC,dx,nr⟩:=hc;have jL:=(F6 _ _).1 fC;have dR:=(F6 _ _).1 dx;have nl:n<65536:=by simpa [Bu]using nr
    obtain⟨dQ,ie,z,bR,aC,_,hz,et⟩:=A0R hT ht;obtain⟨h1,h2,h3⟩:=B48 hr e ps.toList 0 ls bm;obtain⟨h4,h5⟩:=B6G hU u ls xs iM;have nu:∀ v∈(ps.toList.map fun p=>a.eval p.2),v.cells= #[v]:=by
     intro v hv;obtain⟨j,hj,pA⟩:=Eg hv;have oW:j<ls.length:=by simpa [h1]using hj
     obtain⟨v',dj,aq⟩:=h3 j ls[j] (Bj oW);rw[Bj hj]at dj;rw[←pA,Br dj];exact(aq.one hU (B9t hU (t:=u) (l:=xs) (j:=j) (by rw[h5];exact Bj oW))).2
    have au:n=ps.toList.length:=by omega
    have ag:(Ej t n (ps.map fun(j,x)=>(j,a.eval x))).run P w=.ok (.slice (some ⟨w.heap.size,0,none⟩) n n) (w.alloc (.cells (ps.toList.map fun p=>a.eval p.2).toArray e)):=by
     by_cases h0:n=0
     ·subst h0;have eu:ps= #[]:=by
       apply Dg;simpa using (Dm au.symm)
      subst eu;simp[Ej,Bg dQ,Ce,Bq,bR,Ei,Ct,Hl]
     ·refine run_buildSlice w t e n _ _ ie z dQ bR hz (by rw[aC,dR];omega) (by rw[aC,dR];omega) ?_;rw[Ek,h2,aC,dR];exact Great.fill_flat _ _ nu (by simp[au])
    refine R7 (v:=.slice (some ⟨w.heap.size,0,none⟩) n n) (w':=w.alloc (.cells (ps.toList.map fun p=>a.eval p.2).toArray e)) (by simp[Bb,ak,ag]) (hn _ _ _ _ h' ?_);have:=REL.newOwn (o:=o) (hety:=A4k hT ht) hU hr hd (C7 o.dst) (t:=u) (l:=xs) (c:=(ps.toList.map fun p=>a.eval p.2).toArray) (e:=e) (fz:=(0,0)) (cap:=n) (w.alloc (.cells (ps.toList.map fun p=>a.eval p.2).toArray e)) rfl rfl rfl rfl
     (by omega) (by rw[dR];simp[au]) rfl (fun j lf hj=>by
      rw[h5]at hj;obtain⟨v,hv,aq⟩:=h3 j lf hj;exact⟨v,by simpa using hv,aq⟩)
    rw[show xs.length=n from jL]at this;exact this
   ·cases h
  ·cases h
 ·cases h
theorem B1w{n b:Nat}(h:A3 n b=true):n*b≤140737488355328:=by simpa [A3]using h
include hT hU in
theorem D1w{t:Ba}{l c:Bd}(ak:o.op=.makeSlice t l c)(h:A9 E o s k=some r)(hr:Rel E.U B g s a w)(hd:∀ i,o.dst=some i→i<a.tmps.size∧B.np≤i)(hn:K0 E B o a k r next):o.wp P a w next Q:=by
 simp only[A9,ak]at h;split at h
 ·rename_i u e kl kc m ht hl fD;obtain⟨hc,h'⟩:=C0 h;simp only[Bl,decide_eq_true_eq]at hc;obtain⟨lb,cX⟩:=hc;have cX:=B1w cX;obtain⟨dQ,ie,z,bR,aC,oX,hz,et⟩:=A0R hT ht;have el:=Y1 hr hl;have ec:=Y1 hr fD;have lF:=hU.bpos u;have aQ:m.toNat≤m.toNat*E.U.bytes u:=Gm _ lF;have cj:(ie.bytes:Int)*m≤281474976710656:=by
   have e1:(m.toNat:Int)=m:=by omega
   have:((ie.bytes*m.toNat:Nat):Int)≤281474976710656:=by rw[oX,Nat.mul_comm];omega
   rw[Int.natCast_mul,e1]at this;exact this
  have ag:=run_make w t e ie z dQ bR hz kl kc 0 m (Int.le_refl _) lb cj (by omega);simp only[Int.toNat_zero]at ag;refine R7 (v:=.slice (some ⟨w.heap.size,0,none⟩) 0 m.toNat) (w':=w.alloc (.cells (Er z.cells (m.toNat*ie.size)) e)) (by simp[Bb,ak,el,ec,ag]) (hn _ _ _ _ h' ?_);exact REL.newOwn (o:=o) (hety:=A4k hT ht) hU hr hd (C7 o.dst) (t:=u) (l:=[]) (c:=Er z.cells (m.toNat*ie.size)) (e:=e) (fz:=(0,0)) (cap:=m.toNat) (w.alloc (.cells (Er z.cells (m.toNat*ie.size)) e)) rfl rfl rfl rfl
   (Bn _) (by rw[size_madeCells,aC];exact Bh _) rfl (fun j lf hj=>by simp[flat]at hj)
 ·cases h
include hT hU in
theorem C5z{t:Ba}{x:Bd}(ak:o.op=.range t x)(h:A9 E o s k=some r)(hr:Rel E.U B g s a w)(hd:∀ i,o.dst=some i→i<a.tmps.size∧B.np≤i)(hn:K0 E B o a k r next):o.wp P a w next Q:=by
 simp only[A9,ak]at h;split at h
 ·rename_i b ht hx;have ex:=A3I hr hx;have dQ:=A1Y hT ht;have h1:=hr.alloc hU (.stringIter ⟨b.toArray⟩ 0) 0 (w.alloc (.stringIter ⟨b.toArray⟩ 0)) rfl rfl rfl rfl;have ag:(Bb a.eval o).run P w=.ok (.value (.pointer (some ⟨w.heap.size,0,none⟩))) (w.alloc (.stringIter ⟨b.toArray⟩ 0)):=by
   simp[Bb,ak,ex,Instr.range,Bg dQ]
  refine R7 ag (hn _ _ _ _ h ?_);have a8:(w.alloc (.stringIter ⟨b.toArray⟩ 0)).heap[w.heap.size]?=some (.stringIter ⟨b.toArray⟩ 0):=heap_alloc_new w _;cases aJ:o.dst with
  |none=>exact⟨_,by simpa [St.setO,En]using h1⟩
  |some d=>
   have dm:=(hd d aJ).1;have w9:=(hd d aJ).2;have aI:=A78 a d;have aB:∀ i c p,s.get i=.iter c p→g.ib i<w.heap.size:=by
    intro i c p hc;have h2:=h1.ent i;have h3:=hr.ent i;rw[hc]at h3;obtain⟨b',hv,bw⟩:=h3;have h4:=(hr.iter i c p hc).1;rw[hv]at h4;cases h4;exact(Cf.1 bw).1
   refine⟨{wm:=D1 g.wm w.heap.size 0,G:=g.G,Gs:=g.Gs,ib:=fun i=>if i=d then w.heap.size else g.ib i},?_⟩;refine{os:=h1.os,tape:=h1.tape,output:=h1.output,size:=h1.size,frame:=h1.frame,ext:=h1.ext,zero:=h1.zero,ent:=fun i=>?_,tip:=h1.tip,disj:=h1.disj,mine:=h1.mine,iter:=fun i c pos hc=>?_,idis:=fun i j c p c' p' cB hi hj=>?_,defers:=by rw[B0h];exact h1.defers,bxl:=fun i e ls hc=>?_,pin:=fun i hi=>by(show(a.put (some d) _).tmps.getD i undef=_;rw[aI i _ dm,if_neg (by omega)];exact h1.pin i hi)}
   ·simp only[St.setO];rw[K3,aI i _ dm];by_cases cG:d=i
    ·rw[if_pos cG,if_pos cG];exact⟨w.heap.size,rfl,a8⟩
    ·rw[if_neg cG,if_neg cG];exact ERep.same (w:=w.alloc (.stringIter ⟨b.toArray⟩ 0)) (g:={wm:=D1 g.wm w.heap.size 0,G:=g.G,Gs:=g.Gs,ib:=g.ib}) (g':={wm:=D1 g.wm w.heap.size 0,G:=g.G,Gs:=g.Gs,ib:=fun i=>if i=d then w.heap.size else g.ib i}) hU ⟨A6H rfl,fun _ _ _=>rfl,fun _=>Bh _⟩ rfl rfl (h1.ent i) (fun _ _ _ _ _=>rfl) (fun _ _ _ _ _=>rfl)
   ·simp only[St.setO]at hc;rw[K3]at hc;rw[aI i _ dm];by_cases cG:d=i
    ·rw[if_pos cG];simp only[if_pos cG.symm];exact⟨trivial,hr.size⟩
    ·rw[if_neg cG]at hc ⊢;simp only[if_neg (Bt cG)];exact h1.iter i c pos hc
   ·simp only[St.setO]at hi hj;rw[K3]at hi hj;by_cases cG:d=i
    ·have ju:¬d=j:=fun e=>cB (cG.symm.trans e);rw[if_neg ju]at hj;simp only[if_pos cG.symm,if_neg (Bt ju)];have:=aB j _ _ hj;omega
    ·rw[if_neg cG]at hi;by_cases ju:d=j
     ·simp only[if_neg (Bt cG),if_pos ju.symm];have:=aB i _ _ hi;omega
     ·rw[if_neg ju]at hj;simp only[if_neg (Bt cG),if_neg (Bt ju)];exact h1.idis i j _ _ _ _ cB hi hj
   ·simp only[St.setO]at hc;rw[K3]at hc;by_cases cG:d=i
    ·rw[if_pos cG]at hc;cases hc
    ·rw[if_neg cG]at hc;exact h1.bxl i e ls hc
 ·cases h
theorem C1w{x:Nat}(ak:o.op=.next (.tmp x) true)(h:A9 E o s k=some r)(hr:Rel E.U B g s a w)(hU:E.U.Ok)(hd:∀ i,o.dst=some i→i<a.tmps.size∧B.np≤i)(hn:K0 E B o a k r next):o.wp P a w next Q:=by
 simp only[A9,ak]at h;split at h
 ·rename_i b pos hx;have aK:=hr.ent x;rw[hx]at aK;obtain⟨bb,hv,gj⟩:=aK;have vC:=(hr.iter x b pos hx).1;have pC:=(hr.iter x b pos hx).2;rw[hv]at vC;have sD:bb=g.ib x:=by simpa using vC
  have rM:x<a.tmps.size:=by
   rcases Ca x a.tmps.size with h1|h1
   ·exact h1
   ·rw[El,Array.getElem?_eq_none h1]at hv;cases hv
  cases hc:decide (pos<b.length)with
  |false=>
   rw[hc]at h;simp only[cond_false]at h;have aB:¬pos<(De b.toArray).size:=by rw[A2w];simpa using hc
   have ag:=run_next_end_at (P:=P) w bb ⟨b.toArray⟩ pos o.type gj aB;refine H8 (e:=.tup [.bool false]) hr hd hn h ⟨[.bool false],rfl,LRep.bool _,trivial⟩ rfl ?_;simp[Bb,ak,Dh,hv,ag]
  |true=>
   rw[hc]at h;simp only[cond_true]at h;have aB:pos<(De b.toArray).size:=by rw[A2w];simpa using hc
   have ag:=run_next_any_at (P:=P) w bb ⟨b.toArray⟩ pos o.type gj aB;refine R7 (v:=.tuple #[.bool true,.int .i64 pos,.int .i32 (Cg ⟨b.toArray⟩ pos).1]) (w':=w.iterAt bb ⟨b.toArray⟩ (pos+(Cg ⟨b.toArray⟩ pos).2)) (by simp[Bb,ak,Dh,hv,ag]) (hn _ _ _ _ h ?_);have sE:=(Cf.1 gj).1;have da:∀ j,j≠bb→(w.iterAt bb ⟨b.toArray⟩ (pos+(Cg ⟨b.toArray⟩ pos).2)).heap[j]?=w.heap[j]? :=fun j hj=>iterAt_other w bb j _ _ hj;have cE:=iterAt_heap w bb ⟨b.toArray⟩ pos (pos+(Cg ⟨b.toArray⟩ pos).2) gj;generalize eT:w.iterAt bb ⟨b.toArray⟩ (pos+(Cg ⟨b.toArray⟩ pos).2)=w' at*;have aC:w'.heap.size=w.heap.size:=by rw[←eT];exact iterAt_size _ _ _ _
   have aw:∀ b' off,w'.cell? ⟨b',off,none⟩=w.cell? ⟨b',off,none⟩:=by
    intro b' off;by_cases bw:b'=bb
    ·subst bw;simp[By,cE,gj]
    ·exact Bx (a:=⟨b',off,none⟩) (da b' bw)
   have rN:Ext w g.wm w' g.wm:=⟨C4l (b:=bb) (fun c e fz hq=>by rw[gj]at hq;cases hq) da,fun b' off _=>aw b' off,fun _=>Bh _⟩;have zW:B.w.heap.size≤bb:=by rw[sD];exact pC
   have h2:Rel E.U B g (s.set x (.iter b (pos+(Cg ⟨b.toArray⟩ pos).2))) a w':=by
    refine{os:=by rw[←eT];exact hr.os,tape:=by rw[←eT];exact hr.tape,output:=by rw[←eT];exact hr.output,size:=by rw[aC];exact hr.size,frame:=fun b' bw hM=>?_,ext:=hr.ext.trans rN,zero:=fun b' bw=>hr.zero b' (by rw[aC]at bw;exact bw),ent:=fun i=>?_,tip:=fun d dY=>?_,disj:=fun d e b' h3 h4=>hr.disj d e b' h3 h4,mine:=fun d b' h3=>hr.mine d b' h3,iter:=fun i c p cC=>?_,idis:=fun i j c p c' p' cB hi hj=>?_,defers:=hr.defers,bxl:=fun i e ls cC=>?_,pin:=hr.pin}
    ·rw[da b' (by omega)];exact hr.frame b' bw hM
    ·rw[K3];by_cases iX:x=i
     ·subst iX;rw[if_pos rfl];exact⟨bb,hv,cE⟩
     ·rw[if_neg iX];refine ERep.same hU rN rfl rfl (hr.ent i) (fun c p cC b' bw=>da b' ?_) (fun d' ls cC b' hs=>da b' fun e=>by
       subst e;obtain⟨c1,e1,f1,h5⟩:=A2U (hr.tip d' (hr.bxl i d' ls cC).1) hs;rw[gj]at h5;cases h5)
      have h3:=(hr.iter i c p cC).1;rw[bw]at h3;have h4:b'=g.ib i:=by simpa using h3
      rw[h4,sD];exact fun e=>hr.idis i x c p b pos (fun e'=>iX e'.symm) cC hx e
    ·obtain⟨a0,len,cap,dj,aQ,gk⟩:=hr.tip d dY;refine⟨a0,len,cap,dj,aQ,gk.imp id ?_⟩;rintro⟨b',off,c,e,fz,ha,bw,am⟩;exact⟨b',off,c,e,fz,ha,by rw[da b' (fun e'=>by subst e';rw[gj]at bw;cases bw)];exact bw,am⟩
    ·rw[K3]at cC;by_cases iX:x=i
     ·subst iX;exact⟨by rw[hv,sD],pC⟩
     ·rw[if_neg iX]at cC;exact hr.iter i c p cC
    ·rw[K3]at hi hj;by_cases iX:x=i
     ·rw[if_neg (fun e=>cB (iX.symm.trans e))]at hj;subst iX;exact hr.idis _ j _ _ _ _ cB hx hj
     ·rw[if_neg iX]at hi;by_cases vD:x=j
      ·subst vD;exact hr.idis i _ _ _ _ _ cB hi hx
      ·rw[if_neg vD]at hj;exact hr.idis i j _ _ _ _ cB hi hj
    ·rw[K3]at cC;by_cases iX:x=i
     ·rw[if_pos iX]at cC;cases cC
     ·rw[if_neg iX]at cC;exact hr.bxl i e ls cC
   exact REL.setO h2 (e:=.tup [.bool true,.int .i64 (pos:Int),.int .i32 ((Cg ⟨b.toArray⟩ pos).1:Int)]) ⟨[.bool true,.int .i64 pos,.int .i32 (Cg ⟨b.toArray⟩ pos).1],rfl,LRep.bool _,LRep.int _ _,LRep.int _ _,trivial⟩ rfl _ hd
 ·cases h
end
end Go.Aev
end
section
open Go.Lib
namespace Go.Aev
variable {Ty:Type}{den:Ty→Type}
theorem C8n(ns:List Int):∀(r:ByteArray),ns.foldl (fun r n=>r.push (Et n.toNat)) r=⟨(r.data.toList++ns.map fun n=>Et n.toNat).toArray⟩:=by
 induction ns with
 |nil=>intro r;cases r;simp
 |cons n ns ih=>
  intro r;rw[Fj,ih];cases r;simp[ByteArray.push]
theorem B6b(s:ByteArray):∀(bound i:Nat)(lc:Array Value),(∀ v∈lc.toList,∃ n:Int,v=.int .i32 n)→∀ v∈(Cx s bound i lc).toList,∃ n:Int,v=.int .i32 n
 |0,i,lc,h=>by simpa [Cx]using h
 |bound+1,i,lc,h=>by
  simp only[Cx];split
  ·exact B6b s bound _ _ (fun v hv=>by
    simp at hv;rcases hv with hv|hv
    ·exact h v (by simpa using hv)
    ·exact⟨_,hv⟩)
  ·exact h
def A3f(l:List Value):List Int:=l.map fun| .int _ n=>n|_=>0
theorem B98(l:List Value)(h:∀ v∈l,∃ n:Int,v=.int .i32 n):(A3f l).map (Cv .i32)=l:=by
 induction l with
 |nil=>rfl
 |cons v l ih=>
  obtain⟨n,rfl⟩:=h v (by simp);simp only[A3f,Gx,Ha,true_and];exact ih fun u hu=>h u (by simp[hu])
section
variable {E:Env Ty den}{B:Bs}{g:Gh}{s:St Ty den}{a:Act}{w:World}
variable {P:Bi}{R:Type}{o:Oper}{k:Ent Ty den→St Ty den→Option R}{r:R}{next:Act→World→Prop}{Q:Exit→Act→World→Prop}
variable (hT:∀ t,S3 P E.U t (E.tb t))(hU:E.U.Ok)
theorem C7Y(hU:E.U.Ok){t:Ty}{l:List (den t)}{own:Option Nat}{v:Value}{wm:Nat→Nat}{f:List (den t)→List UInt8}(hf:E.U.toBytes t=some f)(h:CRep E.U w wm (.sl t l own) v):
  (Hg v).run P w=.ok (.string ⟨(f l).toArray⟩) w:=by
 obtain⟨ns,jN,bV⟩:=hU.toBytes t f hf l;rcases h.sl_cells hU with⟨rfl,a0,cap,rfl⟩|⟨b,off,cap,cs,rfl,bc,aS,hc,fq⟩
 ·have gi:ns=[]:=by
   have:=congrArg Gy jN;simp[flat]at this;exact Dm this.symm
  subst gi;simp at bV;rw[bV];cases a0 with
  |none=>simp[Hg];rfl
  |some a0=>
   rw[Fw w a0 0 cap [] (by simp[Cu,Es])];rfl
 ·have au:ns.length=l.length*E.U.size t:=by rw[←A2d hU,jN];simp
  have aC:=hU.toBytes1 t f hf;rw[aC,Gk]at au;have dk:(Cu ⟨b,off,none⟩ l.length).run P w=.ok (ns.map (Cv .u8)).toArray w:=by
   have:=Fv (P:=P) w ⟨b,off,none⟩ (ns.map (Cv .u8)) (fun j v hv=>by
    rw[Bo]at hv;cases hn:ns[j]? with
    |none=>rw[hn]at hv;cases hv
    |some n=>
     rw[hn]at hv;simp at hv;subst hv;have pD:(flat E.U t l)[j]?=some (.int .u8 n):=by rw[jN];simp[hn]
     have h1:=hc j _ pD;have h2:=fq j _ pD;rw[h2.int_inv]at h1;rw[Cl];exact h1)
   simpa [au]using this
  rw[Fw w ⟨b,off,none⟩ l.length cap ns dk,C8n,bV];simp
theorem C1J(ns:List Int):∀(r:ByteArray),ns.foldl (fun r n=>r++Ga n) r=⟨(r.data.toList++A32 ns).toArray⟩:=by
 induction ns with
 |nil=>intro r;cases r;simp[A32]
 |cons n ns ih=>
  intro r;rw[Fj,ih];simp[A32,ByteArray.data_append]
theorem C0k(hU:E.U.Ok){t:Ty}{l:List (den t)}{own:Option Nat}{v:Value}{wm:Nat→Nat}{f:List (den t)→List Int}(hf:E.U.toRunes t=some f)(h:CRep E.U w wm (.sl t l own) v):
  (Hf v).run P w=.ok (.string ⟨(A32 (f l)).toArray⟩) w:=by
 have jN:=hU.toRunes t f hf l;have aC:=hU.toRunes1 t f hf;have au:(f l).length=l.length:=by
  have:=congrArg Gy jN;rw[A2d hU,aC,Ef,Gk]at this;exact this.symm
 rcases h.sl_cells hU with⟨rfl,a0,cap,rfl⟩|⟨b,off,cap,cs,rfl,bc,aS,hc,fq⟩
 ·have gi:f []=[]:=Dm au;rw[gi];cases a0 with
  |none=>simp[Hf,A32];rfl
  |some a0=>
   rw[Fu w a0 0 cap [] (by simp[Cu,Es])];rfl
 ·have dk:(Cu ⟨b,off,none⟩ l.length).run P w=.ok ((f l).map (Cv .i32)).toArray w:=by
   have:=Fv (P:=P) w ⟨b,off,none⟩ ((f l).map (Cv .i32)) (fun j v hv=>by
    rw[Bo]at hv;cases hn:(f l)[j]? with
    |none=>rw[hn]at hv;cases hv
    |some n=>
     rw[hn]at hv;simp at hv;subst hv;have pD:(flat E.U t l)[j]?=some (.int .i32 n):=by rw[jN];simp[hn]
     have h1:=hc j _ pD;have h2:=fq j _ pD;rw[h2.int_inv]at h1;rw[Cl];exact h1)
   simpa [au]using this
  rw[Fu w ⟨b,off,none⟩ l.length cap (f l) dk];unfold runesBytes;rw[C1J];rfl
theorem B5r(P:Bi)(w:World)(c:Array Value)(e:Ba)(b:Nat)(w1:World)(hw:w1.heap=w.heap.push (.cells c e (0,0)))(hb:b=w.heap.size):
  ∃ w2,(markStringish ⟨b,0,none⟩).run P w1=.ok () w2∧w2.heap=w.heap.push (.cells c e (c.size,c.size+1))∧w2.os=w1.os∧w2.tape=w1.tape∧w2.output=w1.output:=by
 subst hb;have a8:w1.heap[w.heap.size]?=some (.cells c e (0,0)):=by rw[hw];simp
 refine⟨w1.freeze ⟨w.heap.size,c.size,none⟩ 1,by simp[markStringish,World.shape?,a8],?_,?_,?_,?_⟩
 ·simp only[Ea,Nat.one_ne_zero,if_false];rw[hw];apply Array.ext_getElem?;intro i;rw[Fs];by_cases hi:w.heap.size=i
  ·subst hi;simp
  ·simp only[if_neg hi];rw[Cs,Cs];rw[if_neg (Bt hi),if_neg (Bt hi)]
 ·simp[Ea]
 ·simp[Ea]
 ·simp[Ea]
include hT hU in
theorem C6M{src dst:Ba}{x:Bd}(ak:o.op=.convert src dst x)(h:A9 E o s k=some r)(hr:Rel E.U B g s a w)(hd:∀ i,o.dst=some i→i<a.tmps.size∧B.np≤i)(hn:K0 E B o a k r next):o.wp P a w next Q:=by
 simp only[A9,ak]at h;split at h
 ·rename_i k1 k0 k2 n hs aJ hx;have ex:=Y1 hr hx;exact H8 (e:=.one (.int k0 (k0.wrap n))) hr hd hn h (LRep.int _ _) rfl (by simp[Bb,ak,ex,Do,Bg (A5g hT hs),Bg (A5g hT aJ),Conv.intToInt])
 ·rename_i t e u l own hs aJ hx;split at h
  ·rename_i l' f he cW hf;obtain⟨dQ,_⟩:=A0R hT hs;have ce:=J1 hr src x;rw[hx]at ce;have aq:=(A5Q cW ce.1).1;have hb:=C7Y (P:=P) hU hf aq;refine H8 (e:=.one (.str (f l'))) hr hd hn h (LRep.str _) rfl ?_;obtain⟨a0,cap,hv⟩:=aq.sl_inv;rw[hv]at hb;simp[Bb,ak,hv,Do,Bg dQ,Bg (A1Y hT aJ),Bg (A5g hT he),hb]
  ·rename_i l' f he cW hf;obtain⟨dQ,_⟩:=A0R hT hs;have ce:=J1 hr src x;rw[hx]at ce;have aq:=(A5Q cW ce.1).1;have hb:=C0k (P:=P) hU hf aq;refine H8 (e:=.one (.str (A32 (f l')))) hr hd hn h (LRep.str _) rfl ?_;obtain⟨a0,cap,hv⟩:=aq.sl_inv;rw[hv]at hb;simp[Bb,ak,hv,Do,Bg dQ,Bg (A1Y hT aJ),Bg (A5g hT he),hb]
  ·cases h
 ·rename_i t e b hs aJ hx;have ex:=A3I hr hx;obtain⟨dQ,ie,z,bR,aC,_,_,_⟩:=A0R hT aJ;split at h
  ·rename_i f he hf;obtain⟨hc,h'⟩:=C0 h;obtain⟨bV,sH⟩:=hU.ofBytes t f hf b;have dR:E.U.size t=1:=hU.ofBytes1 t f hf;obtain⟨w2,hm,mw,oY,pE,nw⟩:=B5r P w ((b.toArray.map fun c=>Cv .u8 (c.toNat:Int))++Dx ((Cb b.length 0 e).cut (w.tape w.drawn (.appendCap b.length 0 e)) - b.length) (.int .u8 0)) e w.heap.size
    (w.drew.alloc (.cells ((b.toArray.map fun c=>Cv .u8 (c.toNat:Int))++Dx ((Cb b.length 0 e).cut (w.tape w.drawn (.appendCap b.length 0 e)) - b.length) (.int .u8 0)) e)) rfl rfl
   have bc:b.length≤(Cb b.length 0 e).cut (w.tape w.drawn (.appendCap b.length 0 e)):=by simp[Gc]
   refine R7 (v:=.slice (some ⟨w.heap.size,0,none⟩) b.length ((Cb b.length 0 e).cut (w.tape w.drawn (.appendCap b.length 0 e)))) (w':=w2) ?_ (hn _ _ _ _ h' ?_)
   ·simp[Bb,ak,ex,Do,Bg (A1Y hT hs),Bg dQ,Bg (A5g hT he),Conv.stringToBytes,A2w,Eu,Ct]at hm ⊢;rw[hm];rfl
   ·have:=REL.newCl (o:=o) hU hr hd (t:=t) (l:=f b) (cap:=(Cb b.length 0 e).cut (w.tape w.drawn (.appendCap b.length 0 e))) w2 mw oY pE nw (by rw[bV];exact bc)
     (fun j lf hj=>by
      rw[sH,Bo]at hj;cases jx:b[j]? with
      |none=>rw[jx]at hj;cases hj
      |some c=>
       rw[jx]at hj;simp at hj;subst hj;have aB:=J7 jx;refine⟨.int .u8 (c.toNat:Int),?_,.int _ _⟩;rw[Ft (by simpa using aB)];simp[jx])
    rw[bV]at this;exact this
  ·rename_i f he hf;obtain⟨hc,h'⟩:=C0 h;have pF:=B98 _ (B6b ⟨b.toArray⟩ b.length 0 #[] (fun v hv=>by simp at hv));obtain⟨bV,sH⟩:=hU.ofRunes t f hf (A3f (Cx ⟨b.toArray⟩ b.length 0 #[]).toList);have dR:E.U.size t=1:=hU.ofRunes1 t f hf;have my:(f (A3f (Cx ⟨b.toArray⟩ b.length 0 #[]).toList)).length=(Cx ⟨b.toArray⟩ b.length 0 #[]).size:=by rw[bV];simp[A3f]
   generalize hX:Cx ⟨b.toArray⟩ b.length 0 #[]=X at*;have bc:X.size≤(Cb X.size 0 e).cut (w.tape w.drawn (.appendCap X.size 0 e)):=by simp[Gc]
   refine R7 (v:=.slice (some ⟨w.heap.size,0,none⟩) X.size ((Cb X.size 0 e).cut (w.tape w.drawn (.appendCap X.size 0 e))))
    (w':=w.drew.alloc (.cells (X++Dx ((Cb X.size 0 e).cut (w.tape w.drawn (.appendCap X.size 0 e)) - X.size) (.int .i32 0)) e)) ?_ (hn _ _ _ _ h' ?_)
   ·simp[Bb,ak,ex,Do,Bg (A1Y hT hs),Bg dQ,Bg (A5g hT he),Conv.stringToRunes,A2w,hX,Eu,Ct]
   ·have:=REL.newOwn (o:=o) (hety:=A4k hT aJ) hU hr hd (C7 o.dst) (t:=t) (l:=f (A3f X.toList)) (c:=X++Dx ((Cb X.size 0 e).cut (w.tape w.drawn (.appendCap X.size 0 e)) - X.size) (.int .i32 0)) (e:=e) (fz:=(0,0)) (cap:=(Cb X.size 0 e).cut (w.tape w.drawn (.appendCap X.size 0 e)))
     (w.drew.alloc (.cells (X++Dx ((Cb X.size 0 e).cut (w.tape w.drawn (.appendCap X.size 0 e)) - X.size) (.int .i32 0)) e)) rfl rfl rfl rfl (by rw[my];exact bc)
     (by rw[dR];simp;omega) rfl (fun j lf hj=>by
      rw[sH,Bo]at hj;cases jx:(A3f X.toList)[j]? with
      |none=>rw[jx]at hj;cases hj
      |some c=>
       rw[jx]at hj;simp at hj;subst hj;refine⟨.int .i32 c,?_,.int _ _⟩;have h1:X.toList[j]?=some (.int .i32 c):=by rw[←pF];simp[jx]
       have aB:=J7 h1;rw[Ft (by simpa using aB)];simpa using h1)
    rw[my]at this;exact this
  ·cases h
 ·cases h
end
end Go.Aev
end
section
open Go.Lib
namespace Go.Aev
variable {Ty:Type}{den:Ty→Type}
section
variable {E:Env Ty den}{B:Bs}{g:Gh}{s:St Ty den}{a:Act}{w:World}
variable {P:Bi}{R:Type}{o:Oper}{k:Ent Ty den→St Ty den→Option R}{r:R}{next:Act→World→Prop}{Q:Exit→Act→World→Prop}
variable (hT:∀ t,S3 P E.U t (E.tb t))(hU:E.U.Ok)
structure Src(P:Bi)(U:UO Ty den)(t:Ty)(w:World)(wm:Nat→Nat)(y:Value)(m:List (den t))(bM:List Value):Prop where
 len:(Dn y).run P w=.ok m.length w
 first:∀ w':World,w'.heap=w.heap→(Cr (U.size t) m.length y).run P w'=.ok bM.toArray w'
 nlen:bM.length=m.length*U.size t
 rep:∀(j:Nat)(lf:Leaf Ty den),(flat U t m)[j]?=some lf→∃ v,bM[j]?=some v∧CRep U w wm lf v
 one:∀ v∈bM,v.oneCell'=true
theorem B7k(hU:E.U.Ok){t:Ty}{l:List (den t)}{b off:Nat}{wm:Nat→Nat}{cs:Nat→Value}(hc:∀ j lf,(flat E.U t l)[j]?=some lf→w.cell? ⟨b,off+j,none⟩=some (cs j))
  (fq:∀ j lf,(flat E.U t l)[j]?=some lf→CRep E.U w wm lf (cs j))(a0:Addr)(ha:a0=⟨b,off,none⟩)(n c:Nat)(hn:n=l.length):
  (∀ w':World,w'.heap=w.heap→(Cr (E.U.size t) n (.slice (some a0) n c)).run P w'=.ok ((Cj (l.length*E.U.size t)).map cs).toArray w')∧
  (∀(j:Nat)(lf:Leaf Ty den),(flat E.U t l)[j]?=some lf→∃ v,((Cj (l.length*E.U.size t)).map cs)[j]?=some v∧CRep E.U w wm lf v)∧
  (∀ v∈(Cj (l.length*E.U.size t)).map cs,v.oneCell'=true):=by
 subst ha hn;have bV:=A2d hU t l;have aI:∀ j,j<l.length*E.U.size t→∃ lf,(flat E.U t l)[j]?=some lf:=fun j hj=>⟨_,Bj (by omega)⟩;refine⟨fun w' eT=>?_,fun j lf hj=>?_,fun v hv=>?_⟩
 ·refine run_firstCells_some w' (E.U.size t) l.length ⟨b,off,none⟩ l.length c _ (by simp) (fun j v hv=>?_);rw[Bo]at hv;have bQ:j<l.length*E.U.size t:=by
   rcases Ca j (l.length*E.U.size t)with h|h
   ·exact h
   ·rw[Ds (by simpa using h)]at hv;cases hv
  rw[Dk bQ]at hv;simp at hv;subst hv;obtain⟨lf,cz⟩:=aI j bQ;rw[Cl];have:=hc j lf cz;rw[←this];exact Bx (a:=⟨b,off+j,none⟩) (by rw[eT])
 ·have bQ:=J7 hj;exact⟨cs j,by rw[Bo,Dk (by omega)];rfl,fq j lf hj⟩
 ·obtain⟨j,hj,rfl⟩:=Gu.1 hv;have bQ:j<l.length*E.U.size t:=by simpa using hj
  obtain⟨lf,cz⟩:=aI j bQ;exact((fq j lf cz).one hU (B9t hU cz)).1
theorem B55(hU:E.U.Ok){t:Ty}{l:List (den t)}{own:Option Nat}{v:Value}{wm:Nat→Nat}(h:CRep E.U w wm (.sl t l own) v):∃ bM,Src P E.U t w wm v l bM:=by
 rcases h.sl_cells hU with⟨rfl,a0,cap,rfl⟩|⟨b,off,cap,cs,rfl,bc,aS,hc,fq⟩
 ·refine⟨[],by simp[Dn],fun w' _=>?_,by simp,fun j lf hj=>by simp[flat]at hj,fun v hv=>by simp at hv⟩;cases a0<;>simp[Cr,Cu,Es]
 ·obtain⟨h1,h2,h3⟩:=B7k (P:=P) (w:=w) hU hc fq ⟨b,off,none⟩ rfl l.length cap rfl;exact⟨_,by simp[Dn],h1,by simp,h2,h3⟩
theorem C7p(hU:E.U.Ok){t:Ty}{b:List UInt8}{f:List UInt8→List (den t)}{wm:Nat→Nat}(hf:E.U.ofBytes t=some f):∃ bM,Src P E.U t w wm (.string ⟨b.toArray⟩) (f b) bM:=by
 obtain⟨h1,h2⟩:=hU.ofBytes t f hf b;have hs:=hU.ofBytes1 t f hf;refine⟨b.map fun c=>Cv .u8 (c.toNat:Int),by simp[Dn,A2w,h1],fun w' _=>?_,by simp[h1,hs],fun j lf hj=>?_,fun v hv=>?_⟩
 ·simp only[Cr,Sem.run_pure]
  congr 1
  rw[h1];have:(De b.toArray).extract 0 b.length=⟨b.toArray⟩:=by rw[Hh];simp
  rw[this];simp[List.map_toArray]
 ·rw[h2,Bo]at hj;cases jx:b[j]? with
  |none=>rw[jx]at hj;cases hj
  |some c=>
   rw[jx]at hj;simp at hj;subst hj;exact⟨.int .u8 (c.toNat:Int),by simp[jx],.int _ _⟩
 ·obtain⟨c,_,rfl⟩:=Gu.1 hv;rfl
theorem A9d(d:Nat)(lf:Leaf Ty den):(lf.strip d).strip d=lf.strip d:=by
 rcases lf.strip_cases d with h3|⟨t1,l1,rfl,h3⟩|⟨o,rfl,h3⟩
 ·rw[h3,h3]
 ·rw[h3];rfl
 ·rw[h3];rfl
theorem B9K(hU:E.U.Ok){t u ty e:Ba}{t':Ty}(ht:P.underlying t=some (.slice e))(hu:A8t P u){i:TypeInfo}{z:Value}(hi:P.info? e=some i)(aC:i.size=E.U.size t')(oX:i.bytes=E.U.bytes t')(hz:i.zero=some z)(et:z.cells.size=E.U.size t')
  (hr:Rel E.U B g s a w)(hd:∀ i,o.dst=some i→i<a.tmps.size∧B.np≤i){d:Nat}(dm:mem d s.live=true)(hety:∀ e',E.U.ety t'=some e'→e'=e){l m:List (den t')}{v y:Value}{bM:List Value}(hv:LRep E.U w g (.sl t' l (some d)) v)(hy:Src P E.U t' w g.wm y m bM)
  (cX:(l.length+m.length)*E.U.bytes t'≤140737488355328):
  ∃ v' w',(Df #[t,u] ty #[v,y]).run P w=.ok v' w'∧REL E.U B ((s.fresh d).setO o.dst (.one (.sl t' (l++m) (some d)))) (a.put o.dst v') w':=by
 obtain⟨nx,rO,ny⟩:=hv.2.1 t' l d rfl;have lF:=hU.bpos t';have nz:l.length+m.length≤140737488355328:=Cw (Gm _ lF) cX;obtain⟨a0,len,cap,hJ,aQ,dA⟩:=hr.tip d dm;rw[←nx]at hJ;have au:len=l.length:=by
  obtain⟨a1,c1,h1⟩:=hv.1.sl_inv;rw[h1]at hJ;simp at hJ;omega
 subst au;obtain⟨ep,cV⟩:=B55 (P:=P) hU hv.1;have pG:∀ w':World,w'.heap=w.heap→(Cr i.size l.length (.slice a0 l.length cap)).run P w'=.ok ep.toArray w':=fun w' eT=>by
  rw[aC, ←hJ];exact cV.first w' eT
 have jO:∀ w':World,w'.heap=w.heap→(Cr i.size m.length y).run P w'=.ok bM.toArray w':=fun w' eT=>by
  rw[aC];exact hy.first w' eT
 have fK:∀(j:Nat)(lf:Leaf Ty den),(flat E.U t' (l++m))[j]?=some lf→∃ v,(ep++bM)[j]?=some v∧CRep E.U w g.wm lf v:=fun j lf hj=>by
  rw[B8F]at hj;have bV:=A2d hU t' l;by_cases bQ:j<l.length*E.U.size t'
  ·rw[Dc (by omega)]at hj;obtain⟨v,ej,ed⟩:=cV.rep j lf hj;exact⟨v,by rw[Dc (by rw[cV.nlen];exact bQ)];exact ej,ed⟩
  ·rw[Dl (by omega),bV]at hj;obtain⟨v,ej,ed⟩:=hy.rep _ lf hj;exact⟨v,by rw[Dl (by rw[cV.nlen];omega),cV.nlen];exact ej,ed⟩
 by_cases jP:cap<l.length+m.length
 ·
  have ag:=B40 (P:=P) w t u ty e i z ht hu hi hz a0 l.length cap ep pG y m.length bM hy.len jO jP (by omega) (by rw[oX];exact cX);rw[←hJ]at ag;refine⟨_,_,ag,?_⟩;have bc:l.length+m.length≤Cz w (l.length+m.length) cap e:=grownCap_ge _ _ _ _;have:=REL.newOwn (o:=o) (hety:=hety) hU hr hd d (t:=t') (l:=l++m) (c:=ep.toArray++bM.toArray++Fm z.cells (Cz w (l.length+m.length) cap e - (l.length+m.length))) (e:=e) (fz:=(0,0)) (cap:=Cz w (l.length+m.length) cap e)
   (w.drew.alloc (.cells (ep.toArray++bM.toArray++Fm z.cells (Cz w (l.length+m.length) cap e - (l.length+m.length))) e)) rfl rfl rfl rfl (by simpa using bc)
   (by
    simp only[Array.size_append,Gq,size_zeroCells,et,cV.nlen,hy.nlen, ←Cc];exact Ec _ (by omega)) rfl (fun j lf hj=>by
    obtain⟨v,ej,ed⟩:=fK j lf hj;have aB:=J7 ej;refine⟨v,?_,ed⟩;rw[Ft (by simpa using aB)];simpa using ej)
  simp only[Fg]at this;exact this
 ·
  have gl:l.length+m.length≤cap:=by omega
  by_cases dw:cap=0
  ·
   have lb:m=[]:=Dm (by omega);subst lb;have lG:bM=[]:=Dm (by simpa using hy.nlen);subst lG;have ag:=A9v (P:=P) w t u ty e i ht hu hi a0 l.length cap y 0 [] (by simpa using hy.len) (by simpa using jO w rfl) w (fun a1 _=>by simp[Dy]) (fun _=>rfl) (by simpa using gl);rw[←hJ]at ag;simp only[Fb]at ag;rw[←hJ]at ag;refine⟨v,w,ag,?_⟩;have h2:=hr.fresh hU d v (E.U.size t') (by have:=hr.tip d dm;rw[←nx, ←rO]at this;exact this) (fun e' b he az hs=>by
    rw[nx]at hs;exact hr.disj d e' b dm he (Bt az) hs) (fun b hs=>by rw[nx]at hs;exact hr.mine d b dm hs)
   refine REL.setO h2 (e:=.one (.sl t' (l++[]) (some d))) ?_ rfl o.dst hd;rw[List.append_nil];refine⟨hv.1,fun t1 l1 d1 he=>?_,fun _ _ he=>by(cases he)⟩;simp only[Leaf.sl.injEq,Be]at he;obtain⟨rfl,_,rfl⟩:=he;exact⟨by simp[Gh.put],by simp[Gh.put],ny⟩
  ·obtain⟨b,off,c,e',fz,ha,hb,cH,aS,ms⟩:=dA.resolve_left dw;subst ha;rw[←rO]at cH aS;have dn:spare (g.G d)=some b:=by rw[←nx,hJ];simp[spare,dw]
   have gf:(l.length+m.length)*E.U.size t'≤cap*E.U.size t':=Ec _ gl;rw[Cc]at gf;have bL:=A4J P b e' fz bM (off+l.length*E.U.size t') w c hb (by rw[hy.nlen];omega) (fun j h1 h2=>by omega) hy.one;obtain⟨s1,⟨c',s2,s3,s4,s5⟩,s6,s7,s8,s9,ld⟩:=bL;have ag:=A9v (P:=P) w t u ty e i ht hu hi (some ⟨b,off,none⟩) l.length cap y m.length bM hy.len (jO w rfl) (C3 w b (off+l.length*E.U.size t') bM)
    (fun a1 oZ=>by
     have:a1=⟨b,off,none⟩:=(Br oZ).symm;subst this;rw[Cl,aC];exact s1 _ 0 (by simp) (Bn _)) (fun h0=>by cases h0) gl
   rw[←hJ]at ag;refine⟨_,_,ag,?_⟩;generalize eT:C3 w b (off+l.length*E.U.size t') bM=w' at*;have aw:∀ b' o',o'<g.wm b'→w'.cell? ⟨b',o',none⟩=w.cell? ⟨b',o',none⟩:=fun b' o' hY=>by
    by_cases gj:b'=b
    ·subst gj;simp only[By,s2,hb];simp only[Gg,Fp,if_false];exact s4 o' (.inl (by rw[aS]at hY;exact hY))
    ·exact Bx (a:=⟨b',o',none⟩) (s7 b' gj)
   have hx:Ext w g.wm w' (D1 g.wm b (off+(l.length+m.length)*E.U.size t')):=by
    refine⟨A5X hb s2 s7,aw,fun b'=>?_⟩;unfold D1;by_cases gj:b'=b
    ·subst gj;rw[if_pos rfl,aS];rw[Cc];omega
    ·rw[if_neg gj];exact Bh _
   have hk:=hr.kill hU d;have sE:=(Cf.1 hb).1;have h1:=hk.world hU (w':=w') (wm':=D1 g.wm b (off+(l.length+m.length)*E.U.size t')) s8 s9 ld (by rw[s6];exact Bh _) hx (fun b'=>b'=b) (fun b' bw=>by cases bw;exact⟨c,e',fz,hb⟩)
    (fun e1 b' ft dR=>.inl fun bw=>by
     cases bw;have dT:=(T9 d e1 s.live).1 ft;exact hr.disj d e1 b dm dT.1 (Bt dT.2) dn dR)
    (fun b' bw=>by cases bw;exact hr.mine d b dm dn)
    (fun b' bw az=>⟨s7 b' az,by simp only[D1];rw[if_neg az]⟩)
    (fun b' bw=>by
     rw[s6]at bw;simp only[D1];rw[if_neg (by omega)];exact hr.zero b' bw)
   have eR:D1 g.wm b (off+(l.length+m.length)*E.U.size t') b=off+(l.length+m.length)*E.U.size t':=by simp[D1]
   have h2:=h1.fresh hU d (.slice (some ⟨b,off,none⟩) (l.length+m.length) cap) (E.U.size t')
    ⟨_,_,_,rfl,gl,.inr ⟨b,off,c',e',fz,rfl,s2,by rw[s3];exact cH,eR,by show fz.2≤D1 g.wm b (off+(l.length+m.length)*E.U.size t') b;rw[eR,Cc];omega⟩⟩
    (fun e1 b' ft az dR eI=>by
     have bw:b'=b:=by
      simp only[spare]at dR;split at dR
      ·cases dR
      ·exact(Br dR).symm
     subst bw;have dT:=(T9 d e1 s.live).1 ft;exact hr.disj d e1 b' dm dT.1 (Bt az) dn eI)
    (fun b' dR=>by
     have bw:b'=b:=by
      simp only[spare]at dR;split at dR
      ·cases dR
      ·exact(Br dR).symm
     subst bw;exact hr.mine d b' dm dn)
   have ew:Rel E.U B (({g with wm:=D1 g.wm b (off+(l.length+m.length)*E.U.size t')}:Gh).put d (.slice (some ⟨b,off,none⟩) (l.length+m.length) cap) (E.U.size t')) (s.fresh d) a w':=by
    refine h2.weaken (fun i=>.inr ?_) (fun e1 ft=>?_) (fun i d' ls _ hl=>?_)
    ·rw[A2x,A2x,A51];cases fg:s.get i with
     |one lf=>
      simp only[Ent.strip]
      congr 1
      exact(A9d d lf).symm
     |st ls=>
      simp only[Ent.strip,Fe]
      congr 1
      apply Ff;intro lf _;simp only[He];exact(A9d d lf).symm
     |tup ls=>
      simp only[Ent.strip,Fe]
      congr 1
      apply Ff;intro lf _;simp only[He];exact(A9d d lf).symm
     |iter c p=>rfl
     |bx d' ls=>
      simp only[Ent.strip];cases hb:Ai d' d with
      |true=>rfl
      |false=>
       simp only[cond_false,Ent.strip,hb,Fe]
       congr 1
       apply Ff;intro lf _;exact(A9d d lf).symm
    ·simp only[St.fresh,St.kill]at ft ⊢;rw[mem_cons,T9]at ft ⊢;rcases ft with h3|⟨h3,h4⟩
     ·exact .inl h3
     ·exact .inr ⟨(T9 d e1 _).2 ⟨h3,h4⟩,h4⟩
    ·simp only[St.fresh,St.kill]at hl ⊢;rw[mem_cons,T9]at hl ⊢;rcases hl with h3|⟨h3,h4⟩
     ·exact .inl h3
     ·exact .inr ⟨((T9 d d' _).1 h3).1,h4⟩
   refine REL.setO ew (e:=.one (.sl t' (l++m) (some d))) ⟨?_,fun t1 l1 d1 he=>?_,fun _ _ he=>by(cases he)⟩ rfl o.dst hd
   ·have fu:=hx;have:=CRep.sl (U:=E.U) (w:=w') (wm:=D1 g.wm b (off+(l.length+m.length)*E.U.size t')) t' (l++m) (some d) b off cap (fun j=>(ep++bM).getD j undef) (by simpa using gl) (by rw[eR];simp)
     (fun j lf hj=>by
      obtain⟨v1,ej,ed⟩:=fK j lf hj;have aB:=J7 ej;have aX:(ep++bM).getD j undef=v1:=by simp[List.getD,ej]
      rw[aX];by_cases bQ:j<l.length*E.U.size t'
      ·rw[hx.cell b (off+j) (by rw[aS];omega)];rw[Dc (by rw[cV.nlen];exact bQ)]at ej;rcases hv.1.sl_cells hU with⟨b8,_⟩|⟨b2,pH,xm,lH,o4,_,_,dx,cO⟩
       ·rw[b8]at bQ;simp at bQ
       ·have cE:=hJ.symm.trans o4;simp only[Hn,Be,Addr.mk.injEq]at cE;obtain⟨⟨rfl,rfl,_⟩,_,rfl⟩:=cE;rw[B8F,Dc (by rw[A2d hU];exact bQ)]at hj;have h5:=dx j lf hj;have h6:=cV.first w rfl;rw[hJ]at h6;obtain⟨k1,k2,_⟩:=B7k (P:=P) (w:=w) hU dx cO ⟨b,off,none⟩ rfl l.length cap rfl;have h7:=k1 w rfl;rw[h7]at h6;have h8:((Cj (l.length*E.U.size t')).map lH)=ep:=by
         have:=congrArg (fun r=>match r with|Result.ok (x:Array Value) _=>x.toList|_=>[]) h6;simpa using this
        rw[←h8,Bo,Dk bQ]at ej;simp at ej;rw[h5,ej]
      ·rw[Dl (by rw[cV.nlen];omega),cV.nlen]at ej;have h3:=s5 _ v1 ej;simp only[By,s2];simp only[Gg,Fp,if_false];rw[←h3];congr 1;omega)
     (fun j lf hj=>by
      obtain⟨v1,ej,ed⟩:=fK j lf hj;have aX:(ep++bM).getD j undef=v1:=by simp[List.getD,ej]
      rw[aX];exact ed.mono hU hx)
    have pI:CRep E.U w' (D1 g.wm b (off+(l.length+m.length)*E.U.size t')) (.sl t' (l++m) (some d)) (.slice (some ⟨b,off,none⟩) (l.length+m.length) cap):=by simpa using this
    exact pI
   ·simp only[Leaf.sl.injEq,Be]at he;obtain⟨rfl,_,rfl⟩:=he;refine⟨by simp[Gh.put],by simp[Gh.put],?_⟩;rw[hJ]at ny;exact(ny.ext hx).len
end
end Go.Aev
end
section
open Go.Lib
namespace Go.Aev
variable {Ty:Type}{den:Ty→Type}
section
variable {E:Env Ty den}{B:Bs}{g:Gh}{s:St Ty den}{a:Act}{w:World}
variable {P:Bi}{R:Type}{o:Oper}{k:Ent Ty den→St Ty den→Option R}{r:R}{next:Act→World→Prop}{Q:Exit→Act→World→Prop}
variable (hT:∀ t,S3 P E.U t (E.tb t))(hU:E.U.Ok)
theorem A5b{α:Type}{A:Array α}{l:List α}(h:A.toList=l):A=l.toArray:=by rw[←h]
include hT hU in
theorem C8p{c:Call}{t u:Ba}{x y:Bd}(ak:o.op=.call c)(aG:c.callee=.builtin .append)(fE:c.argTypes= #[t,u])(aE:c.args= #[x,y])(h:B0j E t u x y o.dst s k=some r)
  (hr:Rel E.U B g s a w)(hd:∀ i,o.dst=some i→i<a.tmps.size∧B.np≤i)(hn:K0 E B o a k r next):o.wp P a w next Q:=by
 have ag:∀{v':Value}{w':World},(Df #[t,u] o.type #[a.eval x,a.eval y]).run P w=.ok v' w'→(Bb a.eval o).run P w=.ok (.value v') w':=fun h1=>by
  simp[Bb,ak,Cm,aG,fE,aE,Co,Dp,h1]
 unfold B0j at h;split at h
 ·rename_i t' e t0 l0 d s1 ht hx;obtain⟨dQ,i,z,hi,aC,oX,hz,et⟩:=A0R hT ht;split at h
  ·rename_i l cW;obtain⟨dm,h'⟩:=C0 h;obtain⟨g1,cJ,hv,sI⟩:∃ g1,Rel E.U B g1 s1 a w∧LRep E.U w g1 (.sl t' l (some d)) (a.eval x)∧g1.wm=g.wm:=by
    cases b8:A2G x with
    |true=>
     rw[b8,ht]at hx;simp only[cond_true,Ci,Leaf.sl.injEq,Be]at hx;obtain⟨⟨h1,h2,h3⟩,h4⟩:=hx;subst h1;have fL:=eq_of_heq h2;subst fL h3 h4;obtain⟨e0,o5⟩:=B0K cW;have:l=[]:=by rw[←o5]
     subst this;have sJ:a.eval x=.slice none 0 0:=by
      unfold A2G at b8;split at b8
      ·rfl
      ·cases b8
     refine⟨g.put (C7 o.dst) (.slice none 0 0) (E.U.size t'),hr.fresh hU _ _ _ ⟨_,_,_,rfl,Bh _,.inl rfl⟩ (fun _ _ _ _ hs=>by simp[spare]at hs) (fun _ hs=>by simp[spare]at hs),?_⟩;rw[sJ];refine⟨⟨.nil _ _ _ _,fun t1 l1 d1 he=>?_,fun _ _ he=>by(cases he)⟩,rfl⟩;simp only[Leaf.sl.injEq,Be]at he;obtain⟨rfl,_,rfl⟩:=he;exact⟨by simp[Gh.put],by simp[Gh.put],TyB.nil⟩
    |false=>
     rw[b8]at hx;simp only[cond_false,Ci]at hx;obtain⟨h1,rfl⟩:=hx;have ce:=J1 hr t x;rw[h1]at ce;obtain⟨e0,o5⟩:=B0K cW;subst e0;subst o5;exact⟨g,hr,ce,rfl⟩
   have mA:∀{lf:Leaf Ty den},opl E s u y=lf→CRep E.U w g1.wm lf (a.eval y):=by
    intro lf he;have h1:=(J1 hr u y).1;rw[he]at h1;rw[sI];exact h1
   split at h'
   ·rename_i v0 e0 v m0 own hu hy;split at h'
    ·rename_i m hm;obtain⟨cX,sK⟩:=C0 h';have aq:=(A5Q hm (mA hy)).1;obtain⟨bM,ez⟩:=B55 (P:=P) hU aq;obtain⟨v',w',eJ,bH⟩:=B9K (ty:=o.type) hU dQ (.inl ⟨_,(A0R hT hu).1⟩) hi aC oX hz et cJ hd dm (A4k hT ht) hv ez (B1w cX);exact R7 (ag eJ) (hn _ _ _ _ sK bH)
    ·cases h'
   ·rename_i b hu hy;split at h'
    ·rename_i f hf;obtain⟨cX,sK⟩:=C0 h';have ey:=(mA hy).str_inv;obtain⟨bM,ez⟩:=C7p (P:=P) (w:=w) (b:=b) (wm:=g1.wm) hU hf;have bV:=(hU.ofBytes _ f hf b).1;rw[←ey]at ez;obtain⟨v',w',eJ,bH⟩:=B9K (ty:=o.type) hU dQ (.inr (A1Y hT hu)) hi aC oX hz et cJ hd dm (A4k hT ht) hv ez (by rw[bV];exact B1w cX);exact R7 (ag eJ) (hn _ _ _ _ sK bH)
    ·cases h'
   ·cases h'
  ·cases h
 ·cases h
include hT hU in
theorem C3d{c:Call}{b:Builtin}(ak:o.op=.call c)(aG:c.callee=.builtin b)(h:A1g E b c.argTypes.toList c.args.toList o.dst s k=some r)
  (hr:Rel E.U B g s a w)(hd:∀ i,o.dst=some i→i<a.tmps.size∧B.np≤i)(hn:K0 E B o a k r next):o.wp P a w next Q:=by
 unfold A1g at h;split at h
 ·rename_i t x fE aE;have fE:=A5b fE;have aE:=A5b aE;split at h
  ·rename_i t' e l own ht hx;obtain⟨dQ,_⟩:=A0R hT ht;have ce:=J1 hr t x;rw[show opl E s t x=_ from hx]at ce;obtain⟨a0,cap,hv⟩:=ce.1.sl_inv;exact H8 (e:=.one (.int .i64 l.length)) hr hd hn h (LRep.int _ _) rfl (by simp[Bb,ak,Cm,aG,fE,aE,Co,Dp,hv,Hi,Bg dQ,goInt])
  ·rename_i c0 ht hx;have ex:=A3I hr hx;exact H8 (e:=.one (.int .i64 c0.length)) hr hd hn h (LRep.int _ _) rfl (by simp[Bb,ak,Cm,aG,fE,aE,Co,Dp,ex,Hi,Bg (A1Y hT ht),goInt,A2w])
  ·cases h
 ·rename_i x y aE;have aE:=A5b aE;split at h
  ·rename_i k0 va k1 vb hx hy;exact H8 (e:=.one (.int k0 (if vb<va then vb else va))) hr hd hn h (LRep.int _ _) rfl (by simp[Bb,ak,Cm,aG,aE,Co,Dp,Y1 hr hx,Y1 hr hy,run_min_int2])
  ·cases h
 ·rename_i x y aE;have aE:=A5b aE;split at h
  ·rename_i k0 va k1 vb hx hy;exact H8 (e:=.one (.int k0 (if vb>va then vb else va))) hr hd hn h (LRep.int _ _) rfl (by simp[Bb,ak,Cm,aG,aE,Co,Dp,Y1 hr hx,Y1 hr hy,run_max_int2])
  ·cases h
 ·rename_i t u x y fE aE;exact C8p hT hU ak aG (A5b fE) (A5b aE) h hr hd hn
 ·cases h
end
end Go.Aev
end
section
open Go.Lib
namespace Go.Aev
variable {Ty:Type}{den:Ty→Type}
theorem Leaf.has_iff(d:Nat)(lf:Leaf Ty den):lf.has d=true↔(∃ t l,lf=.sl t l (some d))∨∃ o,lf=.ptr d o:=by
 cases lf with
 |sl t l o=>
  cases o with
  |none=>simp[Leaf.has]
  |some e=>simp[Leaf.has,F6]
 |ptr e o=>simp[Leaf.has,F6]
 |_=>simp[Leaf.has]
structure Post(U:UO Ty den)(B:Bs)(g':Gh)(r:Ent Ty den)(v:Value)(w':World):Prop where
 os:w'.os=B.w.os
 tape:w'.tape=B.w.tape
 output:w'.output=B.w.output
 size:B.w.heap.size≤w'.heap.size
 frame:∀ b,b<B.w.heap.size→¬B.M b→w'.heap[b]?=B.w.heap[b]? ∧g'.wm b=B.wm b
 ext:Ext B.w B.wm w' g'.wm
 zero:∀ b,w'.heap.size≤b→g'.wm b=0
 rep:ERep U w' g' r v
 nit:r.isIter=false
 tip:∀ d,r.has d=true→Tip w' g'.wm (g'.G d) (g'.Gs d)
 disj:∀ d e b,r.has d=true→r.has e=true→d≠e→spare (g'.G d)=some b→spare (g'.G e)≠some b
 mine:∀ d b,r.has d=true→spare (g'.G d)=some b→B.w.heap.size≤b∨B.M b
abbrev Inv:=World→(Nat→Nat)→Prop
def A1R(P:Bi)(U:UO Ty den)(I:Inv)(f:Bm)(ls:List (Leaf Ty den))(r:Ent Ty den):Prop:=
 ∀(w:World)(g:Gh)(vs:List Value),I w g.wm→(∀ b,w.heap.size≤b→g.wm b=0)→LsRep U w g ls vs→(R9 ls=true→Tip w g.wm (g.G 0) (g.Gs 0))→(∀ lf∈ls,∀ d,lf.has d=true→d=0)→
  Calls P f vs.toArray w fun e w'=>∃ v g',e=.returned v∧Post U ⟨w,g.wm,fun b=>R9 ls=true∧spare (g.G 0)=some b,0,fun _=>undef⟩ g' r v w'
structure Sound(P:Bi)(U:UO Ty den)(I:Inv)(f:Bm)(S:List (Leaf Ty den)→Option (Ent Ty den)):Prop where
 enter:∀ args w,(Cp f args).run P w=.ok (.enter f args) w
 ok:∀ ls r,S ls=some r→A1R P U I f ls r
section
variable {U:UO Ty den}{w:World}{g:Gh}
theorem LsRep.close:∀{ls:List (Leaf Ty den)}{vs:List Value},LsRep U w g ls vs→LsRep U w g (G4 ls) vs
 |[],[],_=>trivial
 |_::_,_::_,h=>⟨LRep.closed h.1.1,LsRep.close h.2⟩
theorem LsRep.closed_any{g':Gh}(hw:g'.wm=g.wm):∀{ls:List (Leaf Ty den)}{vs:List Value},LsRep U w g (G4 ls) vs→LsRep U w g' (G4 ls) vs
 |[],[],_=>trivial
 |[],_::_,h=>h.elim
 |_::_,[],h=>h.elim
 |x::_,_::_,h=>⟨⟨by rw[hw];exact h.1.1,fun t1 l1 d1 he=>by(cases x<;>simp[Leaf.close]at he),fun d o he=>by(cases x<;>simp[Leaf.close]at he)⟩,LsRep.closed_any hw h.2⟩
theorem A54:∀(ls:List (Leaf Ty den)),R9 (G4 ls)=false
 |[]=>rfl
 |l::ls=>by
  cases l<;>simp only[G4,Leaf.close,R9]<;>exact A54 ls
theorem A4t(lf:Leaf Ty den)(d:Nat):lf.close.has d=false:=by cases lf<;>rfl
theorem A6V:∀{ls:List (Leaf Ty den)}{lf:Leaf Ty den},lf∈G4 ls→∃ l0:Leaf Ty den,lf=l0.close
 |[],lf,h=>by simp[G4]at h
 |l::ls,lf,h=>by
  simp only[G4,Bp]at h;rcases h with h1|h1
  ·exact⟨l,h1⟩
  ·exact A6V h1
theorem LsRep.length:∀{ls:List (Leaf Ty den)}{vs:List Value},LsRep U w g ls vs→ls.length=vs.length
 |[],[],_=>rfl
 |_::_,_::_,h=>by simp[LsRep.length h.2]
theorem LsRep.set:∀{ls:List (Leaf Ty den)}{vs:List Value},LsRep U w g ls vs→∀(i:Nat)(lf:Leaf Ty den),(∀ v,vs[i]?=some v→LRep U w g lf v)→LsRep U w g (ls.set i lf) vs
 |[],[],_,i,lf,_=>by cases i<;>trivial
 |_::_,_::_,h,0,lf,hv=>⟨hv _ rfl,h.2⟩
 |_::_,_::_,h,i+1,lf,hv=>⟨h.1,LsRep.set h.2 i lf fun v dj=>hv v (by simpa using dj)⟩
theorem B9B:∀(ls:List (Leaf Ty den))(i:Nat)(t:Ty)(l:List (den t)),i<ls.length→R9 ((G4 ls).set i (.sl t l (some 0)))=true
 |[],i,t,l,h=>by simp at h
 |x::ls,0,t,l,_=>rfl
 |x::ls,i+1,t,l,h=>by
  have ih:=B9B ls i t l (by simpa using h);cases x<;>simp only[G4,Leaf.close,List.set_cons_succ,R9]<;>exact ih
theorem D0i{ls:List (Leaf Ty den)}{i:Nat}{t:Ty}{l:List (den t)}{lf:Leaf Ty den}(h:lf∈(G4 ls).set i (.sl t l (some 0)))(d:Nat)(hd:lf.has d=true):d=0:=by
 rcases Gt h with h|rfl
 ·obtain⟨l0,rfl⟩:=A6V h;rw[A4t]at hd;cases hd
 ·obtain⟨_,_,he⟩:=((Leaf.has_iff d _).1 hd).resolve_right (fun⟨o,h⟩=>by cases h);simp only[Leaf.sl.injEq,Be]at he;exact he.2.2.symm
end
section
variable {E:Env Ty den}{B:Bs}{g:Gh}{s:St Ty den}{a:Act}{w:World}
variable {P:Bi}{R:Type}{o:Oper}{k:Ent Ty den→St Ty den→Option R}{r:R}{next:Act→World→Prop}{Q:Exit→Act→World→Prop}
theorem A5h(hr:Rel E.U B g s a w):∀(dH:List Ba)(args:List Bd),LsRep E.U w g (R2 E s dH args) (args.map a.eval)
 |dH,[]=>by cases dH<;>trivial
 |[],x::r=>⟨J1 hr 0 x,A5h hr [] r⟩
 |t::ts,x::r=>⟨J1 hr t x,A5h hr ts r⟩
def W2(Bc:Bs)(g' g1:Gh)(ent:Ent Ty den)(p:Option Nat)(L:Nat→Prop)(s:St Ty den):Prop:=
 ∀ e,mem e s.live=true→(∀ b,spare (g1.G e)=some b→b<Bc.w.heap.size∧¬Bc.M b)∨
  ∃ c,ent.has c=true∧L c∧g1.G e=g'.G c∧(c=0→∃ d,p=some d∧mem d s.live=true)
theorem A90(hU:E.U.Ok){Bc:Bs}{g' g1:Gh}{ent:Ent Ty den}{v0:Value}{w':World}(hp:Post E.U Bc g' ent v0 w')(hr:Rel E.U B g1 s a w')(aS:g1.wm=g'.wm)
  (hB:∀ b,Bc.w.heap.size≤b∨Bc.M b→B.w.heap.size≤b∨B.M b){p:Option Nat}{L L':Nat→Prop}(cn:W2 Bc g' g1 ent p L s)(vE:∀ c,L c→L' c)
  {nm:Nat}{t:Ty}{l:List (den t)}{c:Nat}{v:Value}(aq:LRep E.U w' g' (.sl t l (some c)) v)(hc:ent.has c=true)(pJ:L' c)(iY:∀ e,mem e s.live=true→mem nm s.live=false→∀ c',L c'→(c'=0→∃ d,p=some d∧mem d s.live=true)→c'≠c)
  (fD:c=0→p=some nm):
  ∃ g2,Rel E.U B g2 (A1d nm t l s).2 a w'∧g2.wm=g'.wm∧LRep E.U w' g2 (A1d nm t l s).1 v∧W2 Bc g' g2 ent p L' (A1d nm t l s).2∧
   (∀ e,mem e s.live=true→g2.G e=g1.G e∧g2.Gs e=g1.Gs e∧mem e (A1d nm t l s).2.live=true)∧(∀ e,(A1d nm t l s).1.has e=true→mem e (A1d nm t l s).2.live=true):=by
 unfold A1d;cases hm:mem nm s.live with
 |true=>
  simp only[cond_true];refine⟨g1,hr,aS,⟨aq.1.own none|>fun h=>by rw[aS];exact h,fun _ _ _ he=>by(simp at he),fun _ _ he=>by(cases he)⟩,fun e he=>?_,fun e he=>⟨rfl,rfl,he⟩,fun e he=>by simp[Leaf.has]at he⟩;rcases cn e he with h1|⟨c',h1,h2,h3,h4⟩
  ·exact .inl h1
  ·exact .inr ⟨c',h1,vE _ h2,h3,h4⟩
 |false=>
  simp only[cond_false];obtain⟨hv,hs,eQ⟩:=aq.2.1 t l c rfl;have az:∀ e,mem e s.live=true→e≠nm:=fun e he h=>by subst h;rw[he]at hm;cases hm
  have dA:=hp.tip c hc;have h2:=hr.fresh hU nm (g'.G c) (g'.Gs c) (by rw[aS];exact dA) (fun e b he lJ dR eI=>by
   rcases cn e he with h1|⟨c',h1,h2,h3,h4⟩
   ·obtain⟨h5,h6⟩:=h1 b eI;rcases hp.mine c b hc dR with h7|h7
    ·omega
    ·exact h6 h7
   ·rw[h3]at eI;exact hp.disj c c' b hc h1 (Bt (iY e he hm c' h2 h4)) dR eI) (fun b dR=>hB b (hp.mine c b hc dR))
  have aM:∀ e,mem e (s.fresh nm).live=true↔e=nm∨mem e s.live=true:=fun e=>by
   simp only[St.fresh];rw[mem_cons,T9];constructor
   ·rintro(rfl|⟨h3,_⟩)
    ·exact .inl rfl
    ·exact .inr h3
   ·rintro(rfl|h3)
    ·exact .inl rfl
    ·exact .inr ⟨h3,az e h3⟩
  have hG:∀ e,e≠nm→(g1.put nm (g'.G c) (g'.Gs c)).G e=g1.G e:=fun e he=>by simp[Gh.put,he]
  have dD:∀ e,e≠nm→(g1.put nm (g'.G c) (g'.Gs c)).Gs e=g1.Gs e:=fun e he=>by simp[Gh.put,he]
  refine⟨g1.put nm (g'.G c) (g'.Gs c),h2,aS,⟨?_,fun t1 l1 d1 he=>?_,fun _ _ he=>by(cases he)⟩,fun e he=>?_,fun e he=>⟨hG e (az e he),dD e (az e he),(aM e).2 (.inr he)⟩,fun e he=>?_⟩
  ·show CRep E.U w' g1.wm (.sl t l (some nm)) v;rw[aS];exact aq.1.own _
  ·simp only[Leaf.sl.injEq,Be]at he;obtain⟨rfl,_,rfl⟩:=he;exact⟨by rw[hv];simp[Gh.put],by rw[hs];simp[Gh.put],eQ⟩
  ·rcases (aM e).1 he with rfl|px
   ·exact .inr ⟨c,hc,pJ,by simp[Gh.put],fun h0=>⟨e,fD h0,he⟩⟩
   ·rcases cn e px with h1|⟨c',h1,h3,h4,h5⟩
    ·exact .inl fun b hb=>h1 b (by rw[hG e (az e px)]at hb;exact hb)
    ·refine .inr ⟨c',h1,vE _ h3,by rw[hG e (az e px)];exact h4,fun h0=>?_⟩;obtain⟨d,aO,aU⟩:=h5 h0;exact⟨d,aO,(aM d).2 (.inr aU)⟩
  ·obtain⟨_,_,dT⟩:=((Leaf.has_iff e _).1 he).resolve_right (fun⟨o,h⟩=>by cases h);simp only[Leaf.sl.injEq,Be]at dT;rw[←dT.2.2];exact(aM nm).2 (.inl rfl)
theorem B5w(hU:E.U.Ok){Bc:Bs}{g' g1:Gh}{ent:Ent Ty den}{v0:Value}{w':World}(hp:Post E.U Bc g' ent v0 w')(hr:Rel E.U B g1 s a w')(aS:g1.wm=g'.wm)
  (hB:∀ b,Bc.w.heap.size≤b∨Bc.M b→B.w.heap.size≤b∨B.M b){X:Nat→Prop}{p:Option Nat}{dst:Option Nat}{j:Nat}(hX:∀ c,X c→j+1<c)(cn:W2 Bc g' g1 ent p (fun c=>c≤j∨X c) s)
  {lf:Leaf Ty den}{v:Value}(aq:LRep E.U w' g' lf v)(hc:∀ c,lf.has c=true→ent.has c=true):
  ∃ g2,Rel E.U B g2 (Q3 dst p j s lf).2 a w'∧g2.wm=g'.wm∧LRep E.U w' g2 (Q3 dst p j s lf).1 v∧W2 Bc g' g2 ent p (fun c=>c≤j+1∨X c) (Q3 dst p j s lf).2∧
   (∀ e,mem e s.live=true→g2.G e=g1.G e∧g2.Gs e=g1.Gs e∧mem e (Q3 dst p j s lf).2.live=true)∧(∀ e,(Q3 dst p j s lf).1.has e=true→mem e (Q3 dst p j s lf).2.live=true):=by
 have keep:∀{lf':Leaf Ty den},LRep E.U w' g1 lf' v→(∀ e,lf'.has e=false)→Q3 dst p j s lf=(lf',s)→
   ∃ g2,Rel E.U B g2 (Q3 dst p j s lf).2 a w'∧g2.wm=g'.wm∧LRep E.U w' g2 (Q3 dst p j s lf).1 v∧W2 Bc g' g2 ent p (fun c=>c≤j+1∨X c) (Q3 dst p j s lf).2∧
   (∀ e,mem e s.live=true→g2.G e=g1.G e∧g2.Gs e=g1.Gs e∧mem e (Q3 dst p j s lf).2.live=true)∧(∀ e,(Q3 dst p j s lf).1.has e=true→mem e (Q3 dst p j s lf).2.live=true):=by
  intro lf' hl cP he;rw[he];refine⟨g1,hr,aS,hl,fun e he=>?_,fun e he=>⟨rfl,rfl,he⟩,fun e he=>by rw[cP e]at he;cases he⟩;rcases cn e he with h1|⟨c',h1,h2,h3,h4⟩
  ·exact .inl h1
  ·exact .inr ⟨c',h1,h2.imp Ez id,h3,h4⟩
 have closed:∀{t:Ty}{l:List (den t)}{x:Option Nat},lf=.sl t l x→LRep E.U w' g1 (.sl t l none) v:=fun he=>by
  subst he;exact⟨by rw[aS];exact aq.1.own none,fun _ _ _ he=>by(simp at he),fun _ _ he=>by(cases he)⟩
 cases lf with
 |sl t l x=>
  cases x with
  |none=>exact keep (closed rfl) (fun e=>rfl) rfl
  |some c=>
   cases c with
   |zero=>
    cases p with
    |none=>exact keep (closed rfl) (fun e=>rfl) rfl
    |some d=>
     simp only[Q3];exact A90 (c:=0) hU hp hr aS hB cn (fun c h=>h.imp Ez id) aq (hc 0 (by simp[Leaf.has])) (.inl (Bn _)) (fun e he hm c' cC h0 o5=>by
      obtain⟨d',h1,h2⟩:=h0 o5;cases h1;rw[h2]at hm;cases hm) (fun _=>rfl)
   |succ i=>
    by_cases cB:i=j
    ·subst cB;simp only[Q3,H4,cond_true];exact A90 (c:=i+1) hU hp hr aS hB cn (fun c h=>h.imp Ez id) aq (hc (i+1) (by simp[Leaf.has])) (.inl (Bh _)) (fun e he hm c' cC h0 o5=>cC.elim (fun h1=>by omega) (fun h1=>by have:=hX _ h1;omega)) (fun h=>by cases h)
    ·refine keep (closed rfl) (fun e=>rfl) ?_;simp only[Q3,L2 cB,cond_false]
 |any=>exact keep ⟨.any v,fun _ _ _ h=>by(cases h),fun _ _ h=>by(cases h)⟩ (fun e=>rfl) rfl
 |int k0 n=>exact keep ⟨by rw[aS];exact aq.1,fun _ _ _ h=>by(cases h),fun _ _ h=>by(cases h)⟩ (fun e=>rfl) rfl
 |bool b=>exact keep ⟨by rw[aS];exact aq.1,fun _ _ _ h=>by(cases h),fun _ _ h=>by(cases h)⟩ (fun e=>rfl) rfl
 |str c=>exact keep ⟨by rw[aS];exact aq.1,fun _ _ _ h=>by(cases h),fun _ _ h=>by(cases h)⟩ (fun e=>rfl) rfl
 |elem t x off=>exact keep ⟨by rw[aS];exact aq.1,fun _ _ _ h=>by(cases h),fun _ _ h=>by(cases h)⟩ (fun e=>rfl) rfl
 |agg t x=>exact keep ⟨by rw[aS];exact aq.1,fun _ _ _ h=>by(cases h),fun _ _ h=>by(cases h)⟩ (fun e=>rfl) rfl
 |ifc T t x=>exact keep ⟨by rw[aS];exact aq.1,fun _ _ _ h=>by(cases h),fun _ _ h=>by(cases h)⟩ (fun e=>rfl) rfl
 |one1 t x=>exact keep ⟨by rw[aS];exact aq.1,fun _ _ _ h=>by(cases h),fun _ _ h=>by(cases h)⟩ (fun e=>rfl) rfl
 |ptr d o=>exact keep ⟨.any v,fun _ _ _ h=>by(cases h),fun _ _ h=>by(cases h)⟩ (fun e=>rfl) rfl
 |val v1=>exact keep ⟨by rw[aS];exact aq.1,fun _ _ _ h=>by(cases h),fun _ _ h=>by(cases h)⟩ (fun e=>rfl) rfl
theorem B2y(hU:E.U.Ok){Bc:Bs}{g':Gh}{ent:Ent Ty den}{v0:Value}{w':World}(hp:Post E.U Bc g' ent v0 w')(hB:∀ b,Bc.w.heap.size≤b∨Bc.M b→B.w.heap.size≤b∨B.M b){X:Nat→Prop}{p:Option Nat}{dst:Option Nat}:
  ∀(ls:List (Leaf Ty den))(vs:List Value)(j:Nat)(s:St Ty den)(g1:Gh),Rel E.U B g1 s a w'→g1.wm=g'.wm→(∀ c,X c→j+ls.length<c)→W2 Bc g' g1 ent p (fun c=>c≤j∨X c) s→LsRep E.U w' g' ls vs→(∀ lf∈ls,∀ c,lf.has c=true→ent.has c=true)→
  ∃ g2,Rel E.U B g2 (S1 dst p j s ls).2 a w'∧g2.wm=g'.wm∧LsRep E.U w' g2 (S1 dst p j s ls).1 vs∧(∀ e,mem e s.live=true→g2.G e=g1.G e∧g2.Gs e=g1.Gs e∧mem e (S1 dst p j s ls).2.live=true)∧(∀ lf∈(S1 dst p j s ls).1,∀ e,lf.has e=true→mem e (S1 dst p j s ls).2.live=true)∧W2 Bc g' g2 ent p (fun c=>c≤j+ls.length∨X c) (S1 dst p j s ls).2
 |[],[],j,s,g1,hr,aS,hX,cn,_,_=>⟨g1,hr,aS,trivial,fun _ h=>⟨rfl,rfl,h⟩,fun lf hl=>by simp[S1]at hl,cn⟩
 |lf::ls,v::vs,j,s,g1,hr,aS,hX,cn,aq,hc=>by
  obtain⟨g2,h1,h2,h3,h4,h5,h6⟩:=B5w (dst:=dst) hU hp hr aS hB (fun c h=>by(have:=hX c h;simp only[Bw]at this;omega)) cn aq.1 (hc lf (by simp));obtain⟨g3,k1,k2,k3,k4,k5,k6⟩:=B2y hU hp hB (dst:=dst) ls vs (j+1) _ g2 h1 h2 (fun c h=>by(have:=hX c h;simp only[Bw]at this;omega)) h4 aq.2 (fun l hl=>hc l (by simp[hl]));simp only[S1];refine⟨g3,k1,k2,⟨⟨?_,fun t1 l1 d1 he=>?_,fun d1 o1 he=>?_⟩,k3⟩,fun e he=>?_,fun l0 di e he=>?_,by(rw[show j+(lf::ls).length=j+1+ls.length by(simp only[Bw];omega)];exact k6)⟩
  ·rw[k2, ←h2];exact h3.1
  ·have hl:=h6 d1 ((Leaf.has_iff d1 _).2 (.inl ⟨t1,l1,he⟩));obtain⟨e1,e2,_⟩:=k4 d1 hl;rw[e1,e2];exact h3.2.1 t1 l1 d1 he
  ·have hl:=h6 d1 ((Leaf.has_iff d1 _).2 (.inr ⟨o1,he⟩));obtain⟨e1,e2,_⟩:=k4 d1 hl;rw[e1];exact h3.2.2 d1 o1 he
  ·obtain⟨e1,e2,e3⟩:=h5 e he;obtain⟨f1,f2,f3⟩:=k4 e e3;exact⟨f1.trans e1,f2.trans e2,f3⟩
  ·simp only[Bp]at di;rcases di with rfl|di
   ·exact(k4 e (h6 e he)).2.2
   ·exact k5 l0 di e he
theorem B52(hU:E.U.Ok){Bc:Bs}{g' g1:Gh}{ent:Ent Ty den}{v:Value}{w':World}(hp:Post E.U Bc g' ent v w')(hr:Rel E.U B g1 s a w')(aS:g1.wm=g'.wm)
  (hB:∀ b,Bc.w.heap.size≤b∨Bc.M b→B.w.heap.size≤b∨B.M b){p:Option Nat}{dst:Option Nat}
  (dP:∀ e b,mem e s.live=true→spare (g1.G e)=some b→b<Bc.w.heap.size∧¬Bc.M b)
  (h:(match ent with
   | .one l=>k (.one (Q3 dst p 0 s l).1) (Q3 dst p 0 s l).2
   | .tup r=>k (.tup (S1 dst p 0 s r).1) (S1 dst p 0 s r).2
   |_=>none)=some r) (hd:∀ i,o.dst=some i→i<a.tmps.size∧B.np≤i) (hn:K0 E B o a k r next):next (a.put o.dst v) w':=by
 have cn:W2 Bc g' g1 ent p (fun c=>c≤0∨False) s:=fun e he=>.inl fun b hb=>dP e b he hb;have aq:=hp.rep;cases ent with
 |one l=>
  obtain⟨g2,h1,h2,h3,_⟩:=B5w (dst:=dst) hU hp hr aS hB (X:=fun _=>False) (fun c h=>h.elim) cn aq (fun c hc=>hc);exact hn _ _ _ _ h (REL.setO h1 (e:=.one _) h3 rfl _ hd)
 |tup ls=>
  obtain⟨vs,hv,nh⟩:=aq;obtain⟨g2,h1,h2,h3,_⟩:=B2y (dst:=dst) hU hp hB (X:=fun _=>False) ls vs 0 s g1 hr aS (fun c h=>h.elim) cn nh (fun lf hl c hc=>by
   simp only[Ent.has,Dv];exact⟨lf,hl,hc⟩)
  exact hn _ _ _ _ h (REL.setO h1 (e:=.tup _) ⟨vs,hv,h3⟩ rfl _ hd)
 |iter c pos=>cases h
 |bx d' ls=>cases h
 |st ls=>cases h
theorem C2v(hU:E.U.Ok)(hS:∀ f ls r,E.T f ls=some (true,r)→(∀ args w,(Cp f args).run P w=.ok (.enter f args) w)∧A1R P E.U (fun w1 m1=>Ext B.w B.wm w1 m1) f ls r)
  {c:Call}{f:Bm}(ak:o.op=.call c)(aG:c.callee=.value (.func f))(h:B0b E f c.argTypes.toList c.args.toList o.dst s k=some r)
  (hr:Rel E.U B g s a w)(hd:∀ i,o.dst=some i→i<a.tmps.size∧B.np≤i)(hn:K0 E B o a k r next):o.wp P a w next Q:=by
 have bm:=A5h hr c.argTypes.toList c.args.toList;have fY:∀(aK:∀ args w,(Cp f args).run P w=.ok (.enter f args) w),(Bb a.eval o).run P w=.ok (.enter f (c.args.toList.map a.eval).toArray) w:=fun aK=>by
  simp[Bb,ak,Cm,aG,Dh,Fk,Co,aK];apply Dg;simp
 have mB:∀{Rr:Ending→World→Prop},(∀ args w,(Cp f args).run P w=.ok (.enter f args) w)→Calls P f (c.args.toList.map a.eval).toArray w Rr→(∀ e w',Rr e w'→∃ v,e=.returned v∧next (a.put o.dst v) w')→o.wp P a w next Q:=fun aK hc hq=>by
  unfold Dj;rw[fY aK,Eb];refine hc.mono fun e w' eT=>?_;obtain⟨v,rfl,hv⟩:=hq e w' eT;exact hv
 have pK:∀ e b,mem e s.live=true→spare (g.G e)=some b→b<w.heap.size:=fun e b he hs=>by
  obtain⟨a0,len,cap,hv,_,cC⟩:=hr.tip e he;rw[hv]at hs;simp only[spare]at hs;split at hs
  ·rename_i a1 l1 c1 bW;cases bW;split at hs
   ·cases hs
   ·rename_i dw;rcases cC with h3|⟨b',off,c,e,fz,ha,hb,_⟩
    ·exact absurd h3 dw
    ·cases ha;simp at hs;subst hs;exact(Cf.1 hb).1
  ·cases hs
 unfold B0b at h;dsimp only at h;generalize hL:R2 E s c.argTypes.toList c.args.toList=ls at h bm;split at h
 ·
  cases iZ:E.T f (G4 ls)with
  |none=>rw[iZ]at h;cases h
  |some nA=>
   obtain⟨gd,ent⟩:=nA;rw[iZ]at h;cases gd with
   |false=>exfalso;cases ent<;>cases h
   |true=>
   obtain⟨aK,jQ⟩:=hS f _ _ iZ;have hc:=jQ w g (c.args.toList.map a.eval) hr.ext hr.zero (LsRep.close bm) (fun h1=>by rw[A54]at h1;cases h1) (fun lf hl d dY=>by
    obtain⟨l0,rfl⟩:=A6V hl;rw[A4t]at dY;cases dY)
   rw[A54]at hc;refine mB aK hc ?_;rintro e w' ⟨v,g',rfl,hp⟩;refine⟨v,rfl,?_⟩;have cJ:=hr.world hU (w':=w') (wm':=g'.wm) hp.os hp.tape hp.output hp.size hp.ext (fun _=>False) (fun b e=>e.elim) (fun _ _ _ _=>.inl fun e=>e) (fun b e=>e.elim) (fun b hb _=>hp.frame b hb (fun e=>by cases e.1)) hp.zero;refine B52 (p:=none) (dst:=o.dst) hU hp cJ rfl (fun b hb=>?_) (fun e b he hs=>⟨pK e b he hs,fun e=>by cases e.1⟩) ?_ hd hn
   ·rcases hb with hb|hb
    ·exact .inl (Cw hr.size hb)
    ·cases hb.1
   ·cases ent<;>exact h
 ·
  rename_i p zX;cases mC:ls.getD p .any with
  |sl t l x=>
   cases x with
   |none=>rw[mC]at h;cases h
   |some d=>
    rw[mC]at h;obtain⟨dm,h'⟩:=C0 h;cases iZ:E.T f ((G4 ls).set p (.sl t l (some 0)))with
    |none=>rw[iZ]at h';cases h'
    |some nA=>
     obtain⟨gd,ent⟩:=nA;rw[iZ]at h';cases gd with
     |false=>exfalso;cases ent<;>cases h'
     |true=>
     obtain⟨aK,jQ⟩:=hS f _ _ iZ;have nB:p<ls.length:=by
      rcases Ca p ls.length with h1|h1
      ·exact h1
      ·rw[Fi,Ds h1]at mC;cases mC
     have sL:ls[p]?=some (.sl t l (some d)):=by
      rw[Fi,Bj nB]at mC;simp at mC;rw[Bj nB,mC]
     obtain⟨vp,xn,mD⟩:=bm.get sL;obtain⟨nx,rO,eQ⟩:=mD.2.1 t l d rfl;have sM:Ext w g.wm w (g.put 0 (g.G d) (g.Gs d)).wm:=⟨A6H rfl,fun _ _ _=>rfl,fun _=>Bh _⟩;have sN:LsRep E.U w (g.put 0 (g.G d) (g.Gs d)) (G4 ls) (c.args.toList.map a.eval):=by
      exact LsRep.closed_any (g:=g) (g':=g.put 0 (g.G d) (g.Gs d)) rfl (LsRep.close bm)
     have hc:=jQ w (g.put 0 (g.G d) (g.Gs d)) (c.args.toList.map a.eval) hr.ext hr.zero (sN.set p (.sl t l (some 0)) (fun v hv=>by
       rw[xn]at hv;cases hv;refine⟨mD.1.own _,fun t1 l1 d1 he=>?_,fun _ _ he=>by(cases he)⟩;simp only[Leaf.sl.injEq,Be]at he;obtain⟨rfl,_,rfl⟩:=he;exact⟨by rw[nx];simp[Gh.put],by rw[rO];simp[Gh.put],eQ⟩))
      (fun _=>by simpa [Gh.put]using hr.tip d dm) (fun lf hl d' dY=>D0i hl d' dY)
     rw[B9B ls p t l nB]at hc;have xo:(g.put 0 (g.G d) (g.Gs d)).G 0=g.G d:=by simp[Gh.put]
     rw[xo]at hc;refine mB aK hc ?_;rintro e w' ⟨v,g',rfl,hp⟩;refine⟨v,rfl,?_⟩;have hk:=hr.kill hU d;have jR:∀ e b,mem e (s.kill d).live=true→spare (g.G e)=some b→spare (g.G d)≠some b:=fun e b he hs=>by
      have dT:=(T9 d e s.live).1 he;exact hr.disj e d b dT.1 dm dT.2 hs
     have cJ:=hk.world hU (w':=w') (wm':=g'.wm) hp.os hp.tape hp.output hp.size hp.ext (fun b=>spare (g.G d)=some b) (fun b hb=>by
       obtain⟨a0,len,cap,hv,_,cC⟩:=hr.tip d dm;rw[hv]at hb;simp only[spare]at hb;split at hb
       ·rename_i a1 l1 c1 bW;cases bW;split at hb
        ·cases hb
        ·rename_i dw;rcases cC with h3|⟨b',off,c,e,fz,ha,bw,_⟩
         ·exact absurd h3 dw
         ·cases ha;simp at hb;subst hb;exact⟨_,_,_,bw⟩
       ·cases hb)
      (fun e b he hs=>.inl (jR e b he hs)) (fun b hb=>hr.mine d b dm hb) (fun b hb hM=>hp.frame b hb fun h=>hM h.2) hp.zero
     refine B52 (p:=some d) (dst:=o.dst) hU hp cJ rfl (fun b hb=>?_) (fun e b he hs=>⟨pK e b ((T9 d e s.live).1 he).1 hs,fun h=>jR e b he hs h.2⟩) ?_ hd hn
     ·rcases hb with hb|hb
      ·exact .inl (Cw hr.size hb)
      ·exact hr.mine d b dm hb.2
     ·cases ent<;>exact h'
  |_=>rw[mC]at h;cases h
end
end Go.Aev
end
section
open Go.Lib
namespace Go.Aev
variable {Ty:Type}{den:Ty→Type}
section
variable {U:UO Ty den}{B:Bs}{g:Gh}{s:St Ty den}{a:Act}{w:World}
theorem Rel.setBx(h:Rel U B g s a w){d:Nat}{ls:List (Leaf Ty den)}(hb:BoxOk U w g d ls)(hl:mem d s.live=true):Rel U B g (s.set (bxi d) (.bx d ls)) a w:=by
 refine{h with ent:=fun i=>?_,iter:=fun i c pos hc=>?_,idis:=fun i j c p c' p' cB h1 h2=>?_,bxl:=fun i e bh hc=>?_}
 ·rw[K3];by_cases hi:bxi d=i
  ·rw[if_pos hi];exact hb
  ·rw[if_neg hi];exact h.ent i
 ·rw[K3]at hc;by_cases hi:bxi d=i
  ·rw[if_pos hi]at hc;cases hc
  ·rw[if_neg hi]at hc;exact h.iter i c pos hc
 ·rw[K3]at h1 h2;by_cases hi:bxi d=i
  ·rw[if_pos hi]at h1;cases h1
  ·by_cases hj:bxi d=j
   ·rw[if_pos hj]at h2;cases h2
   ·rw[if_neg hi]at h1;rw[if_neg hj]at h2;exact h.idis i j c p c' p' cB h1 h2
 ·rw[K3]at hc;by_cases hi:bxi d=i
  ·rw[if_pos hi]at hc;cases hc;exact⟨hl,hi.symm⟩
  ·rw[if_neg hi]at hc;exact h.bxl i e bh hc
theorem Rel.setSame(h:Rel U B g s a w){d:Nat}{e:Ent Ty den}(he:ERep U w g e (a.tmps.getD d undef))(hi:e.isIter=false):Rel U B g (s.set d e) a w:=by
 refine{h with ent:=fun i=>?_,iter:=fun i c pos hc=>?_,idis:=fun i j c p c' p' cB h1 h2=>?_,bxl:=fun i e2 bh hc=>?_}
 ·rw[K3];by_cases hi:d=i
  ·rw[if_pos hi];subst hi;exact he
  ·rw[if_neg hi];exact h.ent i
 ·rw[K3]at hc;by_cases cG:d=i
  ·rw[if_pos cG]at hc;subst hc;cases hi
  ·rw[if_neg cG]at hc;exact h.iter i c pos hc
 ·rw[K3]at h1 h2;by_cases cG:d=i
  ·rw[if_pos cG]at h1;subst h1;cases hi
  ·by_cases ju:d=j
   ·rw[if_pos ju]at h2;subst h2;cases hi
   ·rw[if_neg cG]at h1;rw[if_neg ju]at h2;exact h.idis i j c p c' p' cB h1 h2
 ·rw[K3]at hc;by_cases cG:d=i
  ·rw[if_pos cG]at hc;subst hc;cases hi
  ·rw[if_neg cG]at hc;exact h.bxl i e2 bh hc
theorem Rel.noBx(h:Rel U B g s a w)(d:Nat):Rel U B g (s.set (bxi d) (.one .any)) a w:=by
 refine h.weaken (fun i=>?_) (fun _ hd=>hd) (fun i e ls _ hd=>hd);rw[K3];by_cases hi:bxi d=i
 ·rw[if_pos hi];exact .inl rfl
 ·rw[if_neg hi];exact .inr rfl
theorem Rel.poke(hU:U.Ok)(h:Rel U B g s a w){d b:Nat}(hl:mem d s.live=true)(hG:spare (g.G d)=some b)(cP:∀ i ls,s.get i≠ .bx d ls)(aS:g.wm b=0){w':World}{c c':Array Value}{e:Ba}{fz:Nat×Nat}
  (hb:w.heap[b]?=some (.cells c e fz))(bw:w'.heap[b]?=some (.cells c' e fz))(cH:c'.size=c.size)(lD:w'.os=w.os)(dO:w'.tape=w.tape)(eP:w'.output=w.output)(aC:w'.heap.size=w.heap.size)(da:∀ k,k≠b→w'.heap[k]?=w.heap[k]?):
  Rel U B g s a w'∧Ext w g.wm w' g.wm:=by
 have hx:Ext w g.wm w' g.wm:=⟨A5X hb bw da,fun k off ho=>by
  by_cases hk:k=b
  ·subst hk;omega
  ·exact Bx (a:=⟨k,off,none⟩) (da k hk),fun _=>Bh _⟩
 refine⟨{os:=lD.trans h.os,tape:=dO.trans h.tape,output:=eP.trans h.output,size:=by rw[aC];exact h.size,frame:=fun k hk hM=>?_,ext:=h.ext.trans hx,zero:=fun k hk=>h.zero k (by rw[←aC];exact hk),ent:=fun i=>ERep.same (g':=g) hU hx rfl rfl (h.ent i) (fun c1 pos hc k hv=>da k ?_) (fun d' ls hc k hs=>da k ?_),tip:=fun f hf=>?_,disj:=h.disj,mine:=h.mine,iter:=h.iter,idis:=h.idis,defers:=h.defers,bxl:=h.bxl,pin:=h.pin},hx⟩
 ·have:k≠b:=fun e1=>by
   subst e1;rcases h.mine d k hl hG with h1|h1
   ·omega
   ·exact hM h1
  rw[da k this];exact h.frame k hk hM
 ·intro e1;subst e1;have he:=h.ent i;rw[hc]at he;obtain⟨b',dj,cj⟩:=he;rw[hv]at dj;cases dj;rw[hb]at cj;cases cj
 ·intro e1;subst e1;have az:d'≠d:=fun e2=>by subst e2;exact cP i ls hc
  exact h.disj d' d k (h.bxl i d' ls hc).1 hl az hs hG
 ·obtain⟨a0,len,cap,hv,aQ,gk⟩:=h.tip f hf;refine⟨a0,len,cap,hv,aQ,?_⟩;by_cases dw:cap=0
  ·exact .inl dw
  obtain⟨b',off,c1,e1,fZ,ha,lK,r1,r2,r3⟩:=gk.resolve_left dw;by_cases gj:b'=b
  ·subst gj;rw[hb]at lK;cases lK;exact .inr ⟨b',off,c',e,fz,ha,bw,by rw[cH];exact r1,r2,r3⟩
  ·exact .inr ⟨b',off,c1,e1,fZ,ha,by rw[da b' gj];exact lK,r1,r2,r3⟩
end
section
variable {E:Env Ty den}{B:Bs}{g:Gh}{s:St Ty den}{a:Act}{w:World}
variable {P:Bi}{R:Type}{o:Oper}{k:Ent Ty den→St Ty den→Option R}{r:R}{next:Act→World→Prop}{Q:Exit→Act→World→Prop}
variable (hT:∀ t,S3 P E.U t (E.tb t))(hU:E.U.Ok)(hZ:∀ t zs,E.zr t=some zs→A48 P E.U t zs)
theorem B9j{e:Nat}(nm:Nat):∀(zs:List (Leaf Ty den))(j:Nat)(s:St Ty den),mem e s.live=true→mem e (A35 nm j s zs).live=true
 |[],j,s,h=>h
 |l::zs,j,s,h=>by
  simp only[A35];refine B9j nm zs (j+1) _ ?_;rcases A7z l with⟨t,rfl⟩|⟨_,h2,_⟩
  ·simp only[nlS,St.fresh];rw[mem_cons,T9];by_cases he:bo nm j=e
   ·exact .inl he
   ·exact .inr ⟨h,fun h=>he h.symm⟩
  ·rw[h2];exact h
theorem C5l{U:UO Ty den}{g:Gh}{w:World}{nm b n:Nat}{l l':Leaf Ty den}{u:Value}(he:A5f nm l=l')(h:LRep U w g l u)(hG:g.G nm=.slice (some ⟨b,0,none⟩) 0 n)(fE:A9Y U w b):LRep U w g l' u:=by
 subst he;unfold A5f;split
 ·have hc:=h.1;cases hc with
  |val v=>exact⟨.ptr _ _ _,fun _ _ _ he=>by(cases he),fun d o he=>by(cases he;exact⟨b,n,hG,.inr ⟨rfl,fE,.inl rfl⟩⟩)⟩
 ·exact h
theorem A8H(q:Bool)(nm:Nat)(ls:List (Leaf Ty den)):(A3w q nm ls).length=ls.length:=by cases q<;>simp[A3w]
theorem B4P{q:Bool}{nm j:Nat}{ls:List (Leaf Ty den)}{lf:Leaf Ty den}(h:(A3w q nm ls)[j]?=some lf):∃ l0,ls[j]?=some l0∧((q=true∧A5f nm l0=lf)∨l0=lf):=by
 cases q with
 |false=>exact⟨lf,h,.inr rfl⟩
 |true=>
  have h':(ls.map (A5f nm))[j]?=some lf:=h;rw[Bo]at h';obtain⟨l0,h1,h2⟩:=Di.1 h';exact⟨l0,h1,.inl ⟨rfl,h2⟩⟩
theorem B6v{U:UO Ty den}{g:Gh}{w:World}{t nm b n:Nat}{c:Array Value}{fz:Nat×Nat}{l l':Leaf Ty den}{u:Value}(he:(Ai t U.bty=true∧A5f nm l=l')∨l=l')(h:LRep U w g l u)(hG:g.G nm=.slice (some ⟨b,0,none⟩) 0 n)(fE:w.heap[b]?=some (.cells c t fz)):LRep U w g l' u:=by
 rcases he with⟨h1,h2⟩|rfl
 ·have:=(F6 _ _).1 h1;subst this;exact C5l h2 h hG ⟨c,fz,fE⟩
 ·exact h
include hU hZ in
theorem C8h{t:Ba}(ak:o.op=.alloc t)(h:A9 E o s k=some r)(hr:Rel E.U B g s a w)(hd:∀ i,o.dst=some i→i<a.tmps.size∧B.np≤i)(hn:K0 E B o a k r next):o.wp P a w next Q:=by
 simp only[A9,ak]at h;split at h
 ·rename_i i zs aJ et;have ck:0<zs.length:=by
   cases pL:E.oz i with
   |true=>rw[pL]at h;simpa [Bu]using (C0 h).1
   |false=>rw[pL]at h;simpa [Bu]using (C0 h).1
  obtain⟨ie,z,e1,e2,e3,e4,e5⟩:=hZ t zs et;have ag:(Bb a.eval o).run P w=.ok (.value (.pointer (some ⟨w.heap.size,0,none⟩))) (w.alloc (.cells z.cells t)):=by
   simp[Bb,ak,Instr.alloc,zeroValue,Bq,e1,e3,newVar,Ct]
  have h1:=hr.alloc hU (.cells z.cells t) 0 (w.alloc (.cells z.cells t)) rfl rfl rfl rfl;have a8:(w.alloc (.cells z.cells t)).heap[w.heap.size]?=some (.cells z.cells t):=by
   have hp:(w.alloc (.cells z.cells t)).heap=w.heap.push (.cells z.cells t):=rfl;rw[hp];simp
  have aS:D1 g.wm w.heap.size 0 w.heap.size=0:=by simp[D1]
  generalize db:C7 (some i)=nm at*;have h2:=h1.fresh hU nm (.slice (some ⟨w.heap.size,0,none⟩) 0 zs.length) 1
   ⟨_,0,zs.length,rfl,Bn _,.inr ⟨w.heap.size,0,z.cells,t,(0,0),rfl,a8,by omega,by(show D1 g.wm w.heap.size 0 w.heap.size=_;rw[aS]),Bn _⟩⟩
   (fun e b he az hs eI=>by
    simp only[spare]at hs;rw[if_neg (by omega)]at hs;cases hs;have:=hr.tip e he;obtain⟨c,e',fz,hc⟩:=A2U this eI;have:=(Cf.1 hc).1;omega) (fun b hs=>by
    simp only[spare]at hs;rw[if_neg (by omega)]at hs;cases hs;exact .inl hr.size)
  have aM:mem nm (s.fresh nm).live=true:=by simp only[St.fresh];rw[mem_cons];exact .inl rfl
  have cM:BoxOk E.U (w.alloc (.cells z.cells t)) (({g with wm:=D1 g.wm w.heap.size 0}:Gh).put nm (.slice (some ⟨w.heap.size,0,none⟩) 0 zs.length) 1) nm zs:=by
   refine⟨w.heap.size,by simp[Gh.put],ck,by simp[Gh.put],fun j lf hj=>?_⟩;obtain⟨u,u1,u2,u3,u4,_⟩:=e5 j lf hj;refine⟨u,?_,u2,u3,u4 _ _⟩;unfold By;dsimp only;rw[a8];simpa using u1
  cases pL:E.oz i with
  |true=>
   rw[pL]at h;obtain⟨_,h⟩:=C0 (show(bif _ then _ else none)=some r from h);obtain⟨q1,q2⟩:=B2x E.U (w.alloc (.cells z.cells t)) nm zs z.cells.toList 0 (({g with wm:=D1 g.wm w.heap.size 0}:Gh).put nm (.slice (some ⟨w.heap.size,0,none⟩) 0 zs.length) 1) (by simp[e4]) (fun i lf u hi hu=>by
    obtain⟨uu,u1,u2,u3,u4,u5⟩:=e5 i lf hi;rw[Cy,u1]at hu;cases hu;exact⟨u4 _,u5⟩)
   obtain⟨p1,p2⟩:=A8y E.U nm zs 0 (({g with wm:=D1 g.wm w.heap.size 0}:Gh).put nm (.slice (some ⟨w.heap.size,0,none⟩) 0 zs.length) 1);obtain⟨p3,p4⟩:=p2 nm (fun j _=>by unfold bo;omega);have h4:=B2B hU nm zs 0 _ _ h2;have pM:BoxOk E.U (w.alloc (.cells z.cells t)) (A0L E.U nm 0 (({g with wm:=D1 g.wm w.heap.size 0}:Gh).put nm (.slice (some ⟨w.heap.size,0,none⟩) 0 zs.length) 1) zs) nm (A3w (Ai t E.U.bty) nm (A03 nm 0 zs)):=by
    refine⟨w.heap.size,by rw[A8H,q1,p3];simp[Gh.put],by rw[A8H,q1];exact ck,by rw[p4];simp[Gh.put],fun j lf hj=>?_⟩;obtain⟨xp,hj,sO⟩:=B4P hj;have bQ:j<zs.length:=by rw[←q1];exact J7 hj
    obtain⟨u,u1,u2,u3,u4,_⟩:=e5 j _ (Bj bQ);have hq:=q2 j xp u hj (by rw[Cy];exact u1);refine⟨u,?_,u2,u3,B6v (b:=w.heap.size) (n:=zs.length) sO hq (by rw[p3];simp[Gh.put]) a8⟩;unfold By;dsimp only;rw[a8];simpa using u1
   have h5:=h4.setBx pM (B9j _ _ _ _ aM);refine R7 ag (hn _ _ _ _ h ?_);rw[aJ]at hd ⊢;exact REL.setO h5 (e:=.one (.ptr nm 0)) ⟨.ptr _ _ _,fun _ _ _ he=>by(cases he),fun d' o2 he=>by(cases he;exact⟨w.heap.size,zs.length,by rw[p3];simp[Gh.put],.inl ⟨rfl,by decide⟩⟩)⟩ rfl (some i) hd
  |false=>
  rw[pL]at h;obtain⟨_,h⟩:=C0 (show(bif _ then _ else none)=some r from h);have h3:=h2.setBx cM aM;refine R7 ag (hn _ _ _ _ h ?_);rw[aJ]at hd ⊢;exact REL.setO h3 (e:=.one (.ptr nm 0)) ⟨.ptr _ _ _,fun _ _ _ he=>by(cases he),fun d' o2 he=>by(cases he;exact⟨w.heap.size,zs.length,by simp[Gh.put],.inl ⟨rfl,by decide⟩⟩)⟩ rfl (some i) hd
 ·cases h
include hU hZ in
theorem C5X{t:Ba}{x:Bd}(ak:o.op=.box t x)(h:A9 E o s k=some r)(hr:Rel E.U B g s a w)(hd:∀ i,o.dst=some i→i<a.tmps.size∧B.np≤i)(hn:K0 E B o a k r next):o.wp P a w next Q:=by
 simp only[A9,ak]at h;split at h
 ·rename_i i zs aJ et;obtain⟨ie,z,e1,e2,e3,e4,e5⟩:=hZ t zs et;split at h
  ·rename_i ys nC;obtain⟨hc,h⟩:=C0 h;simp only[Bl,Bu]at hc;obtain⟨_,gR,ck⟩:=hc;have gR:=(F6 _ _).1 gR;have aK:=A2M hr t x;rw[nC]at aK;obtain⟨vs,hv,co,aF⟩:=aK;have cu:=co.length;have ag:(Bb a.eval o).run P w=.ok (.value (.pointer (some ⟨w.heap.size,0,none⟩))) (w.alloc (.cells vs.toArray t)):=by
    simp[Bb,ak,Hd,newVar,Ct,hv,Dq]
   have a8:(w.alloc (.cells vs.toArray t)).heap[w.heap.size]?=some (.cells vs.toArray t):=by
    have hp:(w.alloc (.cells vs.toArray t)).heap=w.heap.push (.cells vs.toArray t):=rfl;rw[hp];simp
   have h1:=hr.alloc hU (.cells vs.toArray t) 0 (w.alloc (.cells vs.toArray t)) rfl rfl rfl rfl;have aS:D1 g.wm w.heap.size 0 w.heap.size=0:=by simp[D1]
   have hx:Ext w g.wm (w.alloc (.cells vs.toArray t)) (D1 g.wm w.heap.size 0):=by
    refine⟨A0X rfl,fun b off ho=>?_,fun b=>?_⟩
    ·rcases Ca b w.heap.size with h2|h2
     ·refine Bx (a:=⟨b,off,none⟩) ?_;have hp:(w.alloc (.cells vs.toArray t)).heap=w.heap.push (.cells vs.toArray t):=rfl;rw[hp,Cs,if_neg (by show¬b=w.heap.size;omega)]
     ·rw[hr.zero b h2]at ho;omega
    ·unfold D1;by_cases hb:b=w.heap.size
     ·subst hb;rw[if_pos rfl,hr.zero _ (Bh _)];exact Bn _
     ·rw[if_neg hb];exact Bh _
   generalize db:C7 (some i)=nm at*;have h2:=h1.fresh hU nm (.slice (some ⟨w.heap.size,0,none⟩) 0 zs.length) 1
    ⟨_,0,zs.length,rfl,Bn _,.inr ⟨w.heap.size,0,vs.toArray,t,(0,0),rfl,a8,by simp;omega,by(show D1 g.wm w.heap.size 0 w.heap.size=_;rw[aS]),Bn _⟩⟩
    (fun e b he az hs eI=>by
     simp only[spare]at hs;rw[if_neg (by omega)]at hs;cases hs;have:=hr.tip e he;obtain⟨c,e',fz,hc⟩:=A2U this eI;have:=(Cf.1 hc).1;omega) (fun b hs=>by
     simp only[spare]at hs;rw[if_neg (by omega)]at hs;cases hs;exact .inl hr.size)
   have aM:mem nm (s.fresh nm).live=true:=by simp only[St.fresh];rw[mem_cons];exact .inl rfl
   have cM:BoxOk E.U (w.alloc (.cells vs.toArray t)) (({g with wm:=D1 g.wm w.heap.size 0}:Gh).put nm (.slice (some ⟨w.heap.size,0,none⟩) 0 zs.length) 1) nm (A3w (Ai t E.U.bty) nm (ys.map (·.strip nm))):=by
    refine⟨w.heap.size,by rw[A8H];simp[Gh.put,gR],by rw[A8H];simp;omega,by simp[Gh.put],fun j lf hj=>?_⟩;obtain⟨l1,gm,sP⟩:=B4P hj;rw[Bo]at gm;obtain⟨l0,di,rfl⟩:=Di.1 gm;obtain⟨u,u1,u2⟩:=co.get di;obtain⟨k1,k2⟩:=aF u (Db u1);refine⟨u,?_,k1,k2,B6v (b:=w.heap.size) (n:=zs.length) sP (LRep.step (g:=g) hU (d:=nm) hx (by
     constructor
     ·intro e he;simp[Gh.put,he]
     ·intro e he;simp[Gh.put,he]) u2) (by simp[Gh.put]) a8⟩
    unfold By;dsimp only;rw[a8];simpa using u1
   have h3:=h2.setBx cM aM;refine R7 ag (hn _ _ _ _ h ?_);rw[aJ]at hd ⊢;exact REL.setO h3 (e:=.one (.ptr nm 0)) ⟨.ptr _ _ _,fun _ _ _ he=>by(cases he),fun d' o2 he=>by(cases he;exact⟨w.heap.size,zs.length,by simp[Gh.put],.inl ⟨rfl,by decide⟩⟩)⟩ rfl (some i) hd
  split at h
  ·rename_i ys dS;have ce:LRep E.U w g (opl E s t x).close (a.eval x):=LRep.closed (J1 hr t x).1;obtain⟨c1,c2,c3⟩:=B38 hU dS ce;have ag:(Bb a.eval o).run P w=.ok (.value (.pointer (some ⟨w.heap.size,0,none⟩))) (w.alloc (.cells (a.eval x).cells t)):=by
    simp[Bb,ak,Hd,newVar,Ct]
   have a8:(w.alloc (.cells (a.eval x).cells t)).heap[w.heap.size]?=some (.cells (a.eval x).cells t):=by
    have hp:(w.alloc (.cells (a.eval x).cells t)).heap=w.heap.push (.cells (a.eval x).cells t):=rfl;rw[hp];simp
   have aw:∀(j:Nat) u,(a.eval x).cells[j]?=some u→(w.alloc (.cells (a.eval x).cells t)).cell? ⟨w.heap.size,j,none⟩=some u:=fun j u hj=>by
    unfold By;dsimp only;rw[a8];simpa using hj
   cases jv:E.mb i with
   |true=>
    rw[jv]at h;simp only[cond_true]at h;obtain⟨ck,h⟩:=C0 h;have ck:0<zs.length:=by simpa [Bu]using ck
    have h1:=hr.alloc hU (.cells (a.eval x).cells t) 0 (w.alloc (.cells (a.eval x).cells t)) rfl rfl rfl rfl;have aS:D1 g.wm w.heap.size 0 w.heap.size=0:=by simp[D1]
    have hx:Ext w g.wm (w.alloc (.cells (a.eval x).cells t)) (D1 g.wm w.heap.size 0):=by
     refine⟨A0X rfl,fun b off ho=>?_,fun b=>?_⟩
     ·rcases Ca b w.heap.size with h2|h2
      ·refine Bx (a:=⟨b,off,none⟩) ?_;have hp:(w.alloc (.cells (a.eval x).cells t)).heap=w.heap.push (.cells (a.eval x).cells t):=rfl;rw[hp,Cs,if_neg (by show¬b=w.heap.size;omega)]
      ·rw[hr.zero b h2]at ho;omega
     ·unfold D1;by_cases hb:b=w.heap.size
      ·subst hb;rw[if_pos rfl,hr.zero _ (Bh _)];exact Bn _
      ·rw[if_neg hb];exact Bh _
    generalize db:C7 (some i)=nm at*;have h2:=h1.fresh hU nm (.slice (some ⟨w.heap.size,0,none⟩) 0 zs.length) 1
     ⟨_,0,zs.length,rfl,Bn _,.inr ⟨w.heap.size,0,(a.eval x).cells,t,(0,0),rfl,a8,by omega,by(show D1 g.wm w.heap.size 0 w.heap.size=_;rw[aS]),Bn _⟩⟩
     (fun e b he az hs eI=>by
      simp only[spare]at hs;rw[if_neg (by omega)]at hs;cases hs;have:=hr.tip e he;obtain⟨c,e',fz,hc⟩:=A2U this eI;have:=(Cf.1 hc).1;omega) (fun b hs=>by
      simp only[spare]at hs;rw[if_neg (by omega)]at hs;cases hs;exact .inl hr.size)
    have aM:mem nm (s.fresh nm).live=true:=by simp only[St.fresh];rw[mem_cons];exact .inl rfl
    have cM:BoxOk E.U (w.alloc (.cells (a.eval x).cells t)) (({g with wm:=D1 g.wm w.heap.size 0}:Gh).put nm (.slice (some ⟨w.heap.size,0,none⟩) 0 zs.length) 1) nm ys:=by
     refine⟨w.heap.size,by simp[Gh.put,c2],by omega,by simp[Gh.put],fun j lf hj=>?_⟩;obtain⟨u,u1,u2,u3,u4⟩:=c3 j lf hj;have eK:lf.close=lf:=by
      cases ja:opl E s t x with
      |agg u0 y0=>
       rw[ja]at dS;obtain⟨_,h9⟩:=C0 (show(bif Ai (E.U.size u0) zs.length then some (E.U.cells u0 y0)else none)=some ys from dS);cases h9;exact hU.closed u0 y0 lf (Db hj)
      |any=>rw[ja]at dS;exact absurd (C0 (show(bif U1 (Leaf.any:Leaf Ty den)&&Ai zs.length 1 then some [Leaf.any]else none)=some ys from dS)).1 (by simp[U1])
      |val v=>rw[ja]at dS;exact absurd (C0 (show(bif U1 (Leaf.val v:Leaf Ty den)&&Ai zs.length 1 then some [Leaf.val v]else none)=some ys from dS)).1 (by simp[U1])
      |ptr d0 o0=>rw[ja]at dS;exact absurd (C0 (show(bif U1 (Leaf.any:Leaf Ty den)&&Ai zs.length 1 then some [Leaf.any]else none)=some ys from dS)).1 (by simp[U1])
      |int k n=>
       rw[ja]at dS;obtain⟨_,h9⟩:=C0 (show(bif U1 (Leaf.int k n:Leaf Ty den)&&Ai zs.length 1 then some [Leaf.int k n]else none)=some ys from dS);cases h9;cases j with
       |zero=>simp at hj;subst hj;rfl
       |succ j=>simp at hj
      |bool b=>
       rw[ja]at dS;obtain⟨_,h9⟩:=C0 (show(bif U1 (Leaf.bool b:Leaf Ty den)&&Ai zs.length 1 then some [Leaf.bool b]else none)=some ys from dS);cases h9;cases j with
       |zero=>simp at hj;subst hj;rfl
       |succ j=>simp at hj
      |str b=>
       rw[ja]at dS;obtain⟨_,h9⟩:=C0 (show(bif U1 (Leaf.str b:Leaf Ty den)&&Ai zs.length 1 then some [Leaf.str b]else none)=some ys from dS);cases h9;cases j with
       |zero=>simp at hj;subst hj;rfl
       |succ j=>simp at hj
      |elem u0 y0 o0=>
       rw[ja]at dS;obtain⟨_,h9⟩:=C0 (show(bif U1 (Leaf.elem u0 y0 o0:Leaf Ty den)&&Ai zs.length 1 then some [Leaf.elem u0 y0 o0]else none)=some ys from dS);cases h9;cases j with
       |zero=>simp at hj;subst hj;rfl
       |succ j=>simp at hj
      |ifc T0 u0 y0=>
       rw[ja]at dS;obtain⟨_,h9⟩:=C0 (show(bif U1 (Leaf.ifc T0 u0 y0:Leaf Ty den)&&Ai zs.length 1 then some [Leaf.ifc T0 u0 y0]else none)=some ys from dS);cases h9;cases j with
       |zero=>simp at hj;subst hj;rfl
       |succ j=>simp at hj
      |one1 u0 y0=>
       rw[ja]at dS;obtain⟨_,h9⟩:=C0 (show(bif U1 (Leaf.one1 u0 y0:Leaf Ty den)&&Ai zs.length 1 then some [Leaf.one1 u0 y0]else none)=some ys from dS);cases h9;cases j with
       |zero=>simp at hj;subst hj;rfl
       |succ j=>simp at hj
      |sl u0 l0 o0=>
       rw[ja]at dS;obtain⟨_,h9⟩:=C0 (show(bif U1 (Leaf.sl u0 l0 none:Leaf Ty den)&&Ai zs.length 1 then some [Leaf.sl u0 l0 none]else none)=some ys from dS);cases h9;cases j with
       |zero=>simp at hj;subst hj;rfl
       |succ j=>simp at hj
     refine⟨u,aw j u u1,u2,u3,?_⟩;have:=LRep.closed (U:=E.U) (w:=w.alloc (.cells (a.eval x).cells t)) (g:=(({g with wm:=D1 g.wm w.heap.size 0}:Gh).put nm (.slice (some ⟨w.heap.size,0,none⟩) 0 zs.length) 1)) (lf:=lf) (v:=u) (u4.1.mono hU hx);rw[eK]at this;exact this
    have h3:=h2.setBx cM aM;refine R7 ag (hn _ _ _ _ h ?_);rw[aJ]at hd ⊢;exact REL.setO h3 (e:=.one (.ptr nm 0)) ⟨.ptr _ _ _,fun _ _ _ he=>by(cases he),fun d' o2 he=>by(cases he;exact⟨w.heap.size,zs.length,by simp[Gh.put],.inl ⟨rfl,by decide⟩⟩)⟩ rfl (some i) hd
   |false=>
    rw[jv]at h;simp only[cond_false]at h;split at h
    ·rename_i u y ja;obtain⟨aC,h⟩:=C0 h;have aC:=(F6 _ _).1 aC;rw[ja]at dS;obtain⟨_,h9⟩:=C0 (show(bif Ai (E.U.size u) zs.length then some (E.U.cells u y)else none)=some ys from dS);cases h9;have h1:=hr.alloc hU (.cells (a.eval x).cells t) (E.U.size u) (w.alloc (.cells (a.eval x).cells t)) rfl rfl rfl rfl;have hx:Ext w g.wm (w.alloc (.cells (a.eval x).cells t)) (D1 g.wm w.heap.size (E.U.size u)):=by
      refine⟨A0X rfl,fun b off ho=>?_,fun b=>?_⟩
      ·rcases Ca b w.heap.size with h2|h2
       ·refine Bx (a:=⟨b,off,none⟩) ?_;have hp:(w.alloc (.cells (a.eval x).cells t)).heap=w.heap.push (.cells (a.eval x).cells t):=rfl;rw[hp,Cs,if_neg (by show¬b=w.heap.size;omega)]
       ·rw[hr.zero b h2]at ho;omega
      ·unfold D1;by_cases hb:b=w.heap.size
       ·subst hb;rw[if_pos rfl,hr.zero _ (Bh _)];exact Bn _
       ·rw[if_neg hb];exact Bh _
     refine R7 ag (hn _ _ _ _ h ?_);refine REL.setO h1 (e:=.one (.elem u y 0)) ⟨?_,fun _ _ _ he=>by(cases he),fun _ _ he=>by(cases he)⟩ rfl _ hd;refine CRep.elem (U:=E.U) u y 0 w.heap.size 0 (fun j=>((a.eval x).cells[j]?).getD undef) (by simp[D1]) (fun j lf hj=>?_) (fun j lf hj=>?_)
     ·obtain⟨uu,u1,_,_,u4⟩:=c3 j lf hj;rw[Bz];show _=some (((a.eval x).cells[j]?).getD undef);rw[u1];exact aw j uu u1
     ·obtain⟨uu,u1,_,_,u4⟩:=c3 j lf hj;show CRep _ _ _ lf (((a.eval x).cells[j]?).getD undef);rw[u1];exact u4.1.mono hU hx
    ·cases h
  ·cases h
 ·cases h
theorem D0b{x:Bd}(ak:o.op=.nilCheck x)(h:A9 E o s k=some r)(hr:Rel E.U B g s a w)(hd:∀ i,o.dst=some i→i<a.tmps.size∧B.np≤i)(hn:K0 E B o a k r next):o.wp P a w next Q:=by
 simp only[A9,ak]at h;have ce:=J1 hr 0 x;split at h
 ·rename_i u y off hx;rw[hx]at ce;generalize hv:a.eval x=v at ce;have hc:=ce.1;cases hc with
  |elem _ _ _ b o' cs aS aw aq=>
   exact H8 (e:=.one (.elem u y off)) (v:=.pointer (some ⟨b,o'+off,none⟩)) hr hd hn h ce rfl (by simp[Bb,ak,hv])
 ·rename_i d off hx;rw[hx]at ce;obtain⟨b,m,hG,hv⟩:=ce.2.2 d off rfl;obtain⟨bN,h⟩:=C0 h;have hv:=hv.at (A9j bN);exact H8 (e:=.one (.ptr d off)) hr hd hn h ce rfl (by simp[Bb,ak,hv])
 ·cases h
include hU hZ in
theorem C6K{t:Ba}{x y:Bd}(ak:o.op=.store t x y)(h:A9 E o s k=some r)(hr:Rel E.U B g s a w)(hd:∀ i,o.dst=some i→i<a.tmps.size∧B.np≤i)(hn:K0 E B o a k r next):o.wp P a w next Q:=by
 simp only[A9,ak]at h;split at h
 ·rename_i d off n nD hx fE;have eS:∀(ls ys:List (Leaf Ty den)),U7 s d=some ls→((a.eval y).cells.size=n∧ys.length=n∧∀(j:Nat) y0,ys[j]?=some y0→∃ u,(a.eval y).cells[j]?=some u∧u.oneCell'=true∧u.cells= #[u]∧LRep E.U w g y0 u)→off+n≤ls.length→Bf off 1000000=true→k (.one .any) (s.set (bxi d) (.bx d (L0 ls off ys)))=some r→o.wp P a w next Q:=by
   intro ls ys bm xq aQ bN h;obtain⟨zs,et,xr⟩:∃ zs,E.zr t=some zs∧zs.length=n:=by
    unfold tyN at fE;split at fE
    ·rename_i zs et;exact⟨zs,et,Br fE⟩
    ·cases fE
   obtain⟨ie,z,e1,e2,e3,e4,e5⟩:=hZ t zs et;have ce:=J1 hr 0 x;rw[hx]at ce;obtain⟨cM,aM,zY⟩:=A5S hr bm;obtain⟨b,hG,hv,ck,dD,bY⟩:=A76 bN ce cM;obtain⟨c1,c2,c3⟩:=xq;have dn:spare (g.G d)=some b:=by rw[hG];simp only[spare];rw[if_neg (by omega)]
   obtain⟨a0,len,cap,hJ,_,gk⟩:=hr.tip d aM;rw[hG]at hJ;cases hJ;obtain⟨b',sQ,c,e,fz,ha,hb,r1,r2,r3⟩:=gk.resolve_left (by omega);cases ha;rw[dD]at r1 r2;have aS:g.wm b=0:=by rw[r2]
   obtain⟨s1,⟨c',s2,s3,s4,s5⟩,s6,s7,s8,s9,ld⟩:=A4J P b e fz (a.eval y).cells.toList off w c hb (by simp[c1];omega) (fun j _ h2=>by omega) (fun v dj=>by
    obtain⟨j,hj,rfl⟩:=Eg dj;have oW:j<ys.length:=by simp at hj;omega
    obtain⟨u,u1,u2,_⟩:=c3 j _ (Bj oW);have:(a.eval y).cells.toList[j]=u:=by
     have h5:(a.eval y).cells.toList[j]?=some u:=by simpa using u1
     rw[Bj hj]at h5;exact Br h5
    rw[this];exact u2)
   have bL:=s1 ⟨b,off,none⟩ 0 rfl (Bn _);obtain⟨bH,vF⟩:=(hr.noBx d).poke hU (d:=d) (b:=b) aM dn (fun i l hc=>by
    rw[K3]at hc;by_cases hi:bxi d=i
    ·rw[if_pos hi]at hc;cases hc
    ·rw[if_neg hi]at hc;exact hi (hr.bxl i d l hc).2.symm) aS (w':=C3 w b off (a.eval y).cells.toList) hb s2 s3 s8 s9 ld s6 s7
   obtain⟨m1,m2⟩:=A6B ls off ys (by omega);have a8:BoxOk E.U (C3 w b off (a.eval y).cells.toList) g d (L0 ls off ys):=by
    refine⟨b,by rw[m1];exact hG,by rw[m1];exact ck,dD,fun j lf hj=>?_⟩;rw[m2,c2]at hj;by_cases cL:off≤j∧j<off+n
    ·rw[if_pos cL]at hj;obtain⟨u,u1,u2,u3,u4⟩:=c3 _ _ hj;refine⟨u,?_,u2,u3,u4.same hU vF rfl rfl⟩;have:=s5 (j - off) u (by simpa using u1);rw[show off+(j - off)=j by omega]at this;simp[By,s2,this]
    ·rw[if_neg cL]at hj;obtain⟨u,u1,u2,u3,u4⟩:=bY j lf hj;refine⟨u,?_,u2,u3,u4.same hU vF rfl rfl⟩;have h6:=s4 j (by simp[c1];omega);simp only[By,hb]at u1;simp only[By,s2,h6];exact u1
   have h3:=bH.setBx a8 aM;have bW:∀ i,((s.set (bxi d) (.one .any)).set (bxi d) (.bx d (L0 ls off ys))).get i=(s.set (bxi d) (.bx d (L0 ls off ys))).get i:=fun i=>by
    rw[K3,K3,K3];by_cases hi:bxi d=i
    ·rw[if_pos hi,if_pos hi]
    ·rw[if_neg hi,if_neg hi,if_neg hi]
   have h4:Rel E.U B g (s.set (bxi d) (.bx d (L0 ls off ys))) a (C3 w b off (a.eval y).cells.toList):=h3.weaken (fun i=>.inr (bW i).symm) (fun _ hd=>hd) (fun _ _ _ _ hd=>hd);have aC:(Ce t).run P w=.ok n w:=by simp[Ce,Bq,e1,e2,xr]
   have ag:(Bb a.eval o).run P w=.ok .skip (C3 w b off (a.eval y).cells.toList):=by
    simp[Bb,ak,hv,Instr.storeAt,Dd,storeVar,aC,c1,bL]
   unfold Dj;rw[ag,Oper.upon_skip];have:=hn (.one .any) _ undef _ h (by rw[nD];exact⟨g,h4⟩);rw[nD]at this ⊢;exact this
  split at h
  ·rename_i ys nC;have aK:=A2M hr t y;rw[nC]at aK;obtain⟨vs,hv,co,aF⟩:=aK;have cu:=co.length;split at h
   ·rename_i ls bm;obtain⟨hc,h⟩:=C0 h;simp only[Bl]at hc;have xt:=(F6 _ _).1 hc.1;refine eS ls ys bm ⟨by rw[hv];simp[Dq];omega,xt,fun j y0 hj=>?_⟩ (Fa hc.2.1) hc.2.2 h;obtain⟨u,u1,u2⟩:=co.get hj;obtain⟨k1,k2⟩:=aF u (Db u1);exact⟨u,by rw[hv];simpa [Dq]using u1,k1,k2,u2⟩
   ·cases h
  ·split at h
   ·rename_i ls ys bm dS;obtain⟨aQ,h⟩:=C0 h;rw[Bl]at aQ;exact eS ls ys bm (B38 hU dS (J1 hr t y)) (Fa aQ.1) aQ.2 h
   ·cases h
 ·cases h
end
end Go.Aev
end
section
open Go.Lib
namespace Go.Aev
variable {Ty:Type}{den:Ty→Type}
def E8:Nat→St Ty den→List Ch→List (Nat×Nat)
 |_,_,[]=>[]
 |j,s,.tmp t::r=>match s.get t with
  | .one (.sl _ _ (some d))=>bif mem d s.live then(bif Ai d 0 then 0 else j+1,d)::E8 (j+1) (s.kill d) r else E8 (j+1) (s.kill d) r
  |_=>E8 (j+1) s r
 |j,s,.cell _ _::r=>E8 (j+1) s r
theorem A2s{s:St Ty den}{d e:Nat}:mem e (s.kill d).live=true↔mem e s.live=true∧e≠d:=T9 d e s.live
theorem A56:∀(rs:List Ch)(j:Nat)(s:St Ty den),
  (∀ c d,(c,d)∈E8 j s rs→mem d s.live=true∧((c=0∧d=0)∨(j+1≤c∧d≠0)))∧
  (∀ c d c' d',(c,d)∈E8 j s rs→(c',d')∈E8 j s rs→(c=c'↔d=d'))
 |[],j,s=>⟨fun c d h=>by simp[E8]at h,fun c d c' d' h=>by simp[E8]at h⟩
 | .cell _ _::r,j,s=>by
  obtain⟨h1,h2⟩:=A56 r (j+1) s;simp only[E8];exact⟨fun c d h=>by obtain⟨k1,k2⟩:=h1 c d h;exact⟨k1,k2.imp id fun k3=>⟨by omega,k3.2⟩⟩,h2⟩
 | .tmp t::r,j,s=>by
  have skip:∀(s':St Ty den),(∀ e,mem e s'.live=true→mem e s.live=true)→E8 j s (.tmp t::r)=E8 (j+1) s' r→
    (∀ c d,(c,d)∈E8 j s (.tmp t::r)→mem d s.live=true∧((c=0∧d=0)∨(j+1≤c∧d≠0)))∧(∀ c d c' d',(c,d)∈E8 j s (.tmp t::r)→(c',d')∈E8 j s (.tmp t::r)→(c=c'↔d=d')):=by
   intro s' hl he;obtain⟨h1,h2⟩:=A56 r (j+1) s';rw[he];exact⟨fun c d h=>by obtain⟨k1,k2⟩:=h1 c d h;exact⟨hl d k1,k2.imp id fun k3=>⟨by omega,k3.2⟩⟩,h2⟩
  cases hg:s.get t with
  |one l=>
   cases l with
   |sl t0 x o=>
    cases o with
    |none=>exact skip s (fun _ h=>h) (by simp only[E8,hg])
    |some d=>
     cases hm:mem d s.live with
     |false=>exact skip (s.kill d) (fun _ h=>(A2s.1 h).1) (by simp only[E8,hg,hm,cond_false])
     |true=>
      obtain⟨h1,h2⟩:=A56 r (j+1) (s.kill d);have he:E8 j s (.tmp t::r)=(bif Ai d 0 then 0 else j+1,d)::E8 (j+1) (s.kill d) r:=by simp only[E8,hg,hm,cond_true]
      rw[he];have hc:((bif Ai d 0 then 0 else j+1)=0∧d=0)∨(j+1≤(bif Ai d 0 then 0 else j+1)∧d≠0):=by
       by_cases h0:d=0
       ·subst h0;left;exact⟨by simp[H4],rfl⟩
       ·right;rw[L2 h0];exact⟨by simp,h0⟩
      have mE:∀ c' d',(c',d')∈E8 (j+1) (s.kill d) r→(bif Ai d 0 then 0 else j+1)≠c'∧d≠d':=by
       intro c' d' h';obtain⟨k1,k2⟩:=h1 c' d' h';have k3:=(A2s.1 k1).2;refine⟨?_,Bt k3⟩;rcases hc with⟨e1,e2⟩|⟨e1,e2⟩
       ·rw[e1];rcases k2 with⟨f1,f2⟩|⟨f1,f2⟩
        ·exact absurd (f2.trans e2.symm) k3
        ·omega
       ·have e3:(bif Ai d 0 then 0 else j+1)=j+1:=by rw[L2 e2];rfl
        rw[e3];rcases k2 with⟨f1,f2⟩|⟨f1,f2⟩
        ·omega
        ·omega
      refine⟨fun c d' h=>?_,fun c d1 c' d2 h h'=>?_⟩
      ·simp only[Bp,Ci]at h;rcases h with⟨rfl,rfl⟩|h
       ·exact⟨hm,hc⟩
       ·obtain⟨k1,k2⟩:=h1 c d' h;exact⟨(A2s.1 k1).1,k2.imp id fun k3=>⟨by omega,k3.2⟩⟩
      ·simp only[Bp,Ci]at h h';rcases h with⟨rfl,rfl⟩|h
       ·rcases h' with⟨rfl,rfl⟩|h'
        ·simp
        ·obtain⟨k1,k2⟩:=mE c' d2 h';exact⟨fun e=>absurd e k1,fun e=>absurd e k2⟩
       ·rcases h' with⟨rfl,rfl⟩|h'
        ·obtain⟨k1,k2⟩:=mE c d1 h;exact⟨fun e=>absurd e.symm k1,fun e=>absurd e.symm k2⟩
        ·exact h2 c d1 c' d2 h h'
   |_=>exact skip s (fun _ h=>h) (by simp only[E8,hg])
  |tup ls=>exact skip s (fun _ h=>h) (by simp only[E8,hg])
  |st ls=>exact skip s (fun _ h=>h) (by simp only[E8,hg])
  |iter c p=>exact skip s (fun _ h=>h) (by simp only[E8,hg])
  |bx d' ls=>exact skip s (fun _ h=>h) (by simp only[E8,hg])
section
variable {U:UO Ty den}{B:Bs}{g:Gh}{s:St Ty den}{a:Act}{w:World}
def PackRep(U:UO Ty den)(w:World)(g:Gh)(N:List (Nat×Nat)):List (Leaf Ty den)→List Value→Prop
 |[],[]=>True
 |l::ls,v::vs=>(CRep U w g.wm l v∧(∀ t x c,l=.sl t x (some c)→∃ d,(c,d)∈N∧v=g.G d∧U.size t=g.Gs d∧TyB U w t v)∧∀ c o,l=.ptr c o→∃ d b n,(c,d)∈N∧g.G d=.slice (some ⟨b,0,none⟩) 0 n∧PtrAt U w b o v)∧PackRep U w g N ls vs
 |_,_=>False
theorem PackRep.mono{N N':List (Nat×Nat)}(h:∀ p∈N,p∈N'):∀{ls:List (Leaf Ty den)}{vs:List Value},PackRep U w g N ls vs→PackRep U w g N' ls vs
 |[],[],_=>trivial
 |_::_,_::_,hp=>⟨⟨hp.1.1,fun t x c he=>by(obtain⟨d,h1,h2⟩:=hp.1.2.1 t x c he;exact⟨d,h _ h1,h2⟩),fun c o he=>by(obtain⟨d,b,n,h1,h2⟩:=hp.1.2.2 c o he;exact⟨d,b,n,h _ h1,h2⟩)⟩,PackRep.mono h hp.2⟩
 |[],_::_,hp=>hp.elim
 |_::_,[],hp=>hp.elim
theorem PackRep.append{N:List (Nat×Nat)}:∀{ls bh:List (Leaf Ty den)}{vs o6:List Value},PackRep U w g N ls vs→PackRep U w g N bh o6→PackRep U w g N (ls++bh) (vs++o6)
 |[],_,[],_,_,h=>h
 |_::_,_,_::_,_,hp,h=>⟨hp.1,PackRep.append hp.2 h⟩
 |[],_,_::_,_,hp,_=>hp.elim
 |_::_,_,[],_,hp,_=>hp.elim
structure B2z(a:Act)(f:Ch→Sem Value):Prop where
 tmp:∀ t,f (.tmp t)=pure (a.tmps.getD t undef)
 cell:∀ t ty,f (.cell t ty)=do Cn ty (←asAddr (a.tmps.getD t undef))
theorem C7H{E:Env Ty den}{P:Bi}(hT:∀ t,S3 P E.U t (E.tb t))(hU:E.U.Ok)(hr:Rel E.U B g s a w){ty:Ba}{l l':Leaf Ty den}{v:Value}(hx:LRep E.U w g l v)(h:B2v E s ty l=some l'):
  ∃ ad v',v=.pointer (some ad)∧(Cn ty ad).run P w=.ok v' w∧CRep E.U w g.wm l' v'∧∃ u z,l'=.agg u z:=by
 unfold B2v at h;split at h
 ·rename_i u pl d off ht;obtain⟨fs,ie,z0,h1,_,h3,h4,_⟩:=A3Z hT ht;have hC:=B57 (P:=P) h1 w;split at h
  ·rename_i ls bm;obtain⟨bN,h⟩:=C0 h;obtain⟨z,hz,rfl⟩:=Di.1 h;obtain⟨cM,_,_⟩:=A5S hr bm;obtain⟨b,hG,hv,ck,dD,bY⟩:=A76 bN hx cM;have su:=hU.dec _ _ _ hz;have vz:=hU.len u z;have aI:∀ j lf,(E.U.cells u z)[j]?=some lf→∃ l0,ls[off+j]?=some l0∧lf=l0.close∧j<E.U.size u:=fun j lf hj=>by
    have bQ:=J7 hj;rw[su,A91,Dr,Du]at hj;split at hj
    ·obtain⟨l0,h5,rfl⟩:=Di.1 hj;exact⟨l0,h5,rfl,by omega⟩
    ·cases hj
   have cH:∀ j,j<E.U.size u→∃ uu,w.cell? ⟨b,off+j,none⟩=some uu∧∀ lf,(E.U.cells u z)[j]?=some lf→CRep E.U w g.wm lf uu:=fun j hj=>by
    obtain⟨l0,h5,h6,_⟩:=aI j _ (Bj (by omega));obtain⟨uu,u1,_,_,u4⟩:=bY _ _ h5;refine⟨uu,u1,fun lf cz=>?_⟩;rw[Bj (by omega)]at cz;cases cz;rw[h6];exact u4.1.close
   have sx:∃ cs:Nat→Value,∀ j,j<E.U.size u→w.cell? ⟨b,off+j,none⟩=some (cs j)∧∀ lf,(E.U.cells u z)[j]?=some lf→CRep E.U w g.wm lf (cs j):=
    ⟨fun j=>(w.cell? ⟨b,off+j,none⟩).getD undef,fun j hj=>by
     obtain⟨uu,u1,u2⟩:=cH j hj;refine⟨?_,fun lf cz=>?_⟩
     ·show _=some ((w.cell? ⟨b,off+j,none⟩).getD undef);rw[u1];rfl
     ·show CRep E.U w g.wm lf ((w.cell? ⟨b,off+j,none⟩).getD undef);rw[u1];exact u2 lf cz⟩
   obtain⟨cs,cH⟩:=sx;have dk:(Cu ⟨b,off,none⟩ (E.U.size u)).run P w=.ok ((Cj (E.U.size u)).map cs).toArray w:=
    Ep w _ _ cs fun j hj=>by rw[Cl];exact(cH j hj).1
   refine⟨_,.agg ((Cj (E.U.size u)).map cs).toArray,hv,?_,.agg u z _ (by simp) cs (fun j lf hj=>?_) (fun j lf hj=>?_),u,z,rfl⟩
   ·simp[Cn,hC,Ce,Bq,h3,h4,dk]
   ·obtain⟨_,_,_,h7⟩:=aI j lf hj;rw[Bo,Dk h7];rfl
   ·obtain⟨_,_,_,h7⟩:=aI j lf hj;exact(cH j h7).2 lf hj
  ·cases h
 ·cases h
theorem A66{E:Env Ty den}{P:Bi}(hT:∀ t,S3 P E.U t (E.tb t))(hU:E.U.Ok):∀(rs:List Ch)(j:Nat)(s:St Ty den)(ls:List (Leaf Ty den)),X3 E j s rs=some ls→Rel E.U B g s a w→
  ∃ vs,PackRep E.U w g (E8 j s rs) ls vs∧(∀ f,B2z a f→(rs.mapM f).run P w=.ok vs w)∧Rel E.U B g (J0 s rs) a w
 |[],j,s,ls,h,hr=>by
  simp only[X3,Be]at h;subst h;exact⟨[],trivial,fun f _=>rfl,hr⟩
 | .cell t ty::r,j,s,ls,h,hr=>by
  simp only[X3]at h;split at h
  ·rename_i l hg;split at h
   ·rename_i l' bh lM sR;cases h;have aK:=hr.ent t;rw[hg]at aK;obtain⟨ad,v',e1,e2,e3,u,z,rfl⟩:=C7H (P:=P) hT hU hr aK lM;obtain⟨vs,h1,h2,h3⟩:=A66 hT hU r (j+1) s bh sR hr;refine⟨v'::vs,⟨⟨e3,fun _ _ _ he=>by(cases he),fun _ _ he=>by(cases he)⟩,h1⟩,fun f hf=>?_,h3⟩;rw[Ee,hf.cell,e1];have e4:(Cn ty ad).run P w=.ok v' w:=e2;simp[asAddr,e4,h2 f hf]
   ·cases h
  ·cases h
 | .tmp t::r,j,s,ls,h,hr=>by
  simp only[X3]at h;have aK:=hr.ent t;cases hg:s.get t with
  |tup l=>rw[hg]at h;cases h
  |st l=>rw[hg]at h;cases h
  |iter c p=>rw[hg]at h;cases h
  |bx d' ls=>rw[hg]at h;cases h
  |one l=>
   rw[hg]at h aK;dsimp only at h;have fin:∀(s':St Ty den)(bh:List (Leaf Ty den))(l':Leaf Ty den),Rel E.U B g s' a w→X3 E (j+1) s' r=some bh→ls=l'::bh→(∀ p∈E8 (j+1) s' r,p∈E8 j s (.tmp t::r))→J0 s (.tmp t::r)=J0 s' r→
     (CRep E.U w g.wm l' (a.tmps.getD t undef)∧(∀ t0 x c,l'=.sl t0 x (some c)→∃ d,(c,d)∈E8 j s (.tmp t::r)∧a.tmps.getD t undef=g.G d∧E.U.size t0=g.Gs d∧TyB E.U w t0 (a.tmps.getD t undef))∧∀ d o,l'≠ .ptr d o)→
     ∃ vs,PackRep E.U w g (E8 j s (.tmp t::r)) ls vs∧(∀ f,B2z a f→((ResultVar.tmp t::r).mapM f).run P w=.ok vs w)∧Rel E.U B g (J0 s (.tmp t::r)) a w:=by
    intro s' bh l' ct hp he bZ hS lM;obtain⟨vs,h1,h2,h3⟩:=A66 hT hU r (j+1) s' bh hp ct;subst he;refine⟨a.tmps.getD t undef::vs,⟨⟨lM.1,lM.2.1,fun c o he=>absurd he (lM.2.2 c o)⟩,h1.mono bZ⟩,fun f hf=>?_,by rw[hS];exact h3⟩;rw[Ee,hf.tmp];simp[h2 f hf]
   cases l with
   |sl t0 x o=>
    cases o with
    |none=>
     cases hp:X3 E (j+1) s r with
     |none=>rw[hp]at h;cases h
     |some bh=>
      rw[hp]at h;simp only[Cq,Be]at h;exact fin s bh _ hr hp h.symm (fun p hp=>by simp only[E8,hg];exact hp) (by simp only[J0,hg]) ⟨aK.1,fun _ _ _ he=>by(simp[A4v]at he),fun _ _ he=>by(cases he)⟩
    |some d=>
     dsimp only at h;cases hp:X3 E (j+1) (s.kill d) r with
     |none=>rw[hp]at h;cases h
     |some bh=>
      rw[hp]at h;simp only[Cq,Be]at h;cases hm:mem d s.live with
      |false=>
       refine fin (s.kill d) bh _ (hr.kill hU d) hp h.symm (fun p hp=>by simp only[E8,hg,hm,cond_false];exact hp) (by simp only[J0,hg]) ?_;simp only[A4v,hm,cond_false];exact⟨aK.1.own none,fun _ _ _ he=>by(simp at he),fun _ _ he=>by(cases he)⟩
      |true=>
       refine fin (s.kill d) bh _ (hr.kill hU d) hp h.symm (fun p hp=>by simp only[E8,hg,hm,cond_true];exact Gw _ hp) (by simp only[J0,hg]) ?_;simp only[A4v,hm,cond_true];refine⟨aK.1.own _,fun t1 x1 c he=>?_,fun _ _ he=>by(cases he)⟩;simp only[Leaf.sl.injEq,Be]at he;obtain⟨rfl,_,rfl⟩:=he;exact⟨d,by simp only[E8,hg,hm,cond_true];exact Gv,aK.2.1 _ _ d rfl⟩
   |ptr d0 o0=>
    cases hp:X3 E (j+1) s r with
    |none=>rw[hp]at h;cases h
    |some bh=>
     rw[hp]at h;simp only[Cq,Be]at h;exact fin s bh _ hr hp h.symm (fun p hp=>by simp only[E8,hg];exact hp) (by simp only[J0,hg]) ⟨.any _,fun _ _ _ he=>by(simp[A4v]at he),fun _ _ he=>by(cases he)⟩
   |_=>
    cases hp:X3 E (j+1) s r with
    |none=>rw[hp]at h;cases h
    |some bh=>
     rw[hp]at h;simp only[Cq,Be]at h;exact fin s bh _ hr hp h.symm (fun p hp=>by simp only[E8,hg];exact hp) (by simp only[J0,hg]) ⟨aK.1,fun _ _ _ he=>by(simp[A4v]at he),fun _ _ he=>by(cases he)⟩
def S9(vs:List Value):Value:=if h:vs.length=1 then vs[0]else .tuple vs.toArray
theorem A1q(P:Bi)(fn:Func)(a:Act)(w:World)(rs:List Ch)(lg:fn.results.toList=rs){vs:List Value}(ht:∀ f,B2z a f→(rs.mapM f).run P w=.ok vs w):
  (Dz fn a.tmps).run P w=.ok (S9 vs) w:=by
 have h1:fn.results=rs.toArray:=by rw[←lg]
 unfold Dz;rw[h1,List.mapM_toArray];simp only[Gb,Sem.run_map];rw[ht _ ⟨fun _=>rfl,fun _ _=>rfl⟩];simp[S9]
theorem PackRep.length{N:List (Nat×Nat)}:∀{ls:List (Leaf Ty den)}{vs:List Value},PackRep U w g N ls vs→ls.length=vs.length
 |[],[],_=>rfl
 |_::_,_::_,h=>by simp[PackRep.length h.2]
 |[],_::_,hp=>hp.elim
 |_::_,[],hp=>hp.elim
def N4(g:Gh)(N:List (Nat×Nat)):Gh:=
 {wm:=g.wm,ib:=g.ib,G:=fun c=>match N.find? (fun p=>p.1==c)with|some p=>g.G p.2|none=>.bool false,Gs:=fun c=>match N.find? (fun p=>p.1==c)with|some p=>g.Gs p.2|none=>0}
theorem A2Y{g:Gh}{N:List (Nat×Nat)}(hN:∀ c d c' d',(c,d)∈N→(c',d')∈N→(c=c'↔d=d')){c d:Nat}(h:(c,d)∈N):(N4 g N).G c=g.G d∧(N4 g N).Gs c=g.Gs d:=by
 have hf:∃ p,N.find? (fun p=>p.1==c)=some p:=by
  cases hf:N.find? (fun p=>p.1==c)with
  |some p=>exact⟨p,rfl⟩
  |none=>
   have:=List.find?_eq_none.1 hf (c,d) h;simp at this
 obtain⟨p,hp⟩:=hf;have h1:=List.mem_of_find?_eq_some hp;have h2:p.1=c:=by simpa using List.find?_some hp
 have h3:p.2=d:=(hN p.1 p.2 c d h1 h).1 h2;simp only[N4,hp,h3,and_self]
theorem PackRep.out{N:List (Nat×Nat)}(hN:∀ c d c' d',(c,d)∈N→(c',d')∈N→(c=c'↔d=d')):∀{ls:List (Leaf Ty den)}{vs:List Value},PackRep U w g N ls vs→LsRep U w (N4 g N) ls vs
 |[],[],_=>trivial
 |_::_,_::_,h=>⟨⟨h.1.1,fun t x c he=>by
  obtain⟨d,h1,h2,h3,h4⟩:=h.1.2.1 t x c he;obtain⟨e1,e2⟩:=A2Y (g:=g) hN h1;exact⟨h2.trans e1.symm,h3.trans e2.symm,h4⟩,fun c o he=>by
  obtain⟨d,b,n,h1,h2,h3⟩:=h.1.2.2 c o he;obtain⟨e1,e2⟩:=A2Y (g:=g) hN h1;exact⟨b,n,e1.trans h2,h3⟩⟩,PackRep.out hN h.2⟩
 |[],_::_,hp=>hp.elim
 |_::_,[],hp=>hp.elim
theorem PackRep.names{N:List (Nat×Nat)}:∀{ls:List (Leaf Ty den)}{vs:List Value},PackRep U w g N ls vs→∀ lf∈ls,∀ c,lf.has c=true→∃ d,(c,d)∈N
 |_::_,_::_,h,lf,hl,c,hc=>by
  simp only[Bp]at hl;rcases hl with rfl|hl
  ·rcases (Leaf.has_iff c _).1 hc with⟨t,x,he⟩|⟨o,he⟩
   ·obtain⟨d,h1,_⟩:=h.1.2.1 t x c he;exact⟨d,h1⟩
   ·obtain⟨d,_,_,h1,_⟩:=h.1.2.2 c o he;exact⟨d,h1⟩
  ·exact PackRep.names h.2 lf hl c hc
 |[],_::_,hp,_,_,_,_=>hp.elim
 |_::_,[],hp,_,_,_,_=>hp.elim
 |[],[],_,lf,hl,_,_=>by simp at hl
theorem LsRep.head{l:Leaf Ty den}:∀{vs:List Value}(h:LsRep U w g [l] vs)(hl:0<vs.length),LRep U w g l vs[0]
 |_::_,h,_=>h.1
theorem B3b{N:List (Nat×Nat)}(hr:Rel U B g s a w)(hN:∀ c d c' d',(c,d)∈N→(c',d')∈N→(c=c'↔d=d'))(hl:∀ c d,(c,d)∈N→mem d s.live=true){ls:List (Leaf Ty den)}{vs:List Value}(h1:PackRep U w g N ls vs)
  {r:Ent Ty den}{v:Value}(eA:∀ c,r.has c=true↔∃ lf∈ls,lf.has c=true)(rP:r.isIter=false)(aq:∀ g',LsRep U w g' ls vs→ERep U w g' r v):Post U B (N4 g N) r v w:=by
 have db:∀ c,r.has c=true→∃ d,(c,d)∈N∧mem d s.live=true∧(N4 g N).G c=g.G d∧(N4 g N).Gs c=g.Gs d:=fun c hc=>by
  obtain⟨lf,lM,dw⟩:=(eA c).1 hc;obtain⟨d,hd⟩:=h1.names lf lM c dw;obtain⟨e1,e2⟩:=A2Y (g:=g) hN hd;exact⟨d,hd,hl c d hd,e1,e2⟩
 refine{os:=hr.os,tape:=hr.tape,output:=hr.output,size:=hr.size,frame:=hr.frame,ext:=hr.ext,zero:=hr.zero,rep:=aq _ (h1.out hN),nit:=rP,tip:=fun c hc=>?_,disj:=fun c c' b hc cC az hs=>?_,mine:=fun c b hc hs=>?_}
 ·obtain⟨d,_,hl,e1,e2⟩:=db c hc;rw[e1,e2];exact hr.tip d hl
 ·obtain⟨d,hd,hl,e1,_⟩:=db c hc;obtain⟨d',dY,lM,sS,_⟩:=db c' cC;rw[e1]at hs;rw[sS];exact hr.disj d d' b hl lM (fun e=>az ((hN c d c' d' hd dY).2 e)) hs
 ·obtain⟨d,hd,hl,e1,_⟩:=db c hc;rw[e1]at hs;exact hr.mine d b hl hs
variable {E:Env Ty den}{P:Bi}
theorem C0V(hT:∀ t,S3 P E.U t (E.tb t))(hU:E.U.Ok){fn:Func}{r:Ent Ty den}(h:A7k E fn.results.toList s=some r)(hr:Rel E.U B g s a w):
  ∃ v,(Dz fn a.tmps).run P w=.ok v w∧∃ g',Post E.U B g' r v w:=by
 unfold A7k at h;cases hp:X3 E 0 s fn.results.toList with
 |none=>rw[hp]at h;cases h
 |some ls=>
  rw[hp]at h;obtain⟨vs,h1,h2,_⟩:=A66 (P:=P) hT hU fn.results.toList 0 s ls hp hr;obtain⟨vG,o7⟩:=A56 fn.results.toList 0 s;have ag:=A1q P fn a w fn.results.toList rfl h2;have au:=h1.length;unfold S9 at ag;have jS:∀(hl:ls.length≠1),some (Ent.tup ls)=some r→∃ v,(Dz fn a.tmps).run P w=.ok v w∧∃ g',Post E.U B g' r v w:=fun hl he=>by
   cases he;rw[dif_neg (by omega)]at ag;refine⟨_,ag,_,B3b hr o7 (fun c d h=>(vG c d h).1) h1 (fun c=>?_) rfl (fun g' lh=>⟨_,rfl,lh⟩)⟩;simp[Ent.has,Dv]
  match ls,h,h1,au,jS,hp with
  |[],h,_,_,jS,_=>exact jS (by simp) h
  |[l],h,h1,au,_,hp=>
   simp only[Be]at h;subst h;rw[dif_pos (by simpa using au.symm)]at ag;refine⟨_,ag,_,B3b hr o7 (fun c d h=>(vG c d h).1) h1 (fun c=>by simp[Ent.has]) rfl (fun g' lh=>?_)⟩;exact LsRep.head lh _
  |l::l2::bh,h,_,_,jS,_=>exact jS (by simp) h
end
end Go.Aev
end
section
open Go.Lib
namespace Go.Aev
variable {Ty:Type}{den:Ty→Type}
def M7(ls:List (Leaf Ty den))(c:Nat):Prop:=∃ lf∈ls,lf.has c=true
def R0:List (Nat×List Value)→List Value
 |[]=>[]
 |(b,us)::r=>.pointer (some ⟨b,0,none⟩)::(us++R0 r)
def Z7(w:World)(g:Gh):List Nat→List (List (Leaf Ty den))→List (Nat×List Value)→Prop
 |[],[],[]=>True
 |d::ds,c::cs,(b,us)::r=>(g.G d=.slice (some ⟨b,0,none⟩) 0 us.length∧us.length=c.length∧0<us.length∧g.Gs d=1∧
  ∀(j:Nat) u,us[j]?=some u→w.cell? ⟨b,j,none⟩=some u∧u.oneCell'=true∧u.cells= #[u])∧Z7 w g ds cs r
 |_,_,_=>False
def K6:Nat→List Nat→List (Nat×Nat)
 |_,[]=>[]
 |k,d::r=>(B8 k,d)::K6 (k+1) r
def X9(P:Bi)(U:UO Ty den)(I:Inv)(f:Bm)(ls:List (Leaf Ty den))(cs:List (List (Leaf Ty den)))(rs:List (Leaf Ty den))(av:List (List (Leaf Ty den))):Prop:=
 ∀(w:World)(g:Gh)(vs:List Value)(bD:List (Nat×List Value)),I w g.wm→(∀ b,w.heap.size≤b→g.wm b=0)→LsRep U w g ls vs→LsRep U w g (E0 0 cs) (R0 bD)→Z7 w g (O5 0 cs.length) cs bD→
  (∀ d,M7 (E0 0 cs) d→Tip w g.wm (g.G d) (g.Gs d))→(∀ d e b,M7 (E0 0 cs) d→M7 (E0 0 cs) e→d≠e→spare (g.G d)=some b→spare (g.G e)≠some b)→
  (∀ lf∈ls,∀ d,lf.has d=true→M7 (E0 0 cs) d)→
  Calls P f vs.toArray w fun e w'=>∃ g' rv dc,e=.returned (S9 rv)∧rs.length=rv.length∧
   Post U ⟨w,g.wm,fun b=>∃ d,M7 (E0 0 cs) d∧spare (g.G d)=some b,0,fun _=>undef⟩ g' (.tup (rs++E0 0 av)) (.tuple (rv++R0 dc).toArray) w'∧
   Z7 w' g' (O5 0 cs.length) av dc∧dc.map (fun p=>(p.1,p.2.length))=bD.map (fun p=>(p.1,p.2.length))
structure H9(P:Bi)(U:UO Ty den)(I:Inv)(f:Bm)(S:List (Leaf Ty den)→List (List (Leaf Ty den))→Option (List (Leaf Ty den)×List (List (Leaf Ty den)))):Prop where
 enter:∀ args w,(Cp f args).run P w=.ok (.enter f args) w
 ok:∀ ls cs rs av,S ls cs=some (rs,av)→X9 P U I f ls cs rs av
section
variable {U:UO Ty den}{B:Bs}{g:Gh}{s:St Ty den}{a:Act}{w:World}
def OneOne(N:List (Nat×Nat)):Prop:=∀ c d c' d',(c,d)∈N→(c',d')∈N→(c=c'↔d=d')
theorem C9w(hU:U.Ok)(hr:Rel U B g s a w){k d c:Nat}{l:Leaf Ty den}{u:Value}(hl:LRep U w g l u)(hb:∃ b n,g.G d=.slice (some ⟨b,0,none⟩) 0 n):
  ∃ N,Rel U B g (pk1 k d c s l).2 a w∧PackRep U w g ((B8 k,d)::N) [(pk1 k d c s l).1] [u]∧OneOne N∧(∀ p∈N,p.1=c∧mem p.2 s.live=true∧mem p.2 (pk1 k d c s l).2.live=false)∧
   (∀ e,mem e (pk1 k d c s l).2.live=true→mem e s.live=true):=by
 have keep:∀{l':Leaf Ty den},CRep U w g.wm l' u→(∀ t x c,l'≠ .sl t x (some c))→(∀ c' o,l'=.ptr c' o→∃ d' b n,(c',d')∈[(B8 k,d)]∧g.G d'=.slice (some ⟨b,0,none⟩) 0 n∧PtrAt U w b o u)→pk1 k d c s l=(l',s)→
   ∃ N,Rel U B g (pk1 k d c s l).2 a w∧PackRep U w g ((B8 k,d)::N) [(pk1 k d c s l).1] [u]∧OneOne N∧(∀ p∈N,p.1=c∧mem p.2 s.live=true∧mem p.2 (pk1 k d c s l).2.live=false)∧
   (∀ e,mem e (pk1 k d c s l).2.live=true→mem e s.live=true):=fun h1 h2 h3 h4=>by
  rw[h4];exact⟨[],hr,⟨⟨h1,fun t x c he=>absurd he (h2 t x c),h3⟩,trivial⟩,fun _ _ _ _ h=>by(cases h),fun p hp=>by(cases hp),fun _ h=>h⟩
 cases l with
 |sl t x o=>
  cases o with
  |none=>exact keep hl.1.close (fun _ _ _ he=>by(cases he)) (fun _ _ he=>by(cases he)) rfl
  |some e=>
   cases hm:mem e s.live with
   |false=>exact keep hl.1.close (fun _ _ _ he=>by(cases he)) (fun _ _ he=>by(cases he)) (by simp only[pk1,hm,cond_false];rfl)
   |true=>
    obtain⟨h1,h2⟩:=hl.2.1 t x e rfl;have he:pk1 k d c s (.sl t x (some e))=(.sl t x (some c),s.kill e):=by simp only[pk1,hm,cond_true]
    rw[he];refine⟨[(c,e)],hr.kill hU e,⟨⟨hl.1.own _,fun t1 x1 c1 ft=>?_,fun _ _ ft=>by(cases ft)⟩,trivial⟩,fun c1 d1 c2 d2 h3 h4=>?_,fun p hp=>?_,fun e' h=>(A2s.1 h).1⟩
    ·cases ft;exact⟨e,by simp,h1,h2⟩
    ·simp only[Bp,Gr,or_false,Ci]at h3 h4;simp[h3,h4]
    ·simp only[Bp,Gr,or_false]at hp;subst hp;refine⟨rfl,hm,?_⟩;cases h5:mem e (s.kill e).live with
     |false=>rfl
     |true=>exact absurd rfl (A2s.1 h5).2
 |ptr e o=>
  cases hc:Ai e d&&Ai o C6 with
  |false=>exact keep (.any _) (fun _ _ _ he=>by(cases he)) (fun _ _ he=>by(cases he)) (by simp only[pk1,hc,cond_false])
  |true=>
   simp only[Bl]at hc;have e1:=(F6 _ _).1 hc.1;have e2:o=C6:=(F6 _ _).1 hc.2;subst e2;subst e1;obtain⟨b,n,h1,h2⟩:=hl.2.2 e _ rfl;obtain⟨p,hp⟩:=h2.ptr;refine keep (l':=.ptr (B8 k) C6) (by rw[hp];exact .ptr _ _ _) (fun _ _ _ he=>by(cases he)) (fun c' o' he=>?_) (by simp only[pk1,H4,hc.2,Hj,cond_true]);cases he;exact⟨e,b,n,by simp,h1,h2⟩
 |any=>exact keep hl.1.close (fun _ _ _ he=>by(cases he)) (fun _ _ he=>by(cases he)) rfl
 |int k0 n=>exact keep hl.1.close (fun _ _ _ he=>by(cases he)) (fun _ _ he=>by(cases he)) rfl
 |bool b=>exact keep hl.1.close (fun _ _ _ he=>by(cases he)) (fun _ _ he=>by(cases he)) rfl
 |str b=>exact keep hl.1.close (fun _ _ _ he=>by(cases he)) (fun _ _ he=>by(cases he)) rfl
 |elem t x off=>exact keep hl.1.close (fun _ _ _ he=>by(cases he)) (fun _ _ he=>by(cases he)) rfl
 |agg t x=>exact keep hl.1.close (fun _ _ _ he=>by(cases he)) (fun _ _ he=>by(cases he)) rfl
 |ifc T t x=>exact keep hl.1.close (fun _ _ _ he=>by(cases he)) (fun _ _ he=>by(cases he)) rfl
 |one1 t x=>exact keep hl.1.close (fun _ _ _ he=>by(cases he)) (fun _ _ he=>by(cases he)) rfl
 |val v=>exact keep hl.1.close (fun _ _ _ he=>by(cases he)) (fun _ _ he=>by(cases he)) rfl
theorem OneOne.append{N M:List (Nat×Nat)}(h1:OneOne N)(h2:OneOne M)(h:∀ p∈N,∀ q∈M,p.1≠q.1∧p.2≠q.2):OneOne (N++M):=by
 intro c d c' d' h3 h4;rw[Ck]at h3 h4;rcases h3 with h3|h3<;>rcases h4 with h4|h4
 ·exact h1 c d c' d' h3 h4
 ·have:=h _ h3 _ h4;exact⟨fun e=>absurd e this.1,fun e=>absurd e this.2⟩
 ·have:=h _ h4 _ h3;exact⟨fun e=>absurd e.symm this.1,fun e=>absurd e.symm this.2⟩
 ·exact h2 c d c' d' h3 h4
theorem B4v(hU:U.Ok){k d:Nat}:∀(ls:List (Leaf Ty den))(us:List Value)(j:Nat)(s:St Ty den),Rel U B g s a w→LsRep U w g ls us→(∃ b n,g.G d=.slice (some ⟨b,0,none⟩) 0 n)→
  ∃ N,Rel U B g (pkC k d j s ls).2 a w∧PackRep U w g ((B8 k,d)::N) (pkC k d j s ls).1 us∧OneOne N∧(∀ p∈N,(∃ i,j≤i∧i<j+ls.length∧p.1=bo (B8 k) i)∧mem p.2 s.live=true∧mem p.2 (pkC k d j s ls).2.live=false)∧
   (∀ e,mem e (pkC k d j s ls).2.live=true→mem e s.live=true)∧(pkC k d j s ls).1.length=ls.length
 |[],[],j,s,hr,_,_=>⟨[],hr,trivial,fun _ _ _ _ h=>by(cases h),fun p hp=>by(cases hp),fun _ h=>h,rfl⟩
 |l::ls,u::us,j,s,hr,bm,hb=>by
  obtain⟨N1,a1,a2,a3,a4,a5⟩:=C9w hU hr (k:=k) (d:=d) (c:=bo (B8 k) j) bm.1 hb;obtain⟨N2,b1,b2,b3,b4,b5,b6⟩:=B4v hU (k:=k) (d:=d) ls us (j+1) _ a1 bm.2 hb;have e1:(pkC k d j s (l::ls)).1=(pk1 k d (bo (B8 k) j) s l).1::(pkC k d (j+1) (pk1 k d (bo (B8 k) j) s l).2 ls).1:=rfl;have e2:(pkC k d j s (l::ls)).2=(pkC k d (j+1) (pk1 k d (bo (B8 k) j) s l).2 ls).2:=rfl;rw[e1,e2];refine⟨N1++N2,b1,⟨?_,b2.mono fun p hp=>?_⟩,a3.append b3 fun p hp q hq=>?_,fun p hp=>?_,fun e he=>a5 e (b5 e he),by simp[b6]⟩
  ·obtain⟨c1,c2,c3⟩:=a2.1;exact⟨c1,fun t x c he=>by(obtain⟨d',h1,h2⟩:=c2 t x c he;exact⟨d',by simp only[Bp,Ck]at h1 ⊢;exact h1.imp id Or.inl,h2⟩),fun c o he=>by(obtain⟨d',b,n,h1,h2⟩:=c3 c o he;exact⟨d',b,n,by simp only[Bp,Ck]at h1 ⊢;exact h1.imp id Or.inl,h2⟩)⟩
  ·simp only[Bp,Ck]at hp ⊢;exact hp.imp id Or.inr
  ·obtain⟨p1,p2,p3⟩:=a4 p hp;obtain⟨⟨i,q1,q2,q3⟩,q4,q5⟩:=b4 q hq;refine⟨fun e=>?_,fun e=>?_⟩
   ·rw[p1,q3]at e;unfold bo at e;omega
   ·rw[e]at p3;rw[p3]at q4;cases q4
  ·rw[Ck]at hp;rcases hp with hp|hp
   ·obtain⟨p1,p2,p3⟩:=a4 p hp;refine⟨⟨j,Bh _,by simp,p1⟩,p2,?_⟩;cases h5:mem p.2 (pkC k d (j+1) (pk1 k d (bo (B8 k) j) s l).2 ls).2.live with
    |false=>rfl
    |true=>have:=b5 _ h5;rw[p3]at this;cases this
   ·obtain⟨⟨i,q1,q2,q3⟩,q4,q5⟩:=b4 p hp;exact⟨⟨i,by omega,by simp only[Bw];omega,q3⟩,a5 _ q4,q5⟩
theorem B7q{d:Nat}{ls:List (Leaf Ty den)}(h:BoxOk U w g d ls):∃(b:Nat)(us:List Value),g.G d=.slice (some ⟨b,0,none⟩) 0 us.length∧us.length=ls.length∧0<us.length∧g.Gs d=1∧
  (∀(j:Nat) u,us[j]?=some u→w.cell? ⟨b,j,none⟩=some u∧u.oneCell'=true∧u.cells= #[u])∧LsRep U w g ls us:=by
 obtain⟨b,h1,h2,h3,h4⟩:=h;have cS:∀(ls:List (Leaf Ty den))(o:Nat),(∀(j:Nat) lf,ls[j]?=some lf→∃ u,w.cell? ⟨b,o+j,none⟩=some u∧u.oneCell'=true∧u.cells= #[u]∧LRep U w g lf u)→
   ∃ us:List Value,us.length=ls.length∧(∀(j:Nat) u,us[j]?=some u→w.cell? ⟨b,o+j,none⟩=some u∧u.oneCell'=true∧u.cells= #[u])∧LsRep U w g ls us:=by
  intro ls
  induction ls with
  |nil=>intro o _;exact⟨[],rfl,fun j u h=>by simp at h,trivial⟩
  |cons l ls ih=>
   intro o hc;obtain⟨us,e1,e2,e3⟩:=ih (o+1) (fun j lf hj=>by
    have:=hc (j+1) lf (by simpa using hj);rw[show o+(j+1)=o+1+j by omega]at this;exact this)
   obtain⟨u,u1,u2,u3,u4⟩:=hc 0 l rfl;refine⟨u::us,by simp[e1],fun j v hj=>?_,u4,e3⟩;cases j with
   |zero=>simp at hj;subst hj;exact⟨u1,u2,u3⟩
   |succ j=>
    have:=e2 j v (by simpa using hj);rw[show o+1+j=o+(j+1)by omega]at this;exact this
 obtain⟨us,e1,e2,e3⟩:=cS ls 0 (fun j lf hj=>by rw[Bz];exact h4 j lf hj);exact⟨b,us,by rw[e1];exact h1,e1,by omega,h3,fun j u hj=>by have:=e2 j u hj;rw[Bz]at this;exact this,e3⟩
theorem A2r:∀(ds:List Nat)(k:Nat)(p:Nat×Nat),p∈K6 k ds→∃ i,k≤i∧i<k+ds.length∧p.1=B8 i∧ds[i - k]?=some p.2
 |[],k,p,h=>by cases h
 |d::ds,k,p,h=>by
  simp only[K6,Bp]at h;rcases h with rfl|h
  ·exact⟨k,Bh _,by simp,rfl,by simp⟩
  ·obtain⟨i,h1,h2,h3,h4⟩:=A2r ds (k+1) p h;refine⟨i,by omega,by simp only[Bw];omega,h3,?_⟩;rw[show i - k=i - (k+1)+1 by omega];simpa using h4
theorem B06(hU:U.Ok):∀(ds:List Nat)(k:Nat)(s:St Ty den)(cs:List (List (Leaf Ty den)))(s':St Ty den),pkB k s ds=some (cs,s')→Rel U B g s a w→
  ∃ bD N,Rel U B g s' a w∧PackRep U w g (K6 k ds++N) (E0 k cs) (R0 bD)∧Z7 w g ds cs bD∧OneOne N∧
   (∀ p∈N,(∃ i j,k≤i∧j<100∧p.1=bo (B8 i) j)∧mem p.2 s.live=true∧mem p.2 s'.live=false)∧(∀ e,mem e s'.live=true→mem e s.live=true)∧cs.length=ds.length
 |[],k,s,cs,s',h,hr=>by
  simp only[pkB,Be,Ci]at h;obtain⟨rfl,rfl⟩:=h;exact⟨[],[],hr,trivial,trivial,fun _ _ _ _ h=>by(cases h),fun p hp=>by(cases hp),fun _ h=>h,rfl⟩
 |d::ds,k,s,cs,s',h,hr=>by
  simp only[pkB]at h;split at h
  ·rename_i e ls hg;obtain⟨hc,h⟩:=C0 h;simp only[Bl]at hc;have e1:=(F6 _ _).1 hc.1;subst e1;have au:ls.length<100:=by simpa [Bu]using hc.2
   split at h
   ·rename_i ek s1 jT;simp only[Be,Ci]at h;obtain⟨rfl,rfl⟩:=h;have cM:=hr.ent (bxi e);rw[hg]at cM;obtain⟨b,us,g1,g2,g3,g4,g5,g6⟩:=B7q (show BoxOk U w g e ls from cM);obtain⟨N1,a1,a2,a3,a4,a5,a6⟩:=B4v hU (k:=k) (d:=e) ls us 0 s hr g6 ⟨b,_,g1⟩;obtain⟨bD,N2,b1,b2,b3,b4,b5,b6,b7⟩:=B06 hU ds (k+1) _ ek s1 jT a1;refine⟨(b,us)::bD,N1++N2,b1,?_,⟨⟨g1,g2.trans a6.symm,g3,g4,g5⟩,b3⟩,a3.append b4 fun p hp q hq=>?_,fun p hp=>?_,fun e he=>a5 e (b6 e he),by simp[b7]⟩
    ·have pN:∀ p∈(B8 k,e)::N1,p∈K6 k (e::ds)++(N1++N2):=fun p hp=>by
      simp only[K6,Bp,Ck]at hp ⊢;rcases hp with h|h
      ·exact .inl (.inl h)
      ·exact .inr (.inl h)
     have pO:∀ p∈K6 (k+1) ds++N2,p∈K6 k (e::ds)++(N1++N2):=fun p hp=>by
      simp only[K6,Bp,Ck]at hp ⊢;rcases hp with h|h
      ·exact .inl (.inr h)
      ·exact .inr (.inr h)
     refine⟨⟨.ptr _ _ _,fun _ _ _ he=>by(cases he),fun c o he=>?_⟩,(a2.mono pN).append (b2.mono pO)⟩;cases he;exact⟨e,b,_,by simp[K6],g1,.inl ⟨rfl,by decide⟩⟩
    ·obtain⟨⟨i,p1,p2,p3⟩,p4,p5⟩:=a4 p hp;obtain⟨⟨i',j',q1,q2,q3⟩,q4,q5⟩:=b5 q hq;refine⟨fun e=>?_,fun e=>?_⟩
     ·rw[p3,q3]at e;unfold bo B8 at e;omega
     ·rw[e]at p5;rw[p5]at q4;cases q4
    ·rw[Ck]at hp;rcases hp with hp|hp
     ·obtain⟨⟨i,p1,p2,p3⟩,p4,p5⟩:=a4 p hp;refine⟨⟨k,i,Bh _,by omega,p3⟩,p4,?_⟩;cases h5:mem p.2 s1.live with
      |false=>rfl
      |true=>have:=b6 _ h5;rw[p5]at this;cases this
     ·obtain⟨⟨i',j',q1,q2,q3⟩,q4,q5⟩:=b5 p hp;exact⟨⟨i',j',by omega,q2,q3⟩,a5 _ q4,q5⟩
   ·cases h
  ·cases h
theorem B4u:∀{ds:List Nat},A0c ds=true→∀{i j x:Nat},ds[i]?=some x→ds[j]?=some x→i=j
 |[],_,i,j,x,h,_=>by simp at h
 |d::ds,hn,i,j,x,h1,h2=>by
  simp only[A0c,Bl,Fo]at hn;have cP:∀{i:Nat},ds[i]? ≠some d:=fun{i} h=>by
   have:mem d ds=true:=by
    clear h1 h2 hn
    induction ds generalizing i with
    |nil=>simp at h
    |cons y r ih=>
     rw[mem_cons];cases i with
     |zero=>simp at h;exact .inl h
     |succ i=>exact .inr (ih (by simpa using h))
   rw[hn.1]at this;cases this
  cases i with
  |zero=>
   simp at h1;subst h1;cases j with
   |zero=>rfl
   |succ j=>exact absurd (by simpa using h2) (cP (i:=j))
  |succ i=>
   cases j with
   |zero=>simp at h2;subst h2;exact absurd (by simpa using h1) (cP (i:=i))
   |succ j=>rw[B4u hn.2 (i:=i) (j:=j) (by simpa using h1) (by simpa using h2)]
theorem A6r:∀{ds:List Nat},A1c s ds=true→∀{i x:Nat},ds[i]?=some x→mem x s.live=true
 |[],_,i,x,h=>by simp at h
 |d::ds,hn,i,x,h=>by
  simp only[A1c,Bl]at hn;cases i with
  |zero=>simp at h;subst h;exact hn.1
  |succ i=>exact A6r hn.2 (by simpa using h)
theorem B5v{ds:List Nat}(hn:A0c ds=true)(k:Nat):OneOne (K6 k ds):=by
 intro c d c' d' h1 h2;obtain⟨i,a1,a2,a3,a4⟩:=A2r ds k _ h1;obtain⟨i',b1,b2,b3,b4⟩:=A2r ds k _ h2;simp only at a3 b3 a4 b4;constructor
 ·intro e;rw[a3,b3]at e;have:i=i':=by unfold B8 at e;omega
  subst this;rw[a4]at b4;exact Br b4
 ·intro e;subst e;have:=B4u hn a4 b4;rw[a3,b3]
  congr 1;omega
theorem B6K{ds:List Nat}(hn:A0c ds=true)(aB:ds.length<100){N:List (Nat×Nat)}{s':St Ty den}(h1:OneOne N)(h2:∀ p∈N,(∃ i j,0≤i∧j<100∧p.1=bo (B8 i) j)∧mem p.2 s.live=true∧mem p.2 s'.live=false)(hl:A1c s' ds=true):
  OneOne (K6 0 ds++N):=by
 refine(B5v hn 0).append h1 fun p hp q hq=>?_;obtain⟨i,a1,a2,a3,a4⟩:=A2r ds 0 _ hp;obtain⟨⟨i',j',q1,q2,q3⟩,q4,q5⟩:=h2 q hq;refine⟨fun e=>?_,fun e=>?_⟩
 ·rw[a3,q3]at e;unfold bo B8 at e;omega
 ·have:=A6r hl a4;rw[e,q5]at this;cases this
end
section
variable {E:Env Ty den}{B:Bs}{g:Gh}{s:St Ty den}{a:Act}{w:World}
variable {P:Bi}{R:Type}{o:Oper}{k:Ent Ty den→St Ty den→Option R}{r:R}{next:Act→World→Prop}{Q:Exit→Act→World→Prop}
theorem C5p(hU:E.U.Ok){Bc:Bs}{g' g1:Gh}{ent:Ent Ty den}{v0:Value}{w':World}(hp:Post E.U Bc g' ent v0 w')(hr:Rel E.U B g1 s a w')(aS:g1.wm=g'.wm)
  (hB:∀ b,Bc.w.heap.size≤b∨Bc.M b→B.w.heap.size≤b∨B.M b){kk d j:Nat}(cn:W2 Bc g' g1 ent none (fun c=>c<bo (B8 kk) j) s)
  {lf:Leaf Ty den}{v:Value}(aq:LRep E.U w' g' lf v)(hc:∀ c,lf.has c=true→ent.has c=true)(hd:mem d s.live=true∧g1.G d=g'.G (B8 kk)):
  ∃ g2,Rel E.U B g2 (P7 kk d (bo (B8 kk) j) (bo d j) s lf).2 a w'∧g2.wm=g'.wm∧LRep E.U w' g2 (P7 kk d (bo (B8 kk) j) (bo d j) s lf).1 v∧W2 Bc g' g2 ent none (fun c=>c<bo (B8 kk) (j+1)) (P7 kk d (bo (B8 kk) j) (bo d j) s lf).2∧
   (∀ e,mem e s.live=true→g2.G e=g1.G e∧g2.Gs e=g1.Gs e∧mem e (P7 kk d (bo (B8 kk) j) (bo d j) s lf).2.live=true)∧(∀ e,(P7 kk d (bo (B8 kk) j) (bo d j) s lf).1.has e=true→mem e (P7 kk d (bo (B8 kk) j) (bo d j) s lf).2.live=true):=by
 have bJ:∀ c,c<bo (B8 kk) j→c<bo (B8 kk) (j+1):=fun c h=>by unfold bo at*;omega
 have keep:∀{lf':Leaf Ty den},LRep E.U w' g1 lf' v→(∀ e,lf'.has e=true→mem e s.live=true)→P7 kk d (bo (B8 kk) j) (bo d j) s lf=(lf',s)→
   ∃ g2,Rel E.U B g2 (P7 kk d (bo (B8 kk) j) (bo d j) s lf).2 a w'∧g2.wm=g'.wm∧LRep E.U w' g2 (P7 kk d (bo (B8 kk) j) (bo d j) s lf).1 v∧W2 Bc g' g2 ent none (fun c=>c<bo (B8 kk) (j+1)) (P7 kk d (bo (B8 kk) j) (bo d j) s lf).2∧
   (∀ e,mem e s.live=true→g2.G e=g1.G e∧g2.Gs e=g1.Gs e∧mem e (P7 kk d (bo (B8 kk) j) (bo d j) s lf).2.live=true)∧(∀ e,(P7 kk d (bo (B8 kk) j) (bo d j) s lf).1.has e=true→mem e (P7 kk d (bo (B8 kk) j) (bo d j) s lf).2.live=true):=by
  intro lf' hl cP he;rw[he];refine⟨g1,hr,aS,hl,fun e he=>?_,fun e he=>⟨rfl,rfl,he⟩,cP⟩;rcases cn e he with h1|⟨c',h1,h2,h3,h4⟩
  ·exact .inl h1
  ·exact .inr ⟨c',h1,bJ _ h2,h3,h4⟩
 have plain:∀{lf:Leaf Ty den}{v:Value},LRep E.U w' g' lf v→(∀ e,lf.has e=false)→LRep E.U w' g1 lf v:=fun{lf v} h h2=>⟨by rw[aS];exact h.1,fun t l d he=>by(subst he;have:=h2 d;simp[Leaf.has,H4]at this),fun d o he=>by(subst he;have:=h2 d;simp[Leaf.has,H4]at this)⟩;cases lf with
 |sl t l x=>
  cases x with
  |none=>exact keep (plain aq fun _=>rfl) (fun e he=>by simp[Leaf.has]at he) rfl
  |some e=>
   by_cases cB:e=bo (B8 kk) j
   ·subst cB;simp only[P7,H4,cond_true];exact A90 (c:=bo (B8 kk) j) hU hp hr aS hB cn bJ aq (hc _ (by simp[Leaf.has])) (by unfold bo;omega) (fun _ _ _ c' h1 _=>by omega) (fun h=>by unfold bo at h;omega)
   ·refine keep (lf':=.sl t l none) ⟨by rw[aS];exact aq.1.own none,fun _ _ _ he=>by(simp at he),fun _ _ he=>by(cases he)⟩ (fun e he=>by simp[Leaf.has]at he) ?_;simp only[P7,L2 cB,cond_false]
 |ptr e o=>
  cases dx:Ai e (B8 kk)&&Ai o C6 with
  |false=>exact keep (lf':=.any) (LRep.any _) (fun e he=>by simp[Leaf.has]at he) (by simp only[P7,dx,cond_false])
  |true=>
   simp only[Bl]at dx;have e1:=(F6 _ _).1 dx.1;have e2:o=C6:=(F6 _ _).1 dx.2;subst e2;subst e1;obtain⟨b,n,h1,h2⟩:=aq.2.2 _ _ rfl;obtain⟨p,xu⟩:=h2.ptr;refine keep (lf':=.ptr d C6) ⟨by rw[xu];exact .ptr _ _ _,fun _ _ _ he=>by(cases he),fun d' o' he=>?_⟩ (fun e he=>?_) (by simp only[P7,H4,dx.2,Hj,cond_true])
   ·cases he;exact⟨b,n,hd.2.trans h1,h2⟩
   ·simp only[Leaf.has]at he;have:=(F6 _ _).1 he;subst this;exact hd.1
 |any=>exact keep (plain aq fun _=>rfl) (fun e he=>by simp[Leaf.has]at he) rfl
 |int k0 n=>exact keep (plain aq fun _=>rfl) (fun e he=>by simp[Leaf.has]at he) rfl
 |bool b=>exact keep (plain aq fun _=>rfl) (fun e he=>by simp[Leaf.has]at he) rfl
 |str c=>exact keep (plain aq fun _=>rfl) (fun e he=>by simp[Leaf.has]at he) rfl
 |elem t x off=>exact keep (plain aq fun _=>rfl) (fun e he=>by simp[Leaf.has]at he) rfl
 |agg t x=>exact keep (plain aq fun _=>rfl) (fun e he=>by simp[Leaf.has]at he) rfl
 |ifc T t x=>exact keep (plain aq fun _=>rfl) (fun e he=>by simp[Leaf.has]at he) rfl
 |one1 t x=>exact keep (plain aq fun _=>rfl) (fun e he=>by simp[Leaf.has]at he) rfl
 |val v1=>exact keep (plain aq fun _=>rfl) (fun e he=>by simp[Leaf.has]at he) rfl
theorem LsRep.keep{g1 g2:Gh}{U:UO Ty den}(hw:g2.wm=g1.wm):∀{ls:List (Leaf Ty den)}{vs:List Value},LsRep U w g1 ls vs→(∀ lf∈ls,∀ e,lf.has e=true→g2.G e=g1.G e∧g2.Gs e=g1.Gs e)→LsRep U w g2 ls vs
 |[],[],_,_=>trivial
 |_::_,_::_,h,hk=>⟨h.1.keep hw (hk _ (by simp)),LsRep.keep hw h.2 fun lf hl=>hk lf (by simp[hl])⟩
theorem B5K(hU:E.U.Ok){Bc:Bs}{g':Gh}{ent:Ent Ty den}{v0:Value}{w':World}(hp:Post E.U Bc g' ent v0 w')(hB:∀ b,Bc.w.heap.size≤b∨Bc.M b→B.w.heap.size≤b∨B.M b){kk d:Nat}:
  ∀(ls:List (Leaf Ty den))(vs:List Value)(j:Nat)(s:St Ty den)(g1:Gh),Rel E.U B g1 s a w'→g1.wm=g'.wm→W2 Bc g' g1 ent none (fun c=>c<bo (B8 kk) j) s→LsRep E.U w' g' ls vs→(∀ lf∈ls,∀ c,lf.has c=true→ent.has c=true)→
   mem d s.live=true→g1.G d=g'.G (B8 kk)→
  ∃ g2,Rel E.U B g2 (unC kk d j s ls).2 a w'∧g2.wm=g'.wm∧LsRep E.U w' g2 (unC kk d j s ls).1 vs∧W2 Bc g' g2 ent none (fun c=>c<bo (B8 kk) (j+ls.length)) (unC kk d j s ls).2∧
   (∀ e,mem e s.live=true→g2.G e=g1.G e∧g2.Gs e=g1.Gs e∧mem e (unC kk d j s ls).2.live=true)∧(unC kk d j s ls).1.length=ls.length
 |[],[],j,s,g1,hr,aS,cn,_,_,_,_=>⟨g1,hr,aS,trivial,cn,fun _ h=>⟨rfl,rfl,h⟩,rfl⟩
 |lf::ls,v::vs,j,s,g1,hr,aS,cn,aq,hc,hd,hG=>by
  obtain⟨g2,h1,h2,h3,h4,h5,h6⟩:=C5p hU hp hr aS hB cn aq.1 (hc lf (by simp)) ⟨hd,hG⟩;obtain⟨g3,k1,k2,k3,k4,k5,k6⟩:=B5K hU hp hB ls vs (j+1) _ g2 h1 h2 h4 aq.2 (fun l hl=>hc l (by simp[hl])) (h5 d hd).2.2 ((h5 d hd).1.trans hG);have e1:(unC kk d j s (lf::ls)).1=(P7 kk d (bo (B8 kk) j) (bo d j) s lf).1::(unC kk d (j+1) (P7 kk d (bo (B8 kk) j) (bo d j) s lf).2 ls).1:=rfl;have e2:(unC kk d j s (lf::ls)).2=(unC kk d (j+1) (P7 kk d (bo (B8 kk) j) (bo d j) s lf).2 ls).2:=rfl;rw[e1,e2];refine⟨g3,k1,k2,⟨h3.keep (k2.trans h2.symm) fun e he=>⟨(k5 e (h6 e he)).1,(k5 e (h6 e he)).2.1⟩,k3⟩,?_,fun e he=>?_,by simp[k6]⟩
  ·rw[show j+(lf::ls).length=j+1+ls.length by simp only[Bw];omega];exact k4
  ·obtain⟨e1,e2,e3⟩:=h5 e he;obtain⟨f1,f2,f3⟩:=k5 e e3;exact⟨f1.trans e1,f2.trans e2,f3⟩
theorem LsRep.split{U:UO Ty den}{g:Gh}:∀{ls bh:List (Leaf Ty den)}{vs o6:List Value},LsRep U w g (ls++bh) (vs++o6)→ls.length=vs.length→LsRep U w g ls vs∧LsRep U w g bh o6
 |[],_,[],_,h,_=>⟨trivial,h⟩
 |_::_,_,_::_,_,h,hl=>by
  obtain⟨h1,h2⟩:=LsRep.split h.2 (by simpa using hl);exact⟨⟨h.1,h1⟩,h2⟩
 |[],_,_::_,_,_,hl=>by simp at hl
 |_::_,_,[],_,_,hl=>by simp at hl
theorem A94{U:UO Ty den}{g:Gh}{d b:Nat}{us:List Value}{ls:List (Leaf Ty den)}(hG:g.G d=.slice (some ⟨b,0,none⟩) 0 us.length)(hl:us.length=ls.length)(ck:0<us.length)(hs:g.Gs d=1)
  (hc:∀(j:Nat) u,us[j]?=some u→w.cell? ⟨b,j,none⟩=some u∧u.oneCell'=true∧u.cells= #[u])(hr:LsRep U w g ls us):BoxOk U w g d ls:=by
 refine⟨b,by rw[hG,hl],by omega,hs,fun j lf hj=>?_⟩;obtain⟨u,h1,h2⟩:=hr.get hj;obtain⟨c1,c2,c3⟩:=hc j u h1;exact⟨u,c1,c2,c3,h2⟩
theorem B6s(hU:E.U.Ok){Bc:Bs}{g':Gh}{ent:Ent Ty den}{v0:Value}{w':World}(hp:Post E.U Bc g' ent v0 w')(hB:∀ b,Bc.w.heap.size≤b∨Bc.M b→B.w.heap.size≤b∨B.M b):
  ∀(ds:List Nat)(cs:List (List (Leaf Ty den)))(bD:List (Nat×List Value))(kk:Nat)(s:St Ty den)(g1:Gh),Rel E.U B g1 s a w'→g1.wm=g'.wm→Z7 w' g' (O5 kk ds.length) cs bD→LsRep E.U w' g' (E0 kk cs) (R0 bD)→
   A5Z cs=true→(∀ lf∈E0 kk cs,∀ c,lf.has c=true→ent.has c=true)→W2 Bc g' g1 ent none (fun c=>c<bo (B8 kk) 0) s→(∀ i d,ds[i]?=some d→mem d s.live=true∧g1.G d=g'.G (B8 (kk+i))∧g1.Gs d=1)→
  ∃ g2,Rel E.U B g2 (unB kk s ds cs) a w'∧g2.wm=g'.wm∧(∀ e,mem e s.live=true→g2.G e=g1.G e∧g2.Gs e=g1.Gs e)
 |[],[],[],kk,s,g1,hr,aS,_,_,_,_,_,_=>⟨g1,hr,aS,fun _ _=>⟨rfl,rfl⟩⟩
 |d::ds,c::cs,(b,us)::bD,kk,s,g1,hr,aS,cM,aq,fF,db,cn,jG=>by
  obtain⟨⟨b1,b2,b3,b4,b5⟩,pP⟩:=cM;simp only[A5Z,Bl,Bu]at fF;obtain⟨aO,aU,cf⟩:=jG 0 d rfl;obtain⟨gn,dp⟩:=LsRep.split aq.2 b2.symm;obtain⟨g2,h1,h2,h3,h4,h5,h6⟩:=B5K hU hp hB (kk:=kk) (d:=d) c us 0 s g1 hr aS cn gn (fun lf hl=>db lf (by simp[E0,hl])) aO aU;obtain⟨f1,f2,f3⟩:=h5 d aO;have xv:BoxOk E.U w' g2 d (unC kk d 0 s c).1:=A94 (by rw[f1,aU];exact b1) (by rw[h6,b2]) b3 (by rw[f2,cf]) b5 h3;have h7:=h1.setBx xv f3;obtain⟨g3,k1,k2,k3⟩:=B6s hU hp hB ds cs bD (kk+1) _ g2 h7 h2 pP dp fF.2 (fun lf hl=>db lf (by simp[E0,hl])) (fun e he=>by
    rcases h4 e he with q1|⟨c',q1,q2,q3,q4⟩
    ·exact .inl q1
    ·refine .inr ⟨c',q1,?_,q3,q4⟩;have:=fF.1;unfold bo B8 at q2 ⊢;omega) (fun i d' dY=>by
    obtain⟨e1,e2,e3⟩:=jG (i+1) d' (by simpa using dY);obtain⟨q1,q2,q3⟩:=h5 d' e1;exact⟨q3,by rw[q1,e2];congr 2;omega,by rw[q2,e3]⟩)
  refine⟨g3,k1,k2,fun e he=>?_⟩;obtain⟨q1,q2,q3⟩:=h5 e he;obtain⟨r1,r2⟩:=k3 e q3;exact⟨r1.trans q1,r2.trans q2⟩
 |[],[],_::_,_,_,_,_,_,h,_,_,_,_,_=>h.elim
 |[],_::_,_,_,_,_,_,_,h,_,_,_,_,_=>by cases ‹List (Nat×List Value)› <;>exact h.elim
 |_::_,[],_,_,_,_,_,_,h,_,_,_,_,_=>by cases ‹List (Nat×List Value)› <;>exact h.elim
 |_::_,_::_,[],_,_,_,_,_,h,_,_,_,_,_=>h.elim
theorem B0Y(hr:Rel E.U B g s a w):∀ ds,Rel E.U B g (W5 s ds) a w
 |[]=>hr
 |d::ds=>(B0Y hr ds).noBx d
theorem A19:∀ ds:List Nat,(W5 s ds).live=s.live
 |[]=>rfl
 |d::ds=>A19 ds
theorem B2Q{d:Nat}:∀{ds:List Nat},(∃ i:Nat,ds[i]?=some d)→(W5 s ds).get (bxi d)=.one .any
 |[],⟨i,h⟩=>by simp at h
 |x::ds,⟨i,h⟩=>by
  simp only[W5];rw[K3];by_cases hx:bxi x=bxi d
  ·rw[if_pos hx]
  ·rw[if_neg hx];cases i with
   |zero=>simp at h;subst h;exact absurd rfl hx
   |succ i=>exact B2Q ⟨i,by simpa using h⟩
theorem B1a{ls:List (Leaf Ty den)}:∀{ps ds:List Nat},A1h ls ps=some ds→ds.length=ps.length
 |[],ds,h=>by simp only[A1h,Be]at h;subst h;rfl
 |p::ps,ds,h=>by
  simp only[A1h]at h;split at h
  ·rename_i d vH _ jT;simp only[Be]at h;subst h;simp[B1a jT]
  ·cases h
theorem B0P{U:UO Ty den}{NT:List (Nat×Nat)}(hN:OneOne NT){ls:List (Leaf Ty den)}{vs:List Value}(bm:LsRep U w g ls vs):∀(ps:List Nat)(kk:Nat)(ds:List Nat),A1h ls ps=some ds→(∀ p∈K6 kk ds,p∈NT)→
  LsRep U w (N4 g NT) (A3Q (G4 ls) kk ps) vs
 |[],kk,ds,h,_=>LsRep.closed_any (g:=g) (g':=N4 g NT) rfl (LsRep.close bm)
 |p::ps,kk,ds,h,bZ=>by
  simp only[A1h]at h;split at h
  ·rename_i d vH hp jT;simp only[Be]at h;subst h;refine(B0P hN bm ps (kk+1) vH jT fun p hp=>bZ p (by simp[K6,hp])).set p (.ptr (B8 kk) 0) fun v hv=>?_;have iN:ls[p]?=some (.ptr d 0):=by
    have au:=bm.length;have:p<ls.length:=by rw[au];exact J7 hv
    rw[Fi,Bj this]at hp;rw[Bj this];simpa using hp
   obtain⟨v',e1,e2⟩:=bm.get iN;rw[hv]at e1;cases e1;obtain⟨b,n,e3,e4⟩:=e2.2.2 d 0 rfl;obtain⟨e5,_⟩:=A2Y (g:=g) hN (bZ (B8 kk,d) (by simp[K6]));exact⟨by rw[e4.at (by decide)];exact .ptr _ _ _,fun _ _ _ he=>by(cases he),fun d' o' he=>by(cases he;exact⟨b,n,e5.trans e3,e4⟩)⟩
  ·cases h
theorem B1U{ls:List (Leaf Ty den)}{d:Nat}:∀(ps:List Nat)(kk:Nat){lf:Leaf Ty den},lf∈A3Q (G4 ls) kk ps→lf.has d=true→∃ i,kk≤i∧i<kk+ps.length∧d=B8 i
 |[],kk,lf,h,hd=>by
  obtain⟨l0,rfl⟩:=A6V h;rw[A4t]at hd;cases hd
 |p::ps,kk,lf,h,hd=>by
  rcases Gt h with h|rfl
  ·obtain⟨i,h1,h2,h3⟩:=B1U ps (kk+1) h hd;exact⟨i,by omega,by simp only[Bw];omega,h3⟩
  ·simp only[Leaf.has]at hd;have:=(F6 _ _).1 hd;exact⟨kk,Bh _,by simp,this.symm⟩
theorem A5B:∀(cs:List (List (Leaf Ty den)))(kk i:Nat),i<cs.length→M7 (E0 kk cs) (B8 (kk+i))
 |[],kk,i,h=>by simp at h
 |c::cs,kk,0,h=>⟨.ptr (B8 kk) 0,by simp[E0],by simp[Leaf.has,H4]⟩
 |c::cs,kk,i+1,h=>by
  obtain⟨lf,h1,h2⟩:=A5B cs (kk+1) i (by simpa using h);exact⟨lf,by simp[E0,h1],by rw[show kk+(i+1)=kk+1+i by omega];exact h2⟩
theorem A8G{NT:List (Nat×Nat)}(hN:OneOne NT):∀(ds:List Nat)(cs:List (List (Leaf Ty den)))(bD:List (Nat×List Value))(kk:Nat),Z7 w g ds cs bD→(∀ p∈K6 kk ds,p∈NT)→Z7 w (N4 g NT) (O5 kk cs.length) cs bD
 |[],[],[],kk,_,_=>trivial
 |d::ds,c::cs,(b,us)::bD,kk,h,bZ=>by
  obtain⟨⟨b1,b2,b3,b4,b5⟩,h'⟩:=h;obtain⟨e1,e2⟩:=A2Y (g:=g) hN (bZ (B8 kk,d) (by simp[K6]));exact⟨⟨e1.trans b1,b2,b3,e2.trans b4,b5⟩,A8G hN ds cs bD (kk+1) h' fun p hp=>bZ p (by simp[K6,hp])⟩
 |[],[],_::_,_,h,_=>h.elim
 |[],_::_,bD,_,h,_=>by cases bD<;>exact h.elim
 |_::_,[],bD,_,h,_=>by cases bD<;>exact h.elim
 |_::_,_::_,[],_,h,_=>h.elim
theorem A52:∀{ds:List Nat}{cs:List (List (Leaf Ty den))}{bD:List (Nat×List Value)},Z7 w g ds cs bD→∀{i d:Nat},ds[i]?=some d→∃(b:Nat)(us:List Value),bD[i]?=some (b,us)∧g.G d=.slice (some ⟨b,0,none⟩) 0 us.length∧g.Gs d=1
 |[],[],[],_,i,d,h=>by simp at h
 |x::ds,c::cs,(b,us)::bD,hb,0,d,h=>by simp at h;subst h;exact⟨b,us,rfl,hb.1.1,hb.1.2.2.2.1⟩
 |x::ds,c::cs,(b,us)::bD,hb,i+1,d,h=>by simpa using A52 hb.2 (i:=i) (by simpa using h)
 |[],[],_::_,h,_,_,_=>h.elim
 |[],_::_,bD,h,_,_,_=>by cases bD<;>exact h.elim
 |_::_,[],bD,h,_,_,_=>by cases bD<;>exact h.elim
 |_::_,_::_,[],h,_,_,_=>h.elim
theorem A6j:∀(n kk i:Nat),i<n→(O5 kk n)[i]?=some (B8 (kk+i))
 |0,kk,i,h=>by omega
 |n+1,kk,0,h=>by simp[O5]
 |n+1,kk,i+1,h=>by
  simp only[O5,Fh];rw[A6j n (kk+1) i (by omega)]
  congr 2;omega
theorem B8a(hU:E.U.Ok){S:List (Leaf Ty den)→List (List (Leaf Ty den))→Option (List (Leaf Ty den)×List (List (Leaf Ty den)))}{ls:List (Leaf Ty den)}{vs:List Value}(bm:LsRep E.U w g ls vs)
  (hS:∀ bh cs rs av,S bh cs=some (rs,av)→∀ g1:Gh,g1.wm=g.wm→LsRep E.U w g1 bh vs→∃ f jb jc,(Bb a.eval o).run P w=.ok (.enter f jc.toArray) w∧LsRep E.U w g1 jb jc∧(∀ lf∈jb,∀ d,lf.has d=true→M7 bh d)∧X9 P E.U (fun w1 m1=>Ext B.w B.wm w1 m1) f jb cs rs av)
  {ps:List Nat}(h:A5l S ps ls o.dst s k=some r)
  (hr:Rel E.U B g s a w)(hd:∀ i,o.dst=some i→i<a.tmps.size∧B.np≤i)(hn:K0 E B o a k r next):o.wp P a w next Q:=by
 unfold A5l at h;split at h
 case h_2=>cases h
 rename_i ds jG;obtain⟨fC,h⟩:=C0 h;simp only[Bl,Bu]at fC;obtain⟨lN,aB⟩:=fC;split at h
 case h_2=>cases h
 rename_i cs s1 vq;obtain⟨li,h⟩:=C0 h;split at h
 case h_2=>cases h
 rename_i rs av sT;obtain⟨dx,h⟩:=C0 h;simp only[Bl,Bu]at dx;obtain⟨cm,sU,fF⟩:=dx;have cm:=(F6 _ _).1 cm;obtain⟨xw,h⟩:=C0 h;obtain⟨bD,N,r1,rp,bd,one,sV,gp,lO⟩:=B06 hU ds 0 s cs s1 vq hr;have aF:=B6K (s:=s) lN aB one sV li;generalize o8:K6 0 ds++N=NT at rp aF;have bZ:∀ p∈K6 0 ds,p∈NT:=fun p hp=>by rw[←o8];exact List.mem_append_left _ hp
 have xx:∀ c d,(c,d)∈NT→mem d s.live=true:=fun c d mF=>by
  rw[←o8,Ck]at mF;rcases mF with h1|h1
  ·obtain⟨i,_,_,_,h4⟩:=A2r ds 0 _ h1;exact gp _ (A6r li h4)
  ·exact(sV _ h1).2.1
 have db:∀ c,M7 (E0 0 cs) c→∃ d,(c,d)∈NT∧mem d s.live=true∧(N4 g NT).G c=g.G d∧(N4 g NT).Gs c=g.Gs d:=fun c ⟨lf,h1,h2⟩=>by
  obtain⟨d,h3⟩:=rp.names lf h1 c h2;obtain⟨e1,e2⟩:=A2Y (g:=g) aF h3;exact⟨d,h3,xx c d h3,e1,e2⟩
 have pQ:∀ e b,mem e s1.live=true→spare (g.G e)=some b→(∃ d,M7 (E0 0 cs) d∧spare ((N4 g NT).G d)=some b)→∃ i,ds[i]?=some e:=fun e b he hs ⟨c,h1,h2⟩=>by
  obtain⟨d,h3,h4,h5,_⟩:=db c h1;rw[h5]at h2;have lP:e=d:=by
   by_cases lP:e=d
   ·exact lP
   ·exact absurd h2 (hr.disj e d b (gp e he) h4 lP hs)
  subst lP;rw[←o8,Ck]at h3;rcases h3 with h3|h3
  ·obtain⟨i,_,_,_,h6⟩:=A2r ds 0 _ h3;exact⟨_,h6⟩
  ·have:=(sV _ h3).2.2;rw[he]at this;cases this
 obtain⟨f,jb,jc,fY,sW,sX,jQ⟩:=hS _ _ _ _ sT (N4 g NT) rfl (B0P aF bm ps 0 ds jG bZ);have hc:=jQ w (N4 g NT) jc bD hr.ext hr.zero sW (rp.out aF) (A8G aF ds cs bD 0 bd bZ)
  (fun c iY=>by obtain⟨d,_,h2,h3,h4⟩:=db c iY;rw[h3,h4];exact hr.tip d h2)
  (fun c c' b iY nE az hs=>by
   obtain⟨d,h1,h2,h3,h4⟩:=db c iY;obtain⟨d',nF,fL,jU,pS⟩:=db c' nE;rw[h3]at hs;rw[jU];exact hr.disj d d' b h2 fL (fun e=>az ((aF c d c' d' h1 nF).2 e)) hs)
  (fun lf cz d nD=>by
   obtain⟨zZ,sY,cf⟩:=sX lf cz d nD;obtain⟨i,_,h2,rfl⟩:=B1U ps 0 sY cf;have:=A5B cs 0 i (by rw[lO,B1a jG];omega);rw[Bz]at this;exact this)
 unfold Dj;rw[fY,Eb];refine hc.mono fun e w' eT=>?_;obtain⟨g',rv,dc,rfl,lg,hp,jV,ic⟩:=eT;show next (a.put o.dst (S9 rv)) w';have jH:∀ i d,ds[i]?=some d→(Post.tip hp (B8 i))=(Post.tip hp (B8 i))∧g'.G (B8 i)=g.G d∧g'.Gs (B8 i)=1∧g.Gs d=1∧(Ent.tup (rs++E0 0 av)).has (B8 i)=true:=fun i d hi=>by
  have jK:=J7 hi;obtain⟨b,us,h1,h2,h3⟩:=A52 bd hi;have cj:=A6j cs.length 0 i (by omega);rw[Bz]at cj;obtain⟨b',gq,nF,fL,jU⟩:=A52 jV cj;have h4:(dc.map (fun p=>(p.1,p.2.length)))[i]?=(bD.map (fun p=>(p.1,p.2.length)))[i]? :=by rw[ic]
  rw[Bo,Bo,h1,nF]at h4;simp only[Cq,Be,Ci]at h4;refine⟨rfl,by rw[fL,h2,h4.1,h4.2],jU,h3,?_⟩;obtain⟨lf,q1,q2⟩:=A5B av 0 i (by omega);rw[Bz]at q2;simp only[Ent.has,Dv];exact⟨lf,by simp[q1],q2⟩
 have cO:=B0Y r1 ds;have eU:=cO.world hU (w':=w') (wm':=g'.wm) hp.os hp.tape hp.output hp.size hp.ext (fun b=>∃ d,M7 (E0 0 cs) d∧spare ((N4 g NT).G d)=some b)
  (fun b ⟨c,h1,h2⟩=>by
   obtain⟨d,_,h4,h5,_⟩:=db c h1;rw[h5]at h2;exact A2U (hr.tip d h4) h2)
  (fun e b he hs=>by
   rw[A19]at he;by_cases hM:∃ d,M7 (E0 0 cs) d∧spare ((N4 g NT).G d)=some b
   ·right
    obtain⟨i,hi⟩:=pQ e b he hs hM;obtain⟨_,q1,q2,q3,q4⟩:=jH i e hi;have ht:=hp.tip (B8 i) q4;rw[q1,q2]at ht;refine⟨by rw[q3];exact ht,fun j l hj=>?_⟩;have h9:=(cO.bxl j e l hj).2;have h8:=B2Q (s:=s1) ⟨i,hi⟩;rw[show j=bxi e from h9,h8]at hj;cases hj
   ·exact .inl hM)
  (fun b ⟨c,h1,h2⟩=>by
   obtain⟨d,_,h4,h5,_⟩:=db c h1;rw[h5]at h2;exact hr.mine d b h4 h2)
  (fun b hb hM=>hp.frame b hb hM) hp.zero
 have vI:∀ b,w.heap.size≤b∨(∃ d,M7 (E0 0 cs) d∧spare ((N4 g NT).G d)=some b)→B.w.heap.size≤b∨B.M b:=fun b hb=>by
  rcases hb with hb|⟨c,h1,h2⟩
  ·exact .inl (Cw hr.size hb)
  ·obtain⟨d,_,h4,h5,_⟩:=db c h1;rw[h5]at h2;exact hr.mine d b h4 h2
 obtain⟨nG,nH,co⟩:=hp.rep;have nH:rv++R0 dc=nG:=by
  have:=Fz nH;simpa using this
 subst nH;obtain⟨gn,dp⟩:=LsRep.split co lg;have eA:∀(l0:List (Leaf Ty den)),(∀ lf∈l0,lf∈rs++E0 0 av)→∀ lf∈l0,∀ c,lf.has c=true→(Ent.tup (rs++E0 0 av)).has c=true:=fun l0 di lf hl c hc=>by
  simp only[Ent.has,Dv];exact⟨lf,di lf hl,hc⟩
 have pT:∀ c,(∃ i,i<ds.length∧c=B8 i)→900000≤c∧c<1000000:=fun c ⟨i,h1,h2⟩=>by rw[h2];unfold B8;omega
 have cn:W2 ⟨w,g.wm,fun b=>∃ d,M7 (E0 0 cs) d∧spare ((N4 g NT).G d)=some b,0,fun _=>undef⟩ g' {g with wm:=g'.wm} (Ent.tup (rs++E0 0 av)) none (fun c=>c≤0∨∃ i,i<ds.length∧c=B8 i) (W5 s1 ds):=fun e he=>by
  rw[A19]at he;by_cases fY:∃ i:Nat,ds[i]?=some e
  ·obtain⟨i,hi⟩:=fY;obtain⟨_,q1,q2,q3,q4⟩:=jH i e hi;exact .inr ⟨B8 i,q4,.inr ⟨i,J7 hi,rfl⟩,q1.symm,fun h0=>by unfold B8 at h0;omega⟩
  ·left
   intro b hb;refine⟨?_,fun hM=>fY (pQ e b he hb hM)⟩;obtain⟨_,_,_,gk⟩:=A2U (hr.tip e (gp e he)) hb;exact(Cf.1 gk).1
 obtain⟨g2,l1,l2,l3,l4,l5,l6⟩:=B2y (dst:=o.dst) (p:=none) (X:=fun c=>∃ i,i<ds.length∧c=B8 i) hU hp vI rs rv 0 (W5 s1 ds) {g with wm:=g'.wm} eU rfl
  (fun c hc=>by have:=pT c hc;omega) cn gn (eA rs fun lf hl=>by simp[hl])
 obtain⟨g3,m1,m2,m3⟩:=B6s hU hp vI ds av dc 0 _ g2 l1 l2 (by
   have:O5 0 ds.length=O5 0 cs.length:=by rw[lO]
   rw[this];exact jV) dp fF (eA _ fun lf hl=>by simp[hl]) (fun e he=>by
    rcases l6 e he with q1|⟨c',q1,q2,q3,q4⟩
    ·exact .inl q1
    ·refine .inr ⟨c',q1,?_,q3,q4⟩;have:c'<1000000:=by
      rcases q2 with q2|q2
      ·omega
      ·exact(pT _ q2).2
     unfold bo B8;omega) (fun i d hi=>by
    obtain⟨_,q1,q2,q3,q4⟩:=jH i d hi;obtain⟨e1,e2,e3⟩:=l4 d (by rw[A19];exact A6r li hi);exact⟨e3,by rw[e1,Bz,q1],by rw[e2];exact q3⟩)
 have ew:LsRep E.U w' g3 (S1 o.dst none 0 (W5 s1 ds) rs).1 rv:=l3.keep (m2.trans l2.symm) fun lf hl e he=>m3 e (l5 lf hl e he);refine hn _ _ _ _ h (REL.setO m1 (e:=A2S _) ?_ ?_ _ hd)
 ·generalize (S1 o.dst none 0 (W5 s1 ds) rs).1=bh at ew;have au:=ew.length
  match bh,rv,ew,au with
  |[],[],_,_=>exact⟨[],by simp[S9],trivial⟩
  |[l],[v],hf,_=>exact hf.1
  |l::l2::bh,v::v2::vs,hf,_=>exact⟨v::v2::vs,by simp[S9],hf⟩
  |[],_::_,_,hl=>simp at hl
  |[_],[],_,hl=>simp at hl
  |[_],_::_::_,_,hl=>simp at hl
  |_::_::_,[],_,hl=>simp at hl
  |_::_::_,[_],_,hl=>simp at hl
 ·generalize (S1 o.dst none 0 (W5 s1 ds) rs).1=bh
  match bh with
  |[]=>rfl
  |[l]=>rfl
  |_::_::_=>rfl
theorem C38(hU:E.U.Ok)(hS:∀ f ls cs rs av,E.TB f ls cs=some (rs,av)→(∀ args w,(Cp f args).run P w=.ok (.enter f args) w)∧X9 P E.U (fun w1 m1=>Ext B.w B.wm w1 m1) f ls cs rs av)
  {c:Call}{f:Bm}{ps:List Nat}(ak:o.op=.call c)(aG:c.callee=.value (.func f))(h:B7m E f ps c.argTypes.toList c.args.toList o.dst s k=some r)
  (hr:Rel E.U B g s a w)(hd:∀ i,o.dst=some i→i<a.tmps.size∧B.np≤i)(hn:K0 E B o a k r next):o.wp P a w next Q:=by
 refine B8a hU (A5h hr c.argTypes.toList c.args.toList) (fun bh cs rs av sT g1 _ hl=>?_) h hr hd hn;obtain⟨aK,jQ⟩:=hS f _ _ _ _ sT;refine⟨f,bh,_,?_,hl,fun lf cz d hd=>⟨lf,cz,hd⟩,jQ⟩;simp[Bb,ak,Cm,aG,Dh,Fk,Co,aK];apply Dg;simp
def A6S(P:Bi)(U:UO Ty den)(B:Bs)(nm:String)(ls:List (Leaf Ty den))(cs:List (List (Leaf Ty den)))(rs:List (Leaf Ty den))(av:List (List (Leaf Ty den))):Prop:=
 ∀(w:World)(g:Gh)(vs:List Value),LsRep U w g ls vs→∃ f jb jc,(Co (.fn (.method nm) #[]) vs.toArray).run P w=.ok (.enter f jc.toArray) w∧LsRep U w g jb jc∧(∀ lf∈jb,∀ d,lf.has d=true→M7 ls d)∧X9 P U (fun w1 m1=>Ext B.w B.wm w1 m1) f jb cs rs av
theorem C59(hU:E.U.Ok)(hS:∀ nm ls cs rs av,E.TI nm ls cs=some (rs,av)→A6S P E.U B nm ls cs rs av)
  {c:Call}{x:Bd}{nm:String}(ak:o.op=.call c)(aG:c.callee=.invoke x nm)(h:A5l (E.TI nm) (E.bi nm) (opl E s 0 x::R2 E s c.argTypes.toList c.args.toList) o.dst s k=some r)
  (hr:Rel E.U B g s a w)(hd:∀ i,o.dst=some i→i<a.tmps.size∧B.np≤i)(hn:K0 E B o a k r next):o.wp P a w next Q:=by
 refine B8a hU (ls:=opl E s 0 x::R2 E s c.argTypes.toList c.args.toList) (vs:=a.eval x::c.args.toList.map a.eval) ⟨J1 hr 0 x,A5h hr c.argTypes.toList c.args.toList⟩ (fun bh cs rs av xy g1 _ hl=>?_) h hr hd hn;obtain⟨f,jb,jc,h1,h2,h3,h4⟩:=hS nm _ _ _ _ xy w g1 _ hl;refine⟨f,jb,jc,?_,h2,h3,h4⟩;have cd:(#[a.eval x]++c.args.map a.eval)=(a.eval x::c.args.toList.map a.eval).toArray:=by
  apply Dg;simp
 simp[Bb,ak,Cm,aG,cd];simpa using h1
theorem A7M:∀{ls:List (Leaf Ty den)},A3c ls=true→(∀ lf∈ls,(∀ t x c,lf≠ .sl t x (some c))∧∀ d o,lf≠ .ptr d o)
 |[],_,lf,h=>by simp at h
 |l::ls,hc,lf,h=>by
  have cS:(∀ t x c,l≠ .sl t x (some c))∧(∀ d o,l≠ .ptr d o)∧A3c ls=true:=by
   cases l with
   |sl t x o=>
    cases o with
    |none=>exact⟨fun _ _ _ e=>(by(cases e)),fun _ _ e=>(by(cases e)),hc⟩
    |some c=>cases hc
   |ptr d o=>cases hc
   |_=>exact⟨fun _ _ _ e=>(by(cases e)),fun _ _ e=>(by(cases e)),hc⟩
  simp only[Bp]at h;rcases h with rfl|h
  ·exact⟨cS.1,cS.2.1⟩
  ·exact A7M cS.2.2 lf h
theorem B9A(hr:Rel E.U B g s a w):∀(ds:List Nat)(kk:Nat)(cs:List (List (Leaf Ty den))),A1j s ds=some cs→∃ bD,Z7 w g ds cs bD∧PackRep E.U w g (K6 kk ds) (E0 kk cs) (R0 bD)∧cs.length=ds.length∧(∀(i d:Nat),ds[i]?=some d→mem d s.live=true)∧
   ∀(i d:Nat)(c:List (Leaf Ty den)),ds[i]?=some d→cs[i]?=some c→s.get (bxi d)=.bx d c∧A3c c=true
 |[],kk,cs,h=>by
  simp only[A1j,Be]at h;subst h;exact⟨[],trivial,trivial,rfl,fun i d h=>by simp at h,fun i d c h=>by simp at h⟩
 |d::ds,kk,cs,h=>by
  simp only[A1j]at h;split at h
  ·rename_i ls ek bm sZ;obtain⟨cm,h⟩:=C0 h;simp only[Be]at h;subst h;obtain⟨cM,li,aI⟩:=A5S hr bm;obtain⟨b,us,g1,g2,g3,g4,g5,g6⟩:=B7q cM;obtain⟨bD,a1,a2,a3,a4,a5⟩:=B9A hr ds (kk+1) ek sZ;have gp:∀ p∈K6 (kk+1) ds,p∈K6 kk (d::ds):=fun p hp=>by simp[K6,hp]
   have pU:∀(ls:List (Leaf Ty den))(us:List Value),(∀ lf∈ls,(∀ t x c,lf≠ .sl t x (some c))∧∀ d o,lf≠ .ptr d o)→LsRep E.U w g ls us→PackRep E.U w g (K6 kk (d::ds)) ls us:=by
    intro ls
    induction ls with
    |nil=>intro us _ h;cases us with
     |nil=>trivial
     |cons _ _=>exact h.elim
    |cons l ls ih=>
     intro us hc h;cases us with
     |nil=>exact h.elim
     |cons u us=>
      have:=hc l (by simp);exact⟨⟨h.1.1,fun t x c e=>absurd e (this.1 t x c),fun c o e=>absurd e (this.2 c o)⟩,ih us (fun lf hl=>hc lf (by simp[hl])) h.2⟩
   refine⟨(b,us)::bD,⟨⟨g1,g2,g3,g4,g5⟩,a1⟩,⟨⟨.ptr _ _ _,fun _ _ _ e=>by(cases e),fun c o e=>?_⟩,(pU ls us (A7M cm) g6).append (a2.mono gp)⟩,by simp[a3],fun i d' hi=>?_,fun i d' c hi hc=>?_⟩
   ·cases e;exact⟨d,b,_,by simp[K6],g1,.inl ⟨rfl,by decide⟩⟩
   ·cases i with
    |zero=>simp at hi;subst hi;exact li
    |succ i=>exact a4 i d' (by simpa using hi)
   ·cases i with
    |zero=>simp at hi hc;subst hi hc;exact⟨aI,cm⟩
    |succ i=>exact a5 i d' c (by simpa using hi) (by simpa using hc)
  ·cases h
theorem C9J{U:UO Ty den}{g' g2:Gh}(hw:g2.wm=g'.wm){rs:List (Leaf Ty den)}{rv:List Value}(h:LsRep U w g' rs rv):ERep U w g2 (A2S (G4 rs)) (S9 rv)∧(A2S (G4 rs)).isIter=false:=by
 have hf:=LsRep.closed_any (g':=g2) hw (LsRep.close h);have au:=hf.length;generalize G4 rs=bh at hf au
 match bh,rv,hf,au with
 |[],[],_,_=>exact⟨⟨[],by simp[S9],trivial⟩,rfl⟩
 |[l],[v],hf,_=>exact⟨hf.1,rfl⟩
 |l::l2::bh,v::v2::vs,hf,_=>exact⟨⟨v::v2::vs,by simp[S9],hf⟩,rfl⟩
 |[],_::_,_,hl=>simp at hl
 |[_],[],_,hl=>simp at hl
 |[_],_::_::_,_,hl=>simp at hl
 |_::_::_,[],_,hl=>simp at hl
 |_::_::_,[_],_,hl=>simp at hl
theorem B9p(hU:E.U.Ok)(hS:∀ f ls r,E.T f ls=some (true,r)→(∀ args w,(Cp f args).run P w=.ok (.enter f args) w)∧A1R P E.U (fun w1 m1=>Ext B.w B.wm w1 m1) f ls r)
  (hR:∀ f ls cs rs,E.TR f ls cs=some rs→(∀ args w,(Cp f args).run P w=.ok (.enter f args) w)∧X9 P E.U (fun w1 m1=>Ext B.w B.wm w1 m1) f ls cs rs cs)
  {c:Call}{f:Bm}{e:Ent Ty den}(ak:o.op=.call c)(aG:c.callee=.value (.func f))(h:A2o E f c.argTypes.toList c.args.toList s=some e)
  (hr:Rel E.U B g s a w)(hd:∀ i,o.dst=some i→i<a.tmps.size∧B.np≤i)(hn:∀ v w',REL E.U B (s.setO o.dst e) (a.put o.dst v) w'→next (a.put o.dst v) w'):o.wp P a w next Q:=by
 have bm:=A5h hr c.argTypes.toList c.args.toList;have fY:∀(aK:∀ args w,(Cp f args).run P w=.ok (.enter f args) w),(Bb a.eval o).run P w=.ok (.enter f (c.args.toList.map a.eval).toArray) w:=fun aK=>by
  simp[Bb,ak,Cm,aG,Dh,Fk,Co,aK];apply Dg;simp
 unfold A2o at h;dsimp only at h;generalize hL:R2 E s c.argTypes.toList c.args.toList=ls at h bm;split at h
 ·have eS:∀ r,E.T f (G4 ls)=some (true,r)→(∀ v w' g1 g2,g2.wm=g1.wm→ERep E.U w' g1 r v→ERep E.U w' g2 e v∧e.isIter=false)→o.wp P a w next Q:=by
   intro r iZ cm;obtain⟨aK,jQ⟩:=hS f _ _ iZ;have hc:=jQ w g (c.args.toList.map a.eval) hr.ext hr.zero (LsRep.close bm) (fun h1=>by rw[A54]at h1;cases h1) (fun lf hl d dY=>by
    obtain⟨l0,rfl⟩:=A6V hl;rw[A4t]at dY;cases dY)
   rw[A54]at hc;unfold Dj;rw[fY aK,Eb];refine hc.mono fun e' w' eT=>?_;obtain⟨v,g',rfl,hp⟩:=eT;have cJ:=hr.world hU (w':=w') (wm':=g'.wm) hp.os hp.tape hp.output hp.size hp.ext (fun _=>False) (fun b e=>e.elim) (fun _ _ _ _=>.inl fun e=>e) (fun b e=>e.elim) (fun b hb _=>hp.frame b hb (fun e=>by cases e.1)) hp.zero;obtain⟨k1,k2⟩:=cm v w' g' {g with wm:=g'.wm} rfl hp.rep;exact hn v w' (REL.setO cJ k1 k2 _ hd)
  split at h
  ·rename_i l iZ;cases h;exact eS _ iZ fun v w' g1 g2 hw he=>⟨LRep.closed (g:=g2) (by rw[hw];exact he.1),rfl⟩
  ·rename_i rr iZ;cases h;exact eS _ iZ fun v w' g1 g2 hw he=>by
    obtain⟨vs,hv,nh⟩:=he;exact⟨⟨vs,hv,LsRep.closed_any (g':=g2) hw (LsRep.close nh)⟩,rfl⟩
  ·cases h
 ·rename_i ps eu;split at h
  case h_2=>cases h
  rename_i ds jG;obtain⟨lN,h⟩:=C0 h;split at h
  case h_2=>cases h
  rename_i cs cH;split at h
  case h_2=>cases h
  rename_i rs xz;cases h;obtain⟨bD,bd,rp,lO,li,mG⟩:=B9A hr ds 0 cs cH;have aF:=B5v lN 0;generalize o8:K6 0 ds=NT at rp aF;have bZ:∀ p∈K6 0 ds,p∈NT:=fun p hp=>by rw[←o8];exact hp
  have db:∀ c,M7 (E0 0 cs) c→∃(i d:Nat),ds[i]?=some d∧(c,d)∈NT∧mem d s.live=true∧(N4 g NT).G c=g.G d∧(N4 g NT).Gs c=g.Gs d:=fun c ⟨lf,h1,h2⟩=>by
   obtain⟨d,h3⟩:=rp.names lf h1 c h2;obtain⟨e1,e2⟩:=A2Y (g:=g) aF h3;have h4:=h3;rw[←o8]at h4;obtain⟨i,_,_,_,h5⟩:=A2r ds 0 _ h4;exact⟨_,d,h5,h3,li _ d h5,e1,e2⟩
  obtain⟨aK,jQ⟩:=hR f _ _ _ xz;have hc:=jQ w (N4 g NT) (c.args.toList.map a.eval) bD hr.ext hr.zero (B0P aF bm ps 0 ds jG bZ) (rp.out aF) (A8G aF ds cs bD 0 bd bZ)
   (fun c iY=>by obtain⟨i,d,_,_,h2,h3,h4⟩:=db c iY;rw[h3,h4];exact hr.tip d h2)
   (fun c c' b iY nE az hs=>by
    obtain⟨i,d,_,h1,h2,h3,h4⟩:=db c iY;obtain⟨i',d',_,nF,fL,jU,pS⟩:=db c' nE;rw[h3]at hs;rw[jU];exact hr.disj d d' b h2 fL (fun e=>az ((aF c d c' d' h1 nF).2 e)) hs)
   (fun lf cz d nD=>by
    obtain⟨i,_,h2,rfl⟩:=B1U ps 0 cz nD;have:=A5B cs 0 i (by rw[lO,B1a jG];omega);rw[Bz]at this;exact this)
  unfold Dj;rw[fY aK,Eb];refine hc.mono fun e w' eT=>?_;obtain⟨g',rv,dc,rfl,lg,hp,jV,ic⟩:=eT;show next (a.put o.dst (S9 rv)) w';have jH:∀(i d:Nat),ds[i]?=some d→g'.G (B8 i)=g.G d∧g'.Gs (B8 i)=1∧g.Gs d=1∧(Ent.tup (rs++E0 0 cs)).has (B8 i)=true:=fun i d hi=>by
   have jK:=J7 hi;obtain⟨b,us,h1,h2,h3⟩:=A52 bd hi;have cj:=A6j cs.length 0 i (by omega);rw[Bz]at cj;obtain⟨b',gq,nF,fL,jU⟩:=A52 jV cj;have h4:(dc.map (fun p=>(p.1,p.2.length)))[i]?=(bD.map (fun p=>(p.1,p.2.length)))[i]? :=by rw[ic]
   rw[Bo,Bo,h1,nF]at h4;simp only[Cq,Be,Ci]at h4;refine⟨by rw[fL,h2,h4.1,h4.2],jU,h3,?_⟩;obtain⟨lf,q1,q2⟩:=A5B cs 0 i (by omega);rw[Bz]at q2;simp only[Ent.has,Dv];exact⟨lf,by simp[q1],q2⟩
  have cO:=B0Y hr ds;have eU:=cO.world hU (w':=w') (wm':=g'.wm) hp.os hp.tape hp.output hp.size hp.ext (fun b=>∃ d,M7 (E0 0 cs) d∧spare ((N4 g NT).G d)=some b)
   (fun b ⟨c,h1,h2⟩=>by
    obtain⟨i,d,_,_,h4,h5,_⟩:=db c h1;rw[h5]at h2;exact A2U (hr.tip d h4) h2)
   (fun e b he hs=>by
    rw[A19]at he;by_cases hM:∃ d,M7 (E0 0 cs) d∧spare ((N4 g NT).G d)=some b
    ·right
     obtain⟨c,h1,h2⟩:=hM;obtain⟨i,d,hi,_,h4,h5,_⟩:=db c h1;rw[h5]at h2;have lP:e=d:=by
      by_cases lP:e=d
      ·exact lP
      ·exact absurd h2 (hr.disj e d b he h4 lP hs)
     subst lP;obtain⟨q1,q2,q3,q4⟩:=jH i e hi;have ht:=hp.tip (B8 i) q4;rw[q1,q2]at ht;refine⟨by rw[q3];exact ht,fun j l hj=>?_⟩;have h9:=(cO.bxl j e l hj).2;have h8:=B2Q (s:=s) ⟨i,hi⟩;rw[show j=bxi e from h9,h8]at hj;cases hj
    ·exact .inl hM)
   (fun b ⟨c,h1,h2⟩=>by
    obtain⟨i,d,_,_,h4,h5,_⟩:=db c h1;rw[h5]at h2;exact hr.mine d b h4 h2)
   (fun b hb hM=>hp.frame b hb hM) hp.zero
  obtain⟨nG,nH,co⟩:=hp.rep;have nH:rv++R0 dc=nG:=by
   have:=Fz nH;simpa using this
  subst nH;obtain⟨gn,dp⟩:=LsRep.split co lg;have pV:∀(i d:Nat)(c:List (Leaf Ty den)),ds[i]?=some d→cs[i]?=some c→BoxOk E.U w' {g with wm:=g'.wm} d c:=fun i d c hi vJ=>by
   have cS:∀(o9:List Nat)(a7:List (List (Leaf Ty den)))(ig:List (Nat×List Value))(kk i:Nat),Z7 w' g' o9 a7 ig→LsRep E.U w' g' (E0 kk a7) (R0 ig)→∀ c d0,a7[i]?=some c→o9[i]?=some d0→∃ b us,g'.G d0=.slice (some ⟨b,0,none⟩) 0 us.length∧us.length=c.length∧0<us.length∧
     (∀(j:Nat) u,us[j]?=some u→w'.cell? ⟨b,j,none⟩=some u∧u.oneCell'=true∧u.cells= #[u])∧LsRep E.U w' g' c us:=by
    intro o9
    induction o9 with
    |nil=>intro a7 ig kk i _ _ c d0 _ h;simp at h
    |cons x o9 ih=>
     intro a7 ig kk i hb hl c d0 hc ta
     match a7,ig,hb with
     |c1::a7,(b,us)::ig,⟨⟨b1,b2,b3,b4,b5⟩,bw⟩=>
      obtain⟨l1,l2⟩:=LsRep.split hl.2 b2.symm;cases i with
      |zero=>simp at hc ta;subst hc ta;exact⟨b,us,b1,b2,b3,b5,l1⟩
      |succ i=>exact ih a7 ig (kk+1) i bw l2 c d0 (by simpa using hc) (by simpa using ta)
   have jK:=J7 hi;have cj:=A6j cs.length 0 i (by omega);rw[Bz]at cj;obtain⟨b,us,k1,k2,k3,k4,k5⟩:=cS _ cs dc 0 i jV dp c _ vJ cj;obtain⟨q1,q2,q3,q4⟩:=jH i d hi;have eK:=A7M (mG i d c hi vJ).2;have gr:LsRep E.U w' {g with wm:=g'.wm} c us:=by
    refine LsRep.keep (g1:=g') (g2:={g with wm:=g'.wm}) rfl k5 fun lf hl e he=>?_;rcases (Leaf.has_iff e lf).1 he with⟨t,x,rfl⟩|⟨o,rfl⟩
    ·exact absurd rfl ((eK _ hl).1 t x e)
    ·exact absurd rfl ((eK _ hl).2 e o)
   exact A94 (by rw[←q1];exact k1) k2 k3 q3 k4 gr
  have pW:Rel E.U B {g with wm:=g'.wm} s a w':=by
   have aI:∀ i,(∃ d,i=bxi d∧∃ j:Nat,ds[j]?=some d)∨(W5 s ds).get i=s.get i:=by
    intro i;have:∀ ds:List Nat,(∃ d,i=bxi d∧∃ j:Nat,ds[j]?=some d)∨(W5 s ds).get i=s.get i:=by
     intro ds
     induction ds with
     |nil=>exact .inr rfl
     |cons x ds ih=>
      simp only[W5];rw[K3];by_cases hx:bxi x=i
      ·exact .inl ⟨x,hx.symm,0,by simp⟩
      ·rw[if_neg hx];rcases ih with⟨d,h1,j,h2⟩|h
       ·exact .inl ⟨d,h1,j+1,by simpa using h2⟩
       ·exact .inr h
    exact this ds
   have lj:∀ i,(∃ d,i=bxi d∧∃ j:Nat,ds[j]?=some d)→∃ d c,s.get i=.bx d c∧BoxOk E.U w' {g with wm:=g'.wm} d c:=fun i ⟨d,h1,j,h2⟩=>by
    have bQ:=J7 h2;have pJ:cs[j]?=some cs[j]:=Bj (by omega);generalize cs[j]=c at pJ;exact⟨d,c,by rw[h1];exact(mG j d _ h2 pJ).1,pV j d _ h2 pJ⟩
   refine{eU with ent:=fun i=>?_,tip:=fun d hd=>eU.tip d (by rw[A19];exact hd),disj:=fun d e b h1 h2=>eU.disj d e b (by rw[A19];exact h1) (by rw[A19];exact h2),mine:=fun d b h1=>eU.mine d b (by rw[A19];exact h1),iter:=fun i c pos hc=>?_,idis:=fun i j c p c' p' cB h1 h2=>?_,bxl:=fun i d ls hc=>hr.bxl i d ls hc}
   ·rcases aI i with h|h
    ·obtain⟨d,c,h1,h2⟩:=lj i h;rw[h1];exact h2
    ·rw[←h];exact eU.ent i
   ·rcases aI i with h|h
    ·obtain⟨d,c,h1,h2⟩:=lj i h;rw[h1]at hc;cases hc
    ·rw[←h]at hc;exact eU.iter i c pos hc
   ·rcases aI i with h|h
    ·obtain⟨d,c,h3,h4⟩:=lj i h;rw[h3]at h1;cases h1
    ·rcases aI j with h'|h'
     ·obtain⟨d,c,h3,h4⟩:=lj j h';rw[h3]at h2;cases h2
     ·rw[←h]at h1;rw[←h']at h2;exact eU.idis i j c p c' p' cB h1 h2
  obtain⟨k1,k2⟩:=C9J (g2:={g with wm:=g'.wm}) (g':=g') rfl gn;exact hn _ _ (REL.setO pW k1 k2 _ hd)
end
end Go.Aev
end
