/- Proved here: lemmas that the claim's text uses. Conditions: those that each lemma states. -/
import Derived.Carry
import Derived.ChangeMaps5
import Derived.Deep.DeepHandedRow
import Derived.Deep.LoopGhost
import Derived.Deep.Matrix
import Derived.DeepKeys
import Derived.Great.BuildSlice
import Derived.KernelRfl
import Derived.Laws.Cover4
import Derived.Lib.LaidTab
import Derived.Lib.LaidU8T
import Derived.Lib.OthersKept
import Derived.Lib.Repeat
import Derived.Lib.Replace
import Derived.Lib.Strings
import Derived.Lib.TrimU
import Derived.Lib.ValidLaws
import Derived.OpenShut
import Derived.Orders
import Derived.OrdersHeld
import Derived.PinnedBridge
import Derived.ProofKit
import Derived.Shelf.Bits.Mul64
import Derived.Shelf.LaysM
import Derived.Shelf.Small.Utf8
import Derived.Shelf.Strings.Builder1
import Derived.Shelf.Strings.Builder2
import Derived.Shelf.Strings.Builder2Cap
import Derived.Shelf.Strings.BuilderF
import Derived.Shelf.Strings.BuilderK
import Derived.Shelf.Strings.Count
import Derived.Shelf.Strings.Prefix
import Derived.Shelf.Strings.Repeat
import Derived.Shelf.Strings.RuneCount
import Derived.Shelf.Strings.Search1
import Derived.Shelf.Strings.Search2
import Derived.Shelf.Strings.Search3
import Derived.Shelf.Strings.Shaped
import Derived.Shelf.Strings.Split
import Derived.Shelf.Unicode.Decode
import Derived.Shelf.Unicode.DecodeAny
import Derived.Shelf.Unicode.DecodeSlow
import Derived.Shelf.Utf8.AppendRune
import Derived.Shelf.Utf8.RuneCount
import Derived.SizedLaws
import Derived.Test.YtolabkginnkhgaaGreatDoorCards
import Derived.Test.YtolabkginnkhgaaGreatDoorProg
import Derived.Test.YtolabkginnkhgaaGreatDoorRows
import Derived.Test.YtolabkginnkhgaaGreatDoorTie
import Derived.WalkKit
set_option maxRecDepth 100000
set_option linter.unusedVariables false
set_option linter.unusedSimpArgs false
set_option linter.defProp false
open Option renaming some->J,none->O
open Bool renaming true->Z,false->V
open Go.Proofs.Tryz
open Go renaming TypeId->Aaa,execOp->Aad,Operand->Aae,run_underlying->Aaf,Program->Aag,FuncId->Aai,typeInfo->Aaj,ResultVar->Aam,IntKind->Aap,sizeOf->Aaq,loadVar->Aar,newRow->Aau,loadCells->Aav,grownCap->Aaw,resolve->Aa3,invoke->Aa4,convert->Aa5,builtin->Aa6,storeCells->Abb,results->Abc,callFunc->Abd,TypeInfo->Abe,run_sliceBound_if->Abm,run_loadCells->Abn,markStringish->Abo,madeCells->Abp,loadCellsFrom->Abq,run_runesToString->Abw,run_loadCells_list->Abx,run_bytesToString->Aby,eqGuard_at_bool->Abz
open Nat renaming beq->Aab,blt->Aac,ble->Aah
open Go.World renaming cell?->Aak,freeze->Aal,shape?->Ab0,setCell->Ab1
open Go.Question renaming appendCap->Aan,forced->Abs,cut->Ab5
open List renaming range->Aao,getD->Abf,replicate->Ab8,length->Ab9,getElem?_eq_getElem->Aca
open Go.Utf8 renaming decode->Aas,encode->Ab2
open Go.Builtin renaming firstCells->Aat,append_->Aaz,lenOf->Aa2,zeroCells->Ach,len_->Aci
open Go.Value renaming int->Aax,cells->Aa7
open Go.Conv renaming runesFrom->Aay,runesToString->Acf,bytesToString->Acg
open Go.Instr renaming sureAddr->Aa0,loadAt->Aa8,sliceBounds->Abg,fill->Abh,buildSlice->Abi,sliceAt->Acb,slice->Acd,box->Ace
open ByteArray renaming mk->Aa1,size->Abv
open Array renaming replicate->Aa9,toList_map->Abj,getElem?_toList->Ack
open Go.Act renaming eval->Aba,put->Abl
open Go.Addr renaming mk->Abk
open UInt8 renaming ofNat->Abr
open Go.Oper renaming wp->Abt
open Go.Op renaming stringOp->Abu
open Go.Sem renaming run_bind->Ab3
open Go.Region renaming ready->Ab4
open Go.Program renaming built->Ab6
open Option renaming pure_def->Ab7
open Go.Array renaming range_zero'->Acj
open Option.some renaming injEq->Acl,inj->Acm
open Go.Value.slice renaming injEq->Acn
open Go.ByteArray renaming toList_eq->Aco,extract_mk->Acp
namespace Go.Aev
open Go.Proofs
def Fd:=@List.length_append
def Fn:=@Bool.and_eq_true
def Fr:=@List.length_cons
def GE:=@Aca
def GT:=@List.length_nil
def GU:=@Nat.le_refl
def GV:=@List.append_assoc
def GX:=@Acl
def GY:=@List.append_nil
def GZ:=@List.flatten_cons
def HC:=@List.mem_cons
def HD:=@List.flatten_nil
def HE:=@Array.getD_eq_getD_getElem?
def HG:=@List.getElem?_map
def HH:=@Nat.zero_le
def HI:=@List.mem_of_getElem?
def HJ:=@Array.getElem?_eq_some_iff
def HK:=@Go.World.cell?_of_block
def HL:=@Nat.zero_add
def HM:=@List.all_eq_true
def HN:=@List.getElem?_eq_some_iff
def HO:=@List.mem_cons_self
def HP:=@Bool.not_false
def HQ:=@List.getD_eq_getElem?_getD
def HR:=@List.length_map
def HT:=@Nat.le_trans
def HU:=@Nat.blt_eq
def HV:=@List.getElem?_append_left
def HW:=@List.mem_singleton
def HX:=@Nat.lt_succ_self
def HY:=@Bool.not_true
def HZ:=@Nat.eq_of_beq_eq_true
def Ha:=@List.mem_cons_of_mem
def Hb:=@Acm
def Hc:=@Array.getElem?_eq_getElem
def He:=@Prod.mk.injEq
def Hf:=@Array.getElem?_append_left
def Hg:=@List.mem_append
def Hh:=@List.not_mem_nil
def Hi:=@Option.map_eq_some_iff
def Hj:=@List.nil_append
def Hk:=@List.getElem?_append_right
def Hl:=@List.length_singleton
def Hm:=@List.any_eq_true
def Hn:=@List.getElem?_take
def Ho:=@List.getElem?_range
def Hp:=@Array.getElem?_push
def Hq:=@Nat.mul_le_mul_right
def Hr:=@List.eq_nil_of_length_eq_zero
def Hs:=@Bool.not_eq_true'
def Ht:=@List.drop_eq_getElem_cons
def Hu:=@Nat.le_of_ble_eq_true
def Hv:=@Nat.lt_or_ge
def Hw:=@Go.Addr.add_lit
def Hx:=@Bool.or_eq_true
def Hy:=@Bool.and_self
def Hz:=@Nat.add_mul
def IA:=@Ack
def IC:=@Ne.symm
def ID:=@List.flatMap_cons
def IE:=@List.getElem?_drop
def IF:=@List.getElem?_eq_none
def IG:=@List.getElem_mem
def II:=@List.getElem_of_mem
def IJ:=@Option.map_some
def IK:=@List.length_take
def IL:=@List.drop_length
def IM:=@Array.getElem?_modify
def IN:=@List.map_cons
def t8:=@Nat.lt_of_lt_of_le
def IP:=@List.mem_of_mem_take
def IQ:=@Array.getElem?_eq_none
def IR:=@List.length_drop
def IS:=@Nat.le_succ
def IT:=@List.length_set
def IU:=@Array.getElem?_setIfInBounds
def IW:=@List.map_congr_left
def IX:=@Int.add_zero
def IY:=@Nat.le_add_right
def IZ:=@List.cons_append
def Ia:=@List.length_replicate
def Ib:=@List.nodup_cons
def Ic:=@List.map_append
def Id:=@List.getElem?_set_ne
def Ie:=@List.getElem?_set
def If:=@Nat.add_assoc
def Ig:=@Nat.le_mul_of_pos_right
def Ih:=@Nat.ble_eq
def Ii:=@List.mem_map
def Ij:=@Bool.false_eq_true
def Ik:=@Array.ext_getElem?
def Il:=@Nat.le_succ_of_le
def Im:=@List.drop_drop
def In:=@Bool.and_false
def Io:=@Array.toList_setIfInBounds
def Ip:=@Nat.mul_le_mul_left
def Iq:=@Array.getElem?_replicate
def Ir:=@List.cons.injEq
def It:=@Array.ext'
def Iu:=@List.getElem?_cons_succ
def Iv:=@Nat.add_zero
def Iw:=@List.take_of_length_le
def Ix:=@List.size_toArray
def Iy:=@List.mem_range
def Iz:=@List.map_map
def JA:=@List.drop_zero
def JB:=@Nat.mul_one
def JC:=@List.mem_append_left
def JD:=@Bool.or_eq_true_iff
def JE:=@Nat.sub_zero
def JF:=@List.count_pos_iff
def JG:=@Int.tdiv_eq_ediv_of_nonneg
def JH:=@Option.isNone_iff_eq_none
def JI:=@Acn
def JJ:=@Nat.lt_trichotomy
def JK:=@List.reverse_cons
def JL:=@List.length_range
def JM:=@List.any_eq_false
def JN:=@Array.size_append
def JO:=@List.all_cons
def JP:=@Option.bind_eq_some_iff
def JQ:=@List.take_length
def JR:=@List.getElem?_cons_zero
def JS:=@List.mem_filter
def JT:=@List.mem_append_right
def JU:=@Nat.one_mul
def JV:=@Nat.mul_le_mul
def JW:=@List.take_zero
def JX:=@List.map_id
def JY:=@List.mapM_cons
def JZ:=@List.take_succ_cons
def Ja:=@List.any_cons
def Jb:=@Bool.or_false
def Jc:=@Bool.false_or
def Jd:=@Go.Addr.mk.injEq
def Je:=@Int.tmod_lt_of_pos
def Jf:=@Nat.le_of_eq
def Jg:=@List.take_succ_eq_append_getElem
def Jh:=@Int.toNat_natCast
def Ji:=@Nat.div_add_mod'
def Jj:=@List.zipIdx_cons
def Jk:=@List.mem_flatMap
def Jl:=@List.take_append_of_le_length
def Jm:=@Int.le_refl
def Jn:=@Nat.one_ne_zero
def Jo:=@Nat.not_lt_zero
def Jp:=@List.foldl_cons
def Jq:=@Int.tmod_nonneg
def Jr:=@Array.getElem?_append_right
def Js:=@Nat.beq_eq
def Jt:=@Bool.false_and
def Ju:=@List.pairwise_iff_getElem
def Jv:=@List.mem_or_eq_of_mem_set
def Jw:=@Bool.and_true
def Jx:=@Array.size_setIfInBounds
def Jy:=@Array.setIfInBounds_comm
def Jz:=@Nat.succ_pos
def KA:=@Nat.le_of_lt
def KC:=@Nat.add_comm
def KE:=@List.map_nil
def KF:=@List.getElem?_set_self
def KG:=@Nat.div_lt_iff_lt_mul
def KH:=@List.take_append_drop
def KJ:=@List.mem_of_mem_drop
def KK:=@List.getElem?_append
def KL:=@List.forall_mem_cons
def KN:=@List.count_le_length
def KO:=@Acp
def KP:=@Option.bind_eq_bind
def KQ:=@List.length_pos_iff
def KR:=@Aco
def KS:=@Array.length_toList
def KT:=@Option.isSome_none
def KU:=@Nat.not_lt
def KV:=@Nat.mod_lt
def KW:=@Nat.lt_of_le_of_lt
def KX:=@List.set_cons_succ
end Go.Aev
section
def FK{p:Prop}(h:p:=by omega):p:=h
def GM{p:Prop}(h:p:=by kernel_rfl):p:=h
def GN{p:Prop}(h:p:=by simp):p:=h
def GO{p:Prop}(h:p:=by decide):p:=h
def GQ{p:Prop}(h:p:=by simp;omega):p:=h
def GR{p:Prop}(h:p:=by rfl):p:=h
def GD.{u}{α:Sort u}(a b:α):(bif Z then a else b)=a:=rfl
def GF.{u}{α:Sort u}(a b:α):(bif V then a else b)=b:=rfl
def GG{p:Prop}[Decidable p](h:p):decide p=Z:=decide_eq_true h
def GH{p:Prop}[Decidable p](h:¬p):decide p=V:=decide_eq_false h
def GI.{u}{c:Prop}{d:Decidable c}(h:¬c){α:Sort u}{t e:α}:ite c t e=e:=if_neg h
def GJ.{u}{c:Prop}{d:Decidable c}(h:c){α:Sort u}{t e:α}:ite c t e=t:=if_pos h
def GK{p:Prop}[Decidable p](h:decide p=Z):p:=of_decide_eq_true h
namespace Go.Aev
open Go
abbrev GA:=Option Nat
abbrev Gw:=List Value
abbrev Gv:=List Nat
abbrev Gp:=List Int
abbrev rg:=List UInt8
abbrev Gy:=List rg
section defs
variable (Ty:Type)(den:Ty->Type)
inductive Leaf:Type where
 |any
 |int (k:Aap) (n:Int)
 |bool (b:Bool)
 |str (s:rg)
 |sl (t:Ty) (l:List (den t)) (own:GA)
 |elem (t:Ty) (x:den t) (off:Nat)
 |agg (t:Ty) (x:den t)
 |val (v:Value)
 |ptr (d off:Nat)
 |ifc (T:Aaa) (t:Ty) (x:den t)
 |one1 (t:Ty) (x:den t)
 |nils
inductive Ent:Type where
 |one (l:Leaf Ty den)
 |tup (ls:List (Leaf Ty den))
 |iter (s:rg) (pos:Nat)
 |bx (d:Nat) (ls:List (Leaf Ty den))
 |st (ls:List (Leaf Ty den))
structure UO where
 deq:(t u:Ty)->Decidable (t=u)
 cells:(t:Ty)->den t->List (Leaf Ty den)
 dec:(t:Ty)->List (Leaf Ty den)->Option (den t)
 ofBytes:(t:Ty)->Option (rg->List (den t))
 toBytes:(t:Ty)->Option (List (den t)->rg)
 ofRunes:(t:Ty)->Option (Gp->List (den t))
 toRunes:(t:Ty)->Option (List (den t)->Gp)
 size:Ty->Nat
 bytes:Ty->Nat
 bty:Nat:=0
 ety:Ty->Option Aaa:=λ_=>O
 dcx:(t:Ty)->List (Leaf Ty den)->Option (den t):=λ_ _=>O
inductive TK where
 |int (k:Aap)
 |str
 |bool
 |slice (t:Ty) (e:Aaa)
 |struct (t:Ty) (fs:List (Nat×Nat))
 |iface (t:Ty)
 |other
structure St where
 fr:List (Nat×Ent Ty den)
 live:Gv
structure Env where
 U:UO Ty den
 tb:Aaa->TK Ty
 T:Aai->List (Leaf Ty den)->Option (Bool×Ent Ty den)
 cons:Aai->GA
 drop:Nat->Gv
 nt:Nat
 zr:Aaa->Option (List (Leaf Ty den)):=λ_=>O
 mb:Nat->Bool:=λ_=>V
 bn:Nat->Nat:=λd=>100+d
 np:Nat:=0
 oz:Nat->Bool:=λ_=>V
 TIg:String->List (Leaf Ty den)->List (List (Leaf Ty den))->Option (Bool×List (Leaf Ty den)×List (List (Leaf Ty den))):=λ_ _ _=>O
 bi:String->Gv:=λ_=>[]
 rw:Bool:=V
 rm:Nat->Bool:=λ_=>V
 fty:Aaa->Option Ty:=λ_=>O
 fzs:Gv:=[]
 nw:Aai->Bool:=λ_=>V
 TNg:Aai->List (Leaf Ty den)->Option (Bool×List (Leaf Ty den)):=λ_ _=>O
 bp:Aai->Option Gv:=λ_=>O
 ro:Aai->Bool:=λ_=>V
 qeq:Aaa->Option Ty:=λ_=>O
 TRg:Aai->List (Leaf Ty den)->List (List (Leaf Ty den))->Option (Bool×List (Leaf Ty den)):=λ_ _ _=>O
 TBg:Aai->List (Leaf Ty den)->List (List (Leaf Ty den))->Option (Bool×List (Leaf Ty den)×List (List (Leaf Ty den))):=λ_ _ _=>O
end defs
variable {Ty:Type}{den:Ty->Type}
def G6{α:Type}:Option (Bool×α)->Option α
 |some (Z,a)=>J a
 |_=>O
def Env.TI(E:Env Ty den)(nm:String)(ls:List (Leaf Ty den))(cs:List (List (Leaf Ty den))):Option (List (Leaf Ty den)×List (List (Leaf Ty den))):=G6 (E.TIg nm ls cs)
def Env.TR(E:Env Ty den)(f:Aai)(ls:List (Leaf Ty den))(cs:List (List (Leaf Ty den))):Option (List (Leaf Ty den)):=G6 (E.TRg f ls cs)
def Env.TB(E:Env Ty den)(f:Aai)(ls:List (Leaf Ty den))(cs:List (List (Leaf Ty den))):Option (List (Leaf Ty den)×List (List (Leaf Ty den))):=G6 (E.TBg f ls cs)
def A9:Nat:=77777777
def Kv(n t sz:Nat):Nat:=1000000000+((n*1000+t)*100+sz)
def rS(o:Nat):Nat:=o % 100
def rT(o:Nat):Nat:=o / 100 % 1000
def rN(o:Nat):Nat:=o / 100000 % 10000
def mem(d:Nat):Gv->Bool
 |[]=>V
 |e::r=>bif Aab e d then Z else mem d r
def rem(d:Nat):Gv->Gv
 |[]=>[]
 |e::r=>bif Aab e d then rem d r else e::rem d r
def Leaf.close:Leaf Ty den->Leaf Ty den
 | .sl t l _=>.sl t l O
 | .ptr _ _=>.any
 |x=>x
def Leaf.strip(d:Nat):Leaf Ty den->Leaf Ty den
 | .sl t l (J e)=>.sl t l (bif Aab e d then O else J e)
 | .ptr e o=>bif Aab e d then .any else .ptr e o
 |x=>x
def Ent.strip(d:Nat):Ent Ty den->Ent Ty den
 | .one l=>.one (l.strip d)
 | .tup ls=>.tup (ls.map (·.strip d))
 | .st ls=>.st (ls.map (·.strip d))
 | .bx e ls=>bif Aab e d then .one .any else .bx e (ls.map (·.strip d))
 |e=>e
def Xp(d:Nat):List (Nat×Ent Ty den)->List (Nat×Ent Ty den)
 |[]=>[]
 |(i,e)::r=>(i,e.strip d)::Xp d r
def look:List (Nat×Ent Ty den)->Nat->Ent Ty den
 |[],_=>.one .any
 |(j,e)::r,i=>bif Aab j i then e else look r i
def ins:List (Nat×Ent Ty den)->Nat->Ent Ty den->List (Nat×Ent Ty den)
 |[],i,e=>[(i,e)]
 |(j,x)::r,i,e=>bif Aab j i then(i,e)::r else bif Aac i j then(i,e)::(j,x)::r else(j,x)::ins r i e
def del:List (Nat×Ent Ty den)->Gv->List (Nat×Ent Ty den)
 |[],_=>[]
 |(j,x)::r,ds=>bif mem j ds then del r ds else(j,x)::del r ds
namespace St
def get(s:St Ty den)(i:Nat):Ent Ty den:=look s.fr i
def set(s:St Ty den)(i:Nat)(e:Ent Ty den):St Ty den:={s with fr:=ins s.fr i e}
def setO(s:St Ty den)(d:GA)(e:Ent Ty den):St Ty den:=match d with|J i=>s.set i e|O=>s
def fresh(s:St Ty den)(d:Nat):St Ty den:={fr:=Xp d s.fr,live:=d::rem d s.live}
def kill(s:St Ty den)(d:Nat):St Ty den:={fr:=Xp d s.fr,live:=rem d s.live}
def dels(s:St Ty den)(ds:Gv):St Ty den:={s with fr:=del s.fr ds}
end St
def C4Q:Value->Leaf Ty den
 | .int k n=>.int k n
 | .bool b=>.bool b
 | .string s=>.str s.data.toList
 |_=>.any
def opd(E:Env Ty den)(s:St Ty den)(ty:Aaa):Aae->Ent Ty den
 | .tmp t=>match s.get t with
  | .iter _ _=>.one .any
  | .bx _ _=>.one .any
  |e=>e
 | .const v=>match v with
  | .slice O 0 0=>match E.tb ty with
   | .slice u _=>.one (.sl u [] O)
   |_=>.one .any
  |v=>.one (C4Q v)
 |_=>.one .any
def opl(E:Env Ty den)(s:St Ty den)(ty:Aaa)(x:Aae):Leaf Ty den:=
 match opd E s ty x with
 | .one l=>l
 |_=>.any
def X3:Aae->Bool
 | .const (.slice O 0 0)=>Z
 |_=>V
def B8(dst:GA):Nat:=match dst with|J d=>100+d|O=>99
def nmR(dst:GA)(j:Nat):Nat:=match dst with|J d=>1000*(j+1)+d|O=>98
def B7d(op:BinOp)(k:Aap)(a b:Int):Option (Leaf Ty den):=
 match op with
 | .add=>J (.int k (k.wrap (a+b)))
 | .sub=>J (.int k (k.wrap (a - b)))
 | .mul=>J (.int k (k.wrap (a*b)))
 | .eql=>J (.bool (a==b))
 | .neq=>J (.bool (a !=b))
 | .lss=>J (.bool (a<b))
 | .leq=>J (.bool (a<=b))
 | .gtr=>J (.bool (a>b))
 | .geq=>J (.bool (a>=b))
 | .and=>J (.int k (bits .and k a b))
 | .or=>J (.int k (bits .or k a b))
 |_=>O
def idx{α:Type}(l:List α)(i:Int):Option α:=bif decide (0<=i)then l[i.toNat]? else O
def sub{α:Type}(l:List α)(lo hi:Int):Option (List α):=
 bif decide (0<=lo)&&(decide (lo<=hi)&&decide (hi<=(l.length:Int)))then J ((l.drop lo.toNat).take (hi.toNat - lo.toNat))else O
def M1(U:UO Ty den)(t u:Ty)(l:List (den u)):Option (List (den t)):=
 match U.deq u t with
 | .isTrue h=>J (h ▸ l)
 | .isFalse _=>O
def A3(n b:Nat):Bool:=decide (n*b<=140737488355328)
def Rm(ns:Gp):rg:=ns.flatMap λn=>(Ab2 n).data.toList
inductive Ex where
 |normal|exit (id:Nat)|ret
section ev
variable (E:Env Ty den){R:Type}
def T9(s:St Ty den)(d:Int):Option Aae->Option Int
 |none=>J d
 |some x=>match opl E s 0 x with
  | .int _ n=>J n
  |_=>O
def D0:List (Leaf Ty den)->List (Leaf Ty den)
 |[]=>[]
 |l::r=>l.close::D0 r
def O2(s:St Ty den):List Aaa->List Aae->List (Leaf Ty den)
 |_,[]=>[]
 |[],x::r=>opl E s 0 x::O2 s [] r
 |t::ts,x::r=>opl E s t x::O2 s ts r
def Ma(nm:Nat)(t:Ty)(l:List (den t))(s:St Ty den):Leaf Ty den×St Ty den:=
 bif mem nm s.live then(.sl t l O,s)else(.sl t l (J nm),s.fresh nm)
def M6(dst:GA)(p:GA)(j:Nat)(s:St Ty den):Leaf Ty den->Leaf Ty den×St Ty den
 | .sl t l (J 0)=>match p with
  |some d=>Ma d t l s
  |none=>(.sl t l O,s)
 | .sl t l (J (i+1))=>bif Aab i j then Ma (nmR dst j) t l s else(.sl t l O,s)
 | .ptr _ _=>(.any,s)
 |x=>(x,s)
def Q4(dst:GA)(p:GA):Nat->St Ty den->List (Leaf Ty den)->List (Leaf Ty den)×St Ty den
 |_,s,[]=>([],s)
 |j,s,l::r=>
  let (l',s'):=M6 dst p j s l
  let (r',pO):=Q4 dst p (j+1) s' r
  (l'::r',pO)
def bxi(d:Nat):Nat:=1000000+d
def J1(s:St Ty den)(d:Nat):Option (List (Leaf Ty den)):=match s.get (bxi d)with
 | .bx e ls=>bif Aab e d then J ls else O
 |_=>O
def B2(k:Nat):Nat:=900000+k
def bo(d j:Nat):Nat:=2000000+(100*d+j)
def pk1(k d c:Nat)(s:St Ty den):Leaf Ty den->Leaf Ty den×St Ty den
 | .sl t x (J e)=>bif mem e s.live then(.sl t x (J c),s.kill e)else(.sl t x O,s)
 | .ptr e o=>(bif Aab e d&&Aab o A9 then .ptr (B2 k) A9 else .any,s)
 |l=>(l.close,s)
def pkC(k d:Nat):Nat->St Ty den->List (Leaf Ty den)->List (Leaf Ty den)×St Ty den
 |_,s,[]=>([],s)
 |j,s,l::r=>
  let (l',s'):=pk1 k d (bo (B2 k) j) s l
  let (r',pO):=pkC k d (j+1) s' r
  (l'::r',pO)
def pkB:Nat->St Ty den->Gv->Option (List (List (Leaf Ty den))×St Ty den)
 |_,s,[]=>J ([],s)
 |k,s,d::r=>match s.get (bxi d)with
  | .bx e ls=>bif Aab e d&&(Aac ls.length 100&&Aac d 1000000)then
   (let (c,s'):=pkC k d 0 s ls
   match pkB (k+1) s' r with
   |some (cs,pO)=>J (c::cs,pO)
   |none=>O)else O
  |_=>O
def D6:Nat->List (List (Leaf Ty den))->List (Leaf Ty den)
 |_,[]=>[]
 |k,c::r=>.ptr (B2 k) 0::(c++D6 (k+1) r)
def Mb(ls:List (Leaf Ty den)):Gv->Option Gv
 |[]=>J []
 |p::ps=>match ls.getD p .any,Mb ls ps with
  | .ptr d 0,J ds=>J (d::ds)
  |_,_=>O
def Rn(ls:List (Leaf Ty den)):Nat->Gv->List (Leaf Ty den)
 |_,[]=>ls
 |k,p::ps=>(Rn ls (k+1) ps).set p (.ptr (B2 k) 0)
def Y2:Gv->Bool
 |[]=>Z
 |x::r=> !mem x r&&Y2 r
def Mc(s:St Ty den):Gv->Bool
 |[]=>Z
 |d::r=>mem d s.live&&Mc s r
def V8(s:St Ty den):Gv->St Ty den
 |[]=>s
 |d::r=>(V8 s r).set (bxi d) (.one .any)
def N7(k d c n:Nat)(s:St Ty den):Leaf Ty den->Leaf Ty den×St Ty den
 | .sl t x (J e)=>bif Aab e c then Ma n t x s else(.sl t x O,s)
 | .ptr e o=>(bif Aab e (B2 k)&&Aab o A9 then .ptr d A9 else .any,s)
 |l=>(l,s)
def unC(k d:Nat):Nat->St Ty den->List (Leaf Ty den)->List (Leaf Ty den)×St Ty den
 |_,s,[]=>([],s)
 |j,s,l::r=>
  let (l',s'):=N7 k d (bo (B2 k) j) (bo d j) s l
  let (r',pO):=unC k d (j+1) s' r
  (l'::r',pO)
def unB:Nat->St Ty den->Gv->List (List (Leaf Ty den))->St Ty den
 |k,s,d::ds,c::cs=>
  let (c',s'):=unC k d 0 s c
  unB (k+1) (s'.set (bxi d) (.bx d c')) ds cs
 |_,s,_,_=>s
def Ro:List (Leaf Ty den)->Ent Ty den
 |[l]=>.one l
 |ls=>.tup ls
def Xq:List (List (Leaf Ty den))->Bool
 |[]=>Z
 |c::r=>Aac c.length 100&&Xq r
def Uv(S:List (Leaf Ty den)->List (List (Leaf Ty den))->Option (List (Leaf Ty den)×List (List (Leaf Ty den))))(ps:Gv)(ls:List (Leaf Ty den))(dst:GA)(s:St Ty den)(k:Ent Ty den->St Ty den->Option R):Option R:=
 match Mb ls ps with
 |some ds=>bif Y2 ds&&Aac ds.length 100 then(match pkB 0 s ds with
  |some (cs,s1)=>bif Mc s1 ds then(match S (Rn (D0 ls) 0 ps) cs with
   |some (rs,ay)=>bif Aab ay.length ds.length&&(Aac rs.length 100&&Xq ay)then
    (let (vq,s2):=Q4 dst O 0 (V8 s1 ds) rs
    bif Mc s2 ds then k (Ro vq) (unB 0 s2 ds ay)else O)else O
   |none=>O)else O
  |none=>O)else O
 |none=>O
def C4m(f:Aai)(ps:Gv)(dZ:List Aaa)(args:List Aae)(dst:GA)(s:St Ty den)(k:Ent Ty den->St Ty den->Option R):Option R:=
 Uv (E.TB f) ps (O2 E s dZ args) dst s k
def B1n(S:List (Leaf Ty den)->List (List (Leaf Ty den))->Option (Bool×List (Leaf Ty den)×List (List (Leaf Ty den))))(ps:Gv)(ls:List (Leaf Ty den))(dst:GA)(s:St Ty den)(k:Ent Ty den->St Ty den->Option R):Option R:=
 match Mb ls ps with
 |some ds=>bif Y2 ds&&Aac ds.length 100 then(match pkB 0 s ds with
  |some (cs,s1)=>bif Mc s1 ds then(match S (Rn (D0 ls) 0 ps) cs with
   |some (gd,rs,ay)=>bif gd then(bif Aab ay.length ds.length&&(Aac rs.length 100&&Xq ay)then
    (let (vq,s2):=Q4 dst O 0 (V8 s1 ds) rs
    bif Mc s2 ds then k (Ro vq) (unB 0 s2 ds ay)else O)else O)else O
   |none=>O)else O
  |none=>O)else O
 |none=>O
def C4t(f:Aai)(ps:Gv)(dZ:List Aaa)(args:List Aae)(dst:GA)(s:St Ty den)(k:Ent Ty den->St Ty den->Option R):Option R:=
 B1n (E.TBg f) ps (O2 E s dZ args) dst s k
def C2f{S:List (Leaf Ty den)->List (List (Leaf Ty den))->Option (Bool×List (Leaf Ty den)×List (List (Leaf Ty den)))}{ps:Gv}{ls:List (Leaf Ty den)}{dst:GA}{s:St Ty den}{k:Ent Ty den->St Ty den->Option R}{r:R}
  (h:B1n S ps ls dst s k=J r):Uv (λa b=>G6 (S a b)) ps ls dst s k=J r:=by
 unfold B1n at h;unfold Uv;split at h;rename_i ds jL;revert h;cases Y2 ds&&Aac ds.length 100 with
 |false=>intro h;cases h
 |true=>
  simp only[GD];intro h;split at h;rename_i cs s1 zB;revert h;cases Mc s1 ds with
  |false=>intro h;cases h
  |true=>
   simp only[GD];intro h;split at h;rename_i gd rs ay hS;cases gd with
   |false=>cases h
   |true=>simp only[hS,G6];exact h
   cases h
  cases h
 cases h
def C7A{f:Aai}{ps:Gv}{dZ:List Aaa}{args:List Aae}{dst:GA}{s:St Ty den}{k:Ent Ty den->St Ty den->Option R}{r:R}
 (h:C4t E f ps dZ args dst s k=J r):C4m E f ps dZ args dst s k=J r:=C2f h
def nlL(nm j:Nat):Leaf Ty den->Leaf Ty den
 | .sl t [] O=>.sl t [] (J (bo nm j))
 |l=>l
def nlS(nm j:Nat)(s:St Ty den):Leaf Ty den->St Ty den
 | .sl _ [] O=>s.fresh (bo nm j)
 |_=>s
def Lj(nm:Nat):Nat->List (Leaf Ty den)->List (Leaf Ty den)
 |_,[]=>[]
 |j,l::r=>nlL nm j l::Lj nm (j+1) r
def Uw(nm:Nat):Leaf Ty den->Leaf Ty den
 | .val (.pointer O)=>.ptr nm A9
 |l=>l
def Rp(b:Bool)(nm:Nat)(ls:List (Leaf Ty den)):List (Leaf Ty den):=bif b then ls.map (Uw nm)else ls
def Rq(nm:Nat):Nat->St Ty den->List (Leaf Ty den)->St Ty den
 |_,s,[]=>s
 |j,s,l::r=>Rq nm (j+1) (nlS nm j s l) r
def B8c(f:Aai)(dZ:List Aaa)(args:List Aae)(dst:GA)(s:St Ty den)(k:Ent Ty den->St Ty den->Option R):Option R:=
 let ls:=O2 E s dZ args
 match E.cons f with
 |none=>match E.T f (D0 ls)with
  |some (gd,.one l)=>bif gd then(let (l',s'):=M6 dst O 0 s l;k (.one l') s')else O
  |some (gd,.tup r)=>bif gd then(let (r',s'):=Q4 dst O 0 s r;k (.tup r') s')else O
  |_=>O
 |some p=>match ls.getD p .any with
  | .sl t l (J d)=>bif mem d s.live then
    match E.T f ((D0 ls).set p (.sl t l (J 0)))with
    |some (gd,.one l)=>bif gd then(let (l',s'):=M6 dst (J d) 0 (s.kill d) l;k (.one l') s')else O
    |some (gd,.tup r)=>bif gd then(let (r',s'):=Q4 dst (J d) 0 (s.kill d) r;k (.tup r') s')else O
    |_=>O
   else O
  |_=>O
def Md:List (Leaf Ty den)->Bool
 |[]=>Z
 | .sl _ _ (J _)::_=>V
 | .ptr _ _::_=>V
 |_::r=>Md r
def Me(s:St Ty den):Gv->Option (List (List (Leaf Ty den)))
 |[]=>J []
 |d::r=>match J1 s d,Me s r with
  |some ls,J cs=>bif Md ls&&Aac d 1000000 then J (ls::cs)else O
  |_,_=>O
def Po(f:Aai)(dZ:List Aaa)(args:List Aae)(s:St Ty den):Option (Ent Ty den):=
 let ls:=O2 E s dZ args
 match E.bp f with
 |none=>match E.T f (D0 ls)with
  |some (Z,.one l)=>J (.one l.close)
  |some (Z,.tup r)=>J (.tup (D0 r))
  |_=>O
 |some ps=>match Mb ls ps with
  |some ds=>bif Y2 ds then(match Me s ds with
   |some cs=>match E.TR f (Rn (D0 ls) 0 ps) cs with
    |some rs=>J (Ro (D0 rs))
    |none=>O
   |none=>O)else O
  |none=>O
def B12(f:Aai)(dZ:List Aaa)(args:List Aae)(s:St Ty den)(k:Ent Ty den->Option R):Option R:=
 let ls:=O2 E s dZ args
 match E.bp f with
 |none=>match E.T f (D0 ls)with
  |some (gd,.one l)=>bif gd then k (.one l.close)else O
  |some (gd,.tup r)=>bif gd then k (.tup (D0 r))else O
  |_=>O
 |some ps=>match Mb ls ps with
  |some ds=>bif Y2 ds then(match Me s ds with
   |some cs=>match E.TRg f (Rn (D0 ls) 0 ps) cs with
    |some (gd,rs)=>bif gd then k (Ro (D0 rs))else O
    |none=>O
   |none=>O)else O
  |none=>O
def C1R{f:Aai}{dZ:List Aaa}{args:List Aae}{s:St Ty den}{k:Ent Ty den->Option R}{r:R}
  (h:B12 E f dZ args s k=J r):∃e,Po E f dZ args s=J e/\k e=J r:=by
 unfold B12 at h;unfold Po;dsimp only at h ⊢;split at h;split at h;rename_i gd l hT;cases gd with
 |false=>cases h
 |true=>exact⟨_,by simp only[hT],h⟩
 rename_i gd l hT;cases gd with
 |false=>cases h
 |true=>exact⟨_,by simp only[hT],h⟩
 cases h;split at h;rename_i ds jL;revert h;cases Y2 ds with
 |false=>intro h;cases h
 |true=>
  simp only[GD];intro h;split at h;rename_i cs cN;split at h;rename_i gd rs hT;cases gd with
  |false=>cases h
  |true=>exact⟨_,by simp only[cN,Env.TR,hT,G6],h⟩
  cases h;cases h
 cases h
def B1F:Leaf Ty den->Bool
 | .nils=>Z
 |_=>V
def B7L(t u:Aaa)(x y:Aae)(dst:GA)(s:St Ty den)(k:Ent Ty den->St Ty den->Option R):Option R:=
 match E.tb t,(bif X3 x||B1F (opl E s t x)then(match E.tb t with
   | .slice t' _=>(Leaf.sl t' [] (J (B8 dst)),s.fresh (B8 dst))
   |_=>(Leaf.any,s))else(opl E s t x,s))with
 | .slice t' _,(.sl t0 l0 (J d),s1)=>match M1 E.U t' t0 l0 with
  |some l=>bif mem d s1.live then
    match E.tb u,opl E s u y with
    | .slice _ _,.sl v m _=>match M1 E.U t' v m with
     |some m'=>bif A3 (l.length+m'.length) (E.U.bytes t')then k (.one (.sl t' (l++m') (J d))) (s1.fresh d)else O
     |none=>O
    | .str,.str b=>match E.U.ofBytes t' with
     |some f=>bif A3 (l.length+b.length) (E.U.bytes t')then k (.one (.sl t' (l++f b) (J d))) (s1.fresh d)else O
     |none=>O
    |_,_=>O
   else O
  |none=>O
 |_,_=>O
def Mf(b:Builtin)(dZ:List Aaa)(args:List Aae)(dst:GA)(s:St Ty den)(k:Ent Ty den->St Ty den->Option R):Option R:=
 match b,dZ,args with
 | .len,[t],[x]=>match E.tb t,opl E s t x with
  | .slice _ _,.sl _ l _=>k (.one (.int .i64 l.length)) s
  | .str,.str b=>k (.one (.int .i64 b.length)) s
  |_,_=>O
 | .min,_,[x,y]=>match opl E s 0 x,opl E s 0 y with
  | .int k0 a,.int _ b=>k (.one (.int k0 (if b<a then b else a))) s
  |_,_=>O
 | .max,_,[x,y]=>match opl E s 0 x,opl E s 0 y with
  | .int k0 a,.int _ b=>k (.one (.int k0 (if b>a then b else a))) s
  |_,_=>O
 | .append,[t,u],[x,y]=>B7L E t u x y dst s k
 |_,_,_=>O
def OC(s:St Ty den)(ty:Aaa):Nat->List (Nat×Aae)->Option (List (Leaf Ty den))
 |_,[]=>J []
 |i,(j,x)::r=>bif Aab i j then(OC s ty (i+1) r).map ((opl E s ty x).close:: ·)else O
def B6P:Leaf Ty den->Value->Bool
 | .int k n,.int k' n'=>decide (k=k')&&decide (n=n')
 | .bool b,.bool b'=>b==b'
 | .str [],.string s=>s.data.toList.isEmpty
 | .sl _ [] O,.slice O 0 0=>Z
 |_,_=>V
def B01:List (Leaf Ty den)->Gw->Bool
 |[],[]=>Z
 |l::r,v::s=>B6P l v&&B01 r s
 |_,_=>V
def B25(e:Aaa)(u:Ty)(s:St Ty den)(x:Aae):Option (den u):=match opl E s 0 x with
 | .agg u' y=>(match M1 E.U u u' [y]with
  |some [y']=>J y'
  |_=>O)
 |_=>match x,E.zr e with
  | .const (.agg vs),J zs=>bif B01 zs vs.toList then E.U.dec u zs else O
  |_,_=>O
def Pp(e:Aaa)(u:Ty)(s:St Ty den):Nat->List (Nat×Aae)->Option (List (den u))
 |_,[]=>J []
 |i,(j,x)::r=>bif Aab i j then(match B25 E e u s x,Pp e u s (i+1) r with
  |some y',J l=>J (y'::l)
  |_,_=>O)else O
def Xr(U:UO Ty den)(t:Ty):List (Leaf Ty den)->Option (List (den t))
 |[]=>J []
 |l::r=>match U.dec t [l],Xr U t r with
  |some x,J xs=>J (x::xs)
  |_,_=>O
def P3{α:Type}(ls:List α)(o:Nat)(ys:List α):List α:=ls.take o++(ys++ls.drop (o+ys.length))
def Rt:Leaf Ty den->Bool
 | .int _ _| .bool _| .str _| .sl _ _ _| .elem _ _ _| .ifc _ _ _| .one1 _ _| .nils=>Z
 | .ptr _ o=>Aah 1000000000 o
 |_=>V
def cellsOf(n:Nat):Leaf Ty den->Option (List (Leaf Ty den))
 | .agg u y=>bif Aab (E.U.size u) n then J (E.U.cells u y)else O
 |l=>bif Rt l&&Aab n 1 then J [l]else O
def Mg(cl:Leaf Ty den->Leaf Ty den)(s:St Ty den)(fs:List (Nat×Nat)):List (Nat×Aae)->List (Leaf Ty den)->Option (List (Leaf Ty den))
 |[],ls=>J ls
 |(j,x)::r,ls=>match fs[j]? with
  |some (o,n)=>match cellsOf E n (cl (opl E s 0 x))with
   |some ys=>bif Aah (o+n) ls.length then Mg cl s fs r (P3 ls o ys)else O
   |none=>O
  |none=>O
def bnO(d:GA):Nat:=match d with|J i=>E.bn i|O=>99
def mbO(d:GA):Bool:=match d with|J i=>E.mb i|O=>V
def tyN(t:Aaa):GA:=match E.zr t with
 |some zs=>J zs.length
 |none=>O
def B9y:Leaf Ty den->Leaf Ty den->Option Bool
 | .int k a,.int k' b=>bif decide (k=k')then J (a==b)else O
 | .str a,.str b=>J (a==b)
 | .bool a,.bool b=>J (a==b)
 |_,_=>O
def B9X:List (Leaf Ty den)->List (Leaf Ty den)->Option Bool
 |[l],[m]=>B9y l m
 |l::r,m::q=>match B9y l m,B9X r q with
  |some a,J b=>J (a&&b)
  |_,_=>O
 |_,_=>O
def B6a(t:Aaa)(l m:Leaf Ty den):Option Bool:=match l,m,E.qeq t with
 | .agg u x,.agg u' y,J q=>match E.U.deq u q,E.U.deq u' q,B9X (E.U.cells u x) (E.U.cells u' y)with
  | .isTrue _,.isTrue _,J b=>J (!b)
  |_,_,_=>O
 |_,_,_=>O
def A6(o:Oper)(s:St Ty den)(k:Ent Ty den->St Ty den->Option R):Option R:=
 match o.op with
 | .move x=>k (opd E s o.type x) s
 | .assign x=>bif X3 x then
   (match opl E s o.type x with
   | .sl u l _=>k (.one (.sl u l (J (B8 o.dst)))) (s.fresh (B8 o.dst))
   |l=>k (.one l) s)
  else k (opd E s o.type x) s
 | .pick c a b=>match opl E s 0 c with
  | .bool Z=>k (.one (opl E s o.type a)) s
  | .bool V=>k (.one (opl E s o.type b)) s
  |_=>O
 | .extract x i=>match opd E s 0 x with
  | .tup ls=>match ls[i]? with
   |some l=>k (.one l) s
   |none=>O
  |_=>O
 | .binOp op t x y _=>match opl E s t x,opl E s t y with
  | .int k0 a,.int k1 b=>match op with
   | .shr=>bif decide (0<=b)&&decide (b<=31)&&decide (k0=.i32)then k (.one (.int k0 (a / 2^b.toNat))) s else O
   | .shl=>bif decide (0<=b)&&decide (b<=31)&&decide (k0=.i32)then k (.one (.int k0 (k0.wrap (a*2^b.toNat)))) s else O
   | .quo=>bif decide (k0=k1)&& !decide (b=0)then k (.one (.int k0 (k0.wrap (a.tdiv b)))) s else O
   | .rem=>bif decide (k0=k1)&& !decide (b=0)then k (.one (.int k0 (a.tmod b))) s else O
   |_=>bif decide (k0=k1)then(match B7d op k0 a b with|J l=>k (.one l) s|O=>O)else O
  | .str a,.str b=>match op with
   | .add=>bif decide (a.length+b.length<=9223372036854775807)then k (.one (.str (a++b))) s else O
   | .eql=>k (.one (.bool (a==b))) s
   | .neq=>k (.one (.bool (!(a==b)))) s
   |_=>O
  | .bool a,.bool b=>match E.tb t with
   | .bool=>match op with
    | .eql=>k (.one (.bool (a==b))) s
    | .neq=>k (.one (.bool (!(a==b)))) s
    |_=>O
   |_=>O
  |l,m=>match op,B6a E t l m with
   | .neq,J b=>k (.one (.bool b)) s
   |_,_=>O
 | .unOp op _ x=>match op,opl E s 0 x with
  | .not,.bool b=>k (.one (.bool (!b))) s
  | .neg,.int k0 n=>k (.one (.int k0 (k0.wrap (0 - n)))) s
  |_,_=>O
 | .convert src dst x=>match E.tb src,E.tb dst,opl E s src x with
  | .int _,.int k0,.int _ n=>k (.one (.int k0 (k0.wrap n))) s
  | .slice t e,.str,.sl u l _=>match E.tb e,M1 E.U t u l,E.U.toBytes t,E.U.toRunes t with
   | .int .u8,J l',J f,_=>k (.one (.str (f l'))) s
   | .int .i32,J l',_,J f=>k (.one (.str (Rm (f l')))) s
   |_,_,_,_=>O
  | .str,.slice t e,.str b=>match E.tb e,E.U.ofBytes t,E.U.ofRunes t with
   | .int .u8,J f,_=>bif A3 b.length 1 then k (.one (.sl t (f b) O)) s else O
   | .int .i32,_,J f=>bif A3 b.length 1 then k (.one (.sl t (f ((Aay ⟨b.toArray⟩ b.length 0 #[]).toList.map λ| .int _ n=>n|_=>0)) (J (B8 o.dst)))) (s.fresh (B8 o.dst))else O
   |_,_,_=>O
  | .slice t e,.slice _ _,.sl u l (J d)=>match M1 E.U t u l,E.tb e with
   |some l',.int .u8=>bif Aab src dst&&(mem d s.live&&Aac 0 l'.length)then k (.one (.sl t l' O)) (s.kill d)else O
   |_,_=>O
  |_,_,_=>O
 | .indexAddr t x i=>match E.tb t,opl E s t x,opl E s 0 i with
  | .slice t' _,.sl u l _,.int _ n=>match M1 E.U t' u l with
   |some l'=>match idx l' n with
    |some y=>k (.one (.elem t' y 0)) s
    |none=>O
   |none=>O
  |_,_,_=>O
 | .index t x i=>match E.tb t,opl E s t x,opl E s 0 i with
  | .str,.str b,.int _ n=>match idx b n with
   |some y=>k (.one (.int .u8 (y.toNat:Int))) s
   |none=>O
  |_,_,_=>O
 | .build t ps=>bif mbO E o.dst then(match E.tb t,E.zr t with
  | .struct _ fs,J zs=>match Mg E Leaf.close s fs ps.toList (Lj (bnO E o.dst) 0 zs)with
   |some ls=>k (.st ls) (Rq (bnO E o.dst) 0 s zs)
   |none=>O
  |_,_=>O)else match E.tb t with
  | .struct u fs=>match E.zr t with
   |some zs=>match Mg E Leaf.close s fs ps.toList zs with
    |some ls=>match E.U.dec u ls with
     |some x=>k (.one (.agg u x)) s
     |none=>O
    |none=>O
   |none=>O
  |_=>O
 | .alloc t=>match o.dst,E.zr t with
  |some i,J zs=>bif E.oz i then(bif Aac 0 zs.length then k (.one (.ptr (B8 (J i)) 0)) ((Rq (B8 (J i)) 0 (s.fresh (B8 (J i))) zs).set (bxi (B8 (J i))) (.bx (B8 (J i)) (Rp (Aab t E.U.bty) (B8 (J i)) (Lj (B8 (J i)) 0 zs))))else O)
   else bif Aac 0 zs.length then k (.one (.ptr (B8 (J i)) 0)) ((s.fresh (B8 (J i))).set (bxi (B8 (J i))) (.bx (B8 (J i)) zs))else O
  |_,_=>O
 | .box t x=>match o.dst,E.zr t with
  |some i,J zs=>match opd E s t x with
   | .st ys=>bif E.mb i&&(Aab ys.length zs.length&&Aac 0 zs.length)then k (.one (.ptr (B8 (J i)) 0)) ((s.fresh (B8 (J i))).set (bxi (B8 (J i))) (.bx (B8 (J i)) (Rp (Aab t E.U.bty) (B8 (J i)) (ys.map (·.strip (B8 (J i)))))))else O
   |_=>match cellsOf E zs.length (opl E s t x).close with
   |some ys=>bif E.mb i then(bif Aac 0 zs.length then k (.one (.ptr (B8 (J i)) 0)) ((s.fresh (B8 (J i))).set (bxi (B8 (J i))) (.bx (B8 (J i)) ys))else O)
    else(match opl E s t x with
    | .agg u y=>bif Aab (E.U.size u) zs.length then k (.one (.elem u y 0)) s else O
    |_=>O)
   |none=>O
  |_,_=>O
 | .nilCheck x=>match opl E s 0 x with
  | .elem u y off=>k (.one (.elem u y off)) s
  | .ptr d off=>bif Aac off 1000000 then k (.one (.ptr d off)) s else O
  |_=>O
 | .store t x y=>match o.dst,opl E s 0 x,tyN E t with
  |none,.ptr d off,J n=>match opd E s t y with
   | .st ys=>(match J1 s d with
    |some ls=>bif Aab ys.length n&&(Aah (off+n) ls.length&&Aac off 1000000)then k (.one .any) (s.set (bxi d) (.bx d (P3 ls off ys)))else O
    |none=>O)
   |_=>match J1 s d,cellsOf E n (opl E s t y)with
   |some ls,J ys=>bif Aah (off+n) ls.length&&Aac off 1000000 then k (.one .any) (s.set (bxi d) (.bx d (P3 ls off ys)))else O
   |_,_=>O
  |_,_,_=>O
 | .fieldAddr t x i=>match E.tb t,opl E s 0 x with
  | .struct v fs,.elem u y off=>match fs[i]? with
   |some (o,n)=>bif Aac 0 n then k (.one (.elem u y (off+o))) s else O
   |none=>O
  | .struct v fs,.ptr d off=>match fs[i]? with
   |some (o,n)=>bif Aac 0 n&&(Aac off 1000000&&Aac (off+o) 1000000)then k (.one (.ptr d (off+o))) s else O
   |none=>O
  |_,_=>O
 | .load t x=>match E.tb t with
  | .other=>O
  | .iface u=>match opl E s 0 x with
   | .elem u' y off=>match(bif Aab off 0 then M1 E.U u u' [y]else O)with
    |some [y']=>k (.one (.one1 u y')) s
    |_=>O
   |_=>O
  | .struct u _=>match opl E s 0 x with
   | .elem u' y off=>match(bif Aab off 0 then M1 E.U u u' [y]else O)with
    |some [y']=>k (.one (.agg u y')) s
    |_=>match E.U.dec u (((E.U.cells u' y).drop off).take (E.U.size u))with
     |some z=>k (.one (.agg u z)) s
     |none=>O
   | .ptr d off=>match J1 s d with
    |some ls=>bif Aac off 1000000 then(match E.U.dec u (D0 ((ls.drop off).take (E.U.size u)))with
     |some z=>k (.one (.agg u z)) s
     |none=>match E.fty t with
      |some u'=>bif Aab (E.U.size u') (E.U.size u)then(match E.U.dcx u' (D0 ((ls.drop off).take (E.U.size u)))with
       |some z=>k (.one (.agg u' z)) s
       |none=>O)else O
      |none=>O)else O
    |none=>O
   |_=>O
  |_=>match opl E s 0 x with
   | .elem u y off=>match(E.U.cells u y)[off]? with
    |some l=>k (.one l.close) s
    |none=>O
   | .ptr d off=>match J1 s d with
    |some ls=>bif Aac off 1000000 then(match ls[off]? with
     |some l=>k (.one l) s
     |none=>O)else O
    |none=>O
   |_=>O
 | .makeInterface t x=>match E.tb t,opl E s t x with
  | .struct u _,.agg u' y=>match M1 E.U u u' [y]with
   |some [y']=>k (.one (.ifc t u y')) s
   |_=>O
  |_,_=>O
 | .slice t x lo hi mx=>match E.tb t,opl E s t x with
  | .str,.str b=>match mx,T9 E s 0 lo,T9 E s b.length hi with
   |none,J a,J c=>match sub b a c with
    |some r=>k (.one (.str r)) s
    |none=>O
   |_,_,_=>O
  | .slice t' _,.sl u l _=>match M1 E.U t' u l with
   |some l'=>match T9 E s 0 lo,T9 E s l'.length hi,mx with
    |some a,J c,O=>match sub l' a c with
     |some r=>k (.one (.sl t' r O)) s
     |none=>O
    |some a,J c,J m=>match opl E s 0 m with
     | .int _ m=>bif hi.isSome&&decide (m=c)then(match sub l' a c with
      |some r=>k (.one (.sl t' r O)) s
      |none=>O)else O
     |_=>O
    |_,_,_=>O
   |none=>O
  |_,_=>O
 | .buildSlice t n ps=>match E.tb t with
  | .slice u e=>match E.tb e with
   | .struct _ _=>match Pp E e u s 0 ps.toList with
    |some xs=>bif Aab xs.length n&&Aac (n*E.U.size u) 65536 then k (.one (.sl u xs (J (B8 o.dst)))) (s.fresh (B8 o.dst))else O
    |none=>O
   |_=>match OC E s e 0 ps.toList with
   |some ls=>match Xr E.U u ls with
    |some xs=>bif Aab xs.length n&&(Aab (E.U.size u) 1&&Aac n 65536)then k (.one (.sl u xs (J (B8 o.dst)))) (s.fresh (B8 o.dst))else O
    |none=>O
   |none=>O
  |_=>O
 | .makeSlice t l c=>match E.tb t,opl E s 0 l,opl E s 0 c with
  | .slice u _,.int _ 0,.int _ m=>bif decide (0<=m)&&A3 m.toNat (E.U.bytes u)then k (.one (.sl u [] (J (B8 o.dst)))) (s.fresh (B8 o.dst))else O
  |_,_,_=>O
 | .range t x=>match E.tb t,opl E s t x with
  | .str,.str b=>k (.iter b 0) s
  |_,_=>O
 | .next (.tmp i) Z=>match s.get i with
  | .iter b pos=>bif decide (pos<b.length)then
    k (.tup [.bool Z,.int .i64 (pos:Int),.int .i32 ((Aas ⟨b.toArray⟩ pos).1:Int)]) (s.set i (.iter b (pos+(Aas ⟨b.toArray⟩ pos).2)))
   else k (.tup [.bool V]) s
  |_=>O
 | .call c=>match c.callee with
  | .value (.func f)=>match E.bp f with
   |some ps=>bif E.ro f then B12 E f c.argTypes.toList c.args.toList s λe=>k e s
    else C4t E f ps c.argTypes.toList c.args.toList o.dst s k
   |none=>B8c E f c.argTypes.toList c.args.toList o.dst s k
  | .builtin b=>Mf E b c.argTypes.toList c.args.toList o.dst s k
  | .invoke x nm=>B1n (E.TIg nm) (E.bi nm) (opl E s 0 x::O2 E s c.argTypes.toList c.args.toList) o.dst s k
  |_=>O
 |_=>O
def isR:Leaf Ty den->Bool
 | .ptr _ o=>Aah 1000000000 o
 |_=>V
def clR(l:Leaf Ty den):Leaf Ty den:=bif isR l then l else l.close
def rmO(d:GA):Bool:=match d with|J i=>E.rm i|O=>V
def rnO(d:GA):Nat:=match d with|J i=>1000000+i|O=>1000000
def O3(o:Oper)(s:St Ty den):Bool:=
 match o.op with
 | .assign x=>X3 x&&rmO E o.dst
 | .build _ _=>mbO E o.dst
 | .buildSlice _ _ _=>rmO E o.dst
 | .indexAddr t x _=>isR (opl E s t x)
 | .load _ _=>mbO E o.dst
 | .slice t x _ _ _=>isR (opl E s t x)
 | .call c=>match c.callee with
  | .builtin .append=>rmO E o.dst
  | .value (.func f)=>E.nw f
  | .builtin .len=>match c.argTypes.toList,c.args.toList with
   |[t],[x]=>isR (opl E s t x)||B1F (opl E s t x)
   |_,_=>V
  |_=>V
 |_=>V
def Pq(U:UO Ty den)(t:Ty)(l:List (den t)):List (Leaf Ty den):=l.flatMap (U.cells t)
def okW(n t sz:Nat):Bool:=Aac n 10000&&(Aac t 1000&&Aac sz 100)
def Xs(d:Nat)(ls:List (Leaf Ty den))(s:St Ty den):St Ty den:=(s.fresh d).set (bxi d) (.bx d (ls.map (·.strip d)))
def H3(o:Oper)(s:St Ty den)(k:Ent Ty den->St Ty den->Option R):Option R:=
 match o.op with
 | .assign _=>k (.one .nils) s
 | .build t ps=>match E.tb t,E.zr t with
  | .struct _ fs,J zs=>match Mg E clR s fs ps.toList zs with
   |some ls=>k (.st ls) s
   |none=>O
  |_,_=>O
 | .buildSlice t _ _=>A6 E o s λe _=>match e with
  | .one (.sl u xs _)=>bif Aac 0 xs.length&&okW xs.length t (E.U.size u)then k (.one (.ptr (rnO o.dst) (Kv xs.length t (E.U.size u)))) (Xs (rnO o.dst) (Pq E.U u xs) s)else O
  |_=>O
 | .indexAddr t x i=>match E.tb t,opl E s t x,opl E s 0 i with
  | .slice u _,.ptr d off,.int _ n=>bif decide (0<=n)&&(Aac n.toNat (rN off)&&(Aab (rS off) (E.U.size u)&&Aac (n.toNat*rS off) 1000000))then k (.one (.ptr d (n.toNat*rS off))) s else O
  |_,_,_=>O
 | .load t x=>match E.tb t,opl E s 0 x with
  | .struct u _,.ptr d off=>match J1 s d with
   |some ls=>bif Aac off 1000000&&Aah (off+E.U.size u) ls.length then k (.st ((ls.drop off).take (E.U.size u))) s else O
   |none=>O
  |_,_=>O
 | .slice t x O (J y) O=>match E.tb t,opl E s t x,opl E s 0 y with
  | .slice _ _,.ptr d off,.int _ n=>bif decide (0<=n)&&Aah n.toNat (rN off)then k (.one (.ptr d (Kv n.toNat (rT off) (rS off)))) s else O
  |_,_,_=>O
 | .call c=>match c.callee,c.argTypes.toList,c.args.toList with
  | .builtin .len,[t],[x]=>match E.tb t,opl E s t x with
   | .slice _ _,.ptr _ off=>k (.one (.int .i64 (rN off))) s
   | .slice _ _,.nils=>k (.one (.int .i64 0)) s
   |_,_=>O
  | .builtin .append,[t,u],[x,y]=>match E.tb t,E.tb u,opl E s u y with
   | .slice t' _,.slice _ _,.sl v m _=>match M1 E.U t' v m with
    |some m'=>bif Aac 0 m'.length then(match opl E s t x with
     | .nils=>bif okW m'.length t (E.U.size t')&&A3 m'.length (E.U.bytes t')then k (.one (.ptr (rnO o.dst) (Kv m'.length t (E.U.size t')))) (Xs (rnO o.dst) (Pq E.U t' m') s)else O
     | .ptr d off=>match J1 s d with
      |some ls=>bif(Aah 1000000 d&&(Aah 1000000000 off&&Aah (rN off*rS off) ls.length))&&(Aab (rS off) (E.U.size t')&&(okW (rN off+m'.length) t (E.U.size t')&&A3 (rN off+m'.length) (E.U.bytes t')))then
       k (.one (.ptr d (Kv (rN off+m'.length) t (E.U.size t')))) (Xs d (ls.take (rN off*rS off)++Pq E.U t' m') s)else O
      |none=>O
     |_=>O)else O
    |none=>O
   |_,_,_=>O
  | .value (.func f),dZ,args=>match o.dst,E.TNg f (D0 (O2 E s dZ args))with
   |some i,J (gd,ls)=>bif gd&&Aac i 900000 then k (.one (.ptr (B8 (J i)) 0)) ((s.fresh (B8 (J i))).set (bxi (B8 (J i))) (.bx (B8 (J i)) ls))else O
   |_,_=>O
  |_,_,_=>O
 |_=>O
def K6(o:Oper)(s:St Ty den)(k:Ent Ty den->St Ty den->Option R):Option R:=
 bif E.rw&&O3 E o s then H3 E o s k else A6 E o s k
def Ru:Value->Bool
 | .bool _=>V
 |_=>Z
def okd(m n:Nat)(d:GA):Bool:=match d with|J i=>Aac i n&&Aah m i|O=>Z
def B68(d:Nat):Aae->Bool
 | .tmp t=> !Aab t d
 |_=>Z
def B06(o o2:Oper)(s:St Ty den):Option (Nat×Leaf Ty den):=
 match o.op,o.dst,o2.op with
 | .alloc t,J d,.store t2 (.tmp d2) y=>bif Aab d d2&&(Aab t t2&&(B68 d y&&(o2.guard.isNone&&o2.dst.isNone)))then(match E.tb t,opl E s 0 y with
  | .struct u _,.agg u' x=>(match M1 E.U u u' [x]with
   |some [x']=>J (d,.elem u x' 0)
   |_=>O)
  |_,_=>O)else O
 |_,_,_=>O
def M8:Op->Bool
 | .alloc _=>Z
 |_=>V
def Rv(ops:Array Oper):List Oper->Bool->St Ty den->(St Ty den->Option R)->Option R
 |[],_,s,k=>k s
 |_::r,Z,s,k=>Rv ops r V s k
 |o::r,V,s,k=>bif okd E.np E.nt o.dst then match o.guard with
  |none=>bif M8 o.op&& !(mbO E o.dst)then(match r with
    |o2::_=>(match B06 E o o2 s with
     |some (d,l)=>Rv ops r Z (s.set d (.one l)) k
     |none=>O)
    |[]=>O)
   else K6 E o s λe s'=>Rv ops r V (s'.setO o.dst e) k
  |some (j,aS)=>match(ops[j]?).bind (·.dst)with
   |some g=>match s.get g with
    | .one (.bool b)=>bif b==aS
     then K6 E o (s.set g (.one (.bool aS))) λe s'=>Rv ops r V (s'.setO o.dst e) k
     else Rv ops r V ((s.set g (.one (.bool (!aS)))).setO o.dst (.one (.val undef))) k
    | .one (.val v)=>bif Ru v then Rv ops r V (s.setO o.dst (.one (.val undef))) k else O
    |_=>O
   |none=>O
  else O
def OD(ops:Array Oper)(os:List Oper)(s:St Ty den)(k:St Ty den->Option R):Option R:=Rv E ops os V s k
def Leaf.has(d:Nat):Leaf Ty den->Bool
 | .sl _ _ (J e)=>Aab e d
 | .ptr e _=>Aab e d
 |_=>V
def Ent.has(d:Nat):Ent Ty den->Bool
 | .one l=>l.has d
 | .tup ls=>ls.any (·.has d)
 | .st ls=>ls.any (·.has d)
 | .bx e ls=>bif Aab e d then Z else ls.any (·.has d)
 |_=>V
def Lk(d:Nat):List (Nat×Ent Ty den)->Bool
 |[]=>V
 |(_,e)::r=>bif e.has d then Z else Lk d r
def O0(o:Oper):Bool:=
 match o.op with
 | .move _| .pick .. | .extract .. | .binOp .. | .unOp .. | .indexAddr .. | .index .. | .load .. | .slice .. | .fieldAddr .. | .nilCheck _=>Z
 | .build .. => !mbO E o.dst
 | .assign _=>Z
 | .buildSlice _ _ _=>Z
 | .makeInterface _ _=>Z
 | .convert _ d _=>match E.tb d with| .slice _ _=>V|_=>Z
 | .call c=>match c.callee with
  | .value (.func f)=>(E.bp f).isNone||E.ro f
  | .builtin .len| .builtin .min| .builtin .max=>Z
  |_=>V
 |_=>V
def Rw(o:Oper)(j:Nat):Bool:=o.after.toList.any λe=>Aab e.on j&&(match e.ground with| .textOnly _| .gcOnly _=>V|_=>Z)
def D8:Nat->List Oper->List (Nat×Nat)
 |_,[]=>[]
 |i,o::r=>match o.dst with
  |some d=>(d,i)::D8 (i+1) r
  |none=>D8 (i+1) r
def Ux(o:Oper):Bool:=M8 o.op&&(o.guard.isNone&&mbO E o.dst)
def Ll(o:Oper):Bool:=O0 E o||Ux E o
def L7:List Oper->Nat
 |[]=>0
 |o::r=>bif Ll E o then L7 r+1 else 0
def gcE(e:Edge):Bool:=match e.ground with| .gcOnly _=>Z|_=>V
def txE(e:Edge):Bool:=match e.ground with| .textOnly _=>Z|_=>V
def C2E(ops:Array Oper)(m i:Nat)(e:Edge):Bool:=Aac e.on i||(gcE e&&(Aac e.on m&&(match ops[e.on]? with|J o=>o.after.toList.all txE|O=>V)))
def C4S(ops:Array Oper)(m:Nat)(jM:List (Nat×Nat))(i:Nat)(o:Oper):Bool:=
 Ll E o&&(o.after.toList.all (C2E ops m i)&&(o.looksAt ops).all λt=>Aac t 1000000&&jM.all λp=> !Aab p.1 t||Rw o p.2)
def B1K(e:Edge):Bool:=match e.ground with| .textOnly _| .gcOnly _=>V|_=>Z
def Rx(cl:List Gv):List Edge->Gv
 |[]=>[]
 |e::r=>bif B1K e then e.on::(cl.getD e.on []++Rx cl r)else Rx cl r
def Pr(o:Oper):Bool:=o.guard.isNone&&(match o.op with| .move (.tmp _)=>Z|_=>V)
def Uy(o:Oper):Bool:=o.guard.isNone&&(match o.op with| .extract (.tmp _) _=>Z|_=>V)
def Uz(ops:Array Oper)(oi:Oper)(i:Nat):Nat->List Oper->Bool
 |_,[]=>Z
 |j,o::r=>(Aab j i||(Rw o i||oi.apart ops o))&&Uz ops oi i (j+1) r
def B2N:List Oper->Bool
 |[]=>Z
 |o::r=>(match o.op with| .select _ _=>V|_=>Z)&&B2N r
def C3h(ds:Gv)(o:Oper):Bool:=match o.op with| .move (.tmp t)=> !mem t ds|_=>V
def C9f:List Edge->Bool
 |[]=>Z
 |_=>V
def Lm(ops:Array Oper)(m:Nat)(ds:Gv)(i:Nat)(o:Oper):Bool:=
 Aac i m&&(Pr o&&(C9f o.after.toList&&(Uz ops o i 0 ops.toList&&C3h ds o)))
def tl1(ops:Array Oper)(m:Nat)(i:Nat)(o:Oper):Bool:=
 Aah m i&&((Pr o||Uy o)&&Uz ops o i (i+1) (ops.toList.drop (i+1)))
def flL(ops:Array Oper)(m:Nat)(ds:Gv):Nat->List Oper->Gv
 |_,[]=>[]
 |i,o::r=>bif Lm ops m ds i o||tl1 ops m i o then i::flL ops m ds (i+1) r else flL ops m ds (i+1) r
def B3q(fl:Gv):Nat->Gv->Bool
 |0,_=>Z
 |n+1,l=>(mem n l||mem n fl)&&B3q fl n l
def B1P(fl:Gv)(m:Nat):Nat->List Oper->List Gv->Bool
 |_,[],_=>Z
 |i,o::r,cl=>o.after.toList.all (λe=>Aac e.on i||(Aac i m&&Aac e.on m))&&((Aac i m||B3q fl i (Rx cl o.after.toList))&&B1P fl m (i+1) r (cl++[Rx cl o.after.toList]))
def VA(ops:Array Oper)(m:Nat)(jM:List (Nat×Nat)):Nat->List Oper->Bool
 |_,[]=>Z
 |i,o::r=>C4S E ops m jM i o&&VA ops m jM (i+1) r
def S2:Gv->Bool
 |[]=>Z
 |x::r=> !mem x r&&S2 r
def VC:Gv->Bool
 |[]=>Z
 |x::r=>Aac x 1000000&&VC r
def C1Z(ops:Array Oper)(m:Nat):Bool:=
 VA E ops m (D8 0 (ops.toList.take m)) 0 (ops.toList.take m)&&(B1P (flL ops m ((D8 0 (ops.toList.take m)).map (·.1)) 0 ops.toList) m 0 ops.toList []&&(S2 ((D8 0 ops.toList).map (·.1))&&(VC ((D8 0 ops.toList).map (·.1))&&B2N ops.toList)))
def O7:Gv->Nat
 |[]=>0
 |_::r=>O7 r+1
def Ent.close1:Ent Ty den->Ent Ty den
 | .one l=>.one l.close
 |e=>e
def Pt(o:Oper)(s:St Ty den)(k:Ent Ty den->Option R):Option R:=
 match o.op with
 | .buildSlice _ _ _=>A6 E o s λe _=>k e.close1
 | .assign x=>bif X3 x then(match opl E s o.type x with
   | .sl u l _=>k (.one (.sl u l O))
   |_=>O)else K6 E o s λe s'=>bif Aab (O7 s'.live) (O7 s.live)then k e else O
 | .call c=>match c.callee with
  | .value (.func f)=>B12 E f c.argTypes.toList c.args.toList s k
  |_=>K6 E o s λe s'=>bif Aab (O7 s'.live) (O7 s.live)then k e else O
 |_=>K6 E o s λe s'=>bif Aab (O7 s'.live) (O7 s.live)then k e else O
def O4(o:Oper):Bool:=
 match o.op with
 | .buildSlice _ _ _=>Z
 | .assign x=>X3 x
 |_=>V
def OE(s:St Ty den):List Oper->Bool
 |[]=>Z
 |o::r=>bif O4 o then !Lk (B8 o.dst) s.fr&&OE s r else OE s r
def X0(ops:Array Oper):List Oper->St Ty den->(St Ty den->Option R)->Option R
 |[],s,k=>bif OE s (ops.toList.take (L7 E ops.toList))then k s else O
 |o::r,s,k=>bif okd E.np E.nt o.dst then match o.guard with
  |none=>bif M8 o.op then X0 ops r (s.setO o.dst (.one .any)) k else Pt E o s λe=>X0 ops r (s.setO o.dst e) k
  |some (j,aS)=>match(ops[j]?).bind (·.dst)with
   |some g=>match s.get g with
    | .one (.bool b)=>bif b==aS
     then Pt E o s λe=>X0 ops r ((s.set g (.one (.bool aS))).setO o.dst e) k
     else X0 ops r ((s.set g (.one (.bool (!aS)))).setO o.dst (.one (.val undef))) k
    | .one (.val v)=>bif Ru v then X0 ops r (s.setO o.dst (.one (.val undef))) k else O
    |_=>O
   |none=>O
  else O
def U5(ops:Array Oper):List Oper->St Ty den->(St Ty den->Option R)->Option R
 |[],s,k=>k s
 |o::r,s,k=>bif okd E.np E.nt o.dst then match o.guard with
  |none=>K6 E o s λe s'=>U5 ops r (s'.setO o.dst e) k
  |some (j,aS)=>match(ops[j]?).bind (·.dst)with
   |some g=>match s.get g with
    | .one (.bool b)=>bif b==aS
     then K6 E o (s.set g (.one (.bool aS))) λe s'=>U5 ops r (s'.setO o.dst e) k
     else U5 ops r ((s.set g (.one (.bool (!aS)))).setO o.dst (.one (.val undef))) k
    | .one (.val v)=>bif Ru v then U5 ops r (s.setO o.dst (.one (.val undef))) k else O
    |_=>O
   |none=>O
  else O
def Kw:Nat->List Oper->Option (Nat×Nat×Aaa)
 |_,[]=>O
 |i,o::r=>match o.op,o.dst with
  | .alloc t,J d=>J (i,d,t)
  |_,_=>Kw (i+1) r
def Xt:List Oper->Bool
 |[]=>Z
 |o::r=> !M8 o.op&&Xt r
def S5(i:Nat)(zs:List (Leaf Ty den))(s:St Ty den):St Ty den:=
 ((s.fresh (B8 (J i))).set (bxi (B8 (J i))) (.bx (B8 (J i)) zs)).set i (.one (.ptr (B8 (J i)) 0))
def B31(ops:Array Oper)(i:Nat):List Oper->Bool
 |[]=>Z
 |o::r=> !mem i (o.looksAt ops)&&B31 ops i r
def B8K(ops:Array Oper)(s:St Ty den)(k:St Ty den->Option R):Option R:=
 bif C1Z E ops (L7 E ops.toList)then
  X0 E ops (ops.toList.take (L7 E ops.toList)) (s.dels ((D8 0 (ops.toList.take (L7 E ops.toList))).map (·.1))) λsF=>
   match Kw 0 (ops.toList.take (L7 E ops.toList))with
   |none=>U5 E ops (ops.toList.drop (L7 E ops.toList)) sF k
   |some (ia,i,t)=>match E.zr t with
    |some zs=>bif Xt ((ops.toList.take (L7 E ops.toList)).drop (ia+1))&&(B31 ops i (ops.toList.take (L7 E ops.toList))&&(Aac 0 zs.length&&(Md zs&&(!Lk (B8 (J i)) sF.fr&& !E.oz i))))then
     U5 E ops (ops.toList.drop (L7 E ops.toList)) (S5 i zs sF) k else O
    |none=>O
 else O
def Mh(m:Nat):Array Bool:=(Ab8 m Z++Ab8 6 V).toArray
def Xu:Gv->Gv->Bool
 |[],[]=>Z
 |a::x,b::y=>Aab a b&&Xu x y
 |_,_=>V
def rdy(ops:Array Oper)(l:Array Bool)(rs:Gv):Bool:=Xu (Ab4 .any ops l) rs
def tk1(ops:Array Oper)(l:Array Bool)(i:Nat):Bool:=Region.free .any ops l i&&(Ab4 .any ops l).contains i
abbrev seT(l:Array Bool)(i:Nat):Array Bool:=l.setIfInBounds i Z
def ls4(m:Nat):Array Bool:=seT (seT (seT (seT (Mh m) m) (m+1)) (m+3)) (m+4)
def Xv(ops:Array Oper)(m:Nat):Bool:=
 Aab ops.size (m+6)&&(Region.noSelect ops&&(rdy ops (Mh m) [m]&&(tk1 ops (seT (Mh m) m) (m+1)&&(tk1 ops (seT (seT (Mh m) m) (m+1)) (m+3)&&
  (tk1 ops (seT (seT (seT (Mh m) m) (m+1)) (m+3)) (m+4)&&(rdy ops (ls4 m) [m+2,m+5]&&(rdy ops (seT (ls4 m) (m+2)) [m+5]&&
  (rdy ops (seT (ls4 m) (m+5)) [m+2]&&rdy ops (seT (seT (ls4 m) (m+2)) (m+5)) []))))))))
def Ry(s:St Ty den):Gv->St Ty den
 |[]=>s
 |d::r=>Ry (s.set d (.one .any)) r
def B4O(ops:Array Oper)(m:Nat)(s:St Ty den)(k:St Ty den->Option R):Option R:=
 match ops.toList.drop m with
 |[⟨J dA,.call c,_,_,_,O⟩,⟨J dI,.indexAddr t2 (.tmp a2) (.tmp jn),_,_,_,O⟩,⟨O,.store t3 (.tmp i3) (.tmp jv),_,_,_,O⟩,⟨J dN,.nilCheck (.tmp jp),_,_,_,O⟩,⟨J dF,.fieldAddr t5 (.tmp n5) fi,_,_,_,O⟩,⟨O,.store t6 (.tmp f6) (.tmp a6),_,_,_,O⟩]=>
  match c.callee,c.argTypes.toList,c.args.toList with
  | .builtin .append,[t1,u1],[x1,y1]=>
   bif Xu [dA,dI,dN,dF,dA,t1] [a2,i3,n5,f6,a6,t2]&&(S2 [dA,dI,dN,dF]&&((!mem jn [dA,dI,dN,dF]&&(!mem jv [dA,dI,dN,dF]&& !mem jp [dA,dI,dN,dF]))&&[dA,dI,dN,dF].all λd=>okd E.np E.nt (J d)))then
    match E.tb t1,E.tb u1,opl E s t1 x1,opl E s u1 y1,opl E s 0 (.tmp jv),opl E s 0 (.tmp jn),E.tb t5 with
    | .slice t' _,.slice _ _,.sl t0 l0 (J d),.sl u0 m0 _,.agg v0 x0,.int .i64 n,.struct _ fs=>
     match opl E (s.fresh d) 0 (.tmp jp)with
     | .ptr b off=>(match M1 E.U t' t0 l0,M1 E.U t' u0 m0,M1 E.U t' v0 [x0],fs[fi]?,J1 (s.fresh d) b,tyN E t3,tyN E t6 with
     |some l,J [_],J [x],J (o,n1),J ls,J sz,J zC=>
      bif(mem d s.live&&(Aab sz (E.U.size t')&&(Aab zC 1&&(Aac 0 n1&&(Aah (off+o+1) ls.length&&(Aac off 1000000&&Aac (off+o) 1000000))))))&&(decide (n=(l.length:Int))&&A3 (l.length+1) (E.U.bytes t'))then
       k ((Ry (s.fresh d) [dA,dI,dN,dF]).set (bxi b) (.bx b (P3 ls (off+o) [.sl t' (l++[x]) (J d)])))
      else O
     |_,_,_,_,_,_,_=>O)
     |_=>O
    |_,_,_,_,_,_,_=>O
   else O
  |_,_,_=>O
 |_=>O
def B9D(ops:Array Oper)(m:Nat):Bool:=
 VA E ops m (D8 0 (ops.toList.take m)) 0 (ops.toList.take m)&&(((ops.toList.drop m).all λo=>(Aao m).all λj=>Rw o j)&&(S2 ((D8 0 ops.toList).map (·.1))&&(VC ((D8 0 ops.toList).map (·.1))&&Xt (ops.toList.take m))))
def B7j(ops:Array Oper)(s:St Ty den)(k:St Ty den->Option R):Option R:=
 bif Xv ops (L7 E ops.toList)then(bif B9D E ops (L7 E ops.toList)then
  X0 E ops (ops.toList.take (L7 E ops.toList)) (s.dels ((D8 0 (ops.toList.take (L7 E ops.toList))).map (·.1))) λsF=>B4O E ops (L7 E ops.toList) sF k else O)
 else B8K E ops s k
def VD(body:St Ty den->(Ex->St Ty den->Option R)->Option R):Nat->St Ty den->(Ex->St Ty den->Option R)->Option R
 |0,_,_=>O
 |n+1,s,k=>body s λe s'=>match e with
  | .normal=>VD body n s' k
  |e=>k e s'
def B6q(b:St Ty den->(Ex->St Ty den->Option R)->Option R)(k:Ex->St Ty den->Option R):Ex->St Ty den->Option R
 | .normal,s=>b s k
 |e,s=>k e s
def Mi(id:Nat)(k:Ex->St Ty den->Option R):Ex->St Ty den->Option R
 | .exit j,s=>bif Aab j id then k .normal s else k (.exit j) s
 |e,s=>k e s
def Pu(d:Nat):Gv->Gv
 |[]=>[d]
 |e::r=>bif Aac d e then d::e::r else e::Pu d r
def gcN(fr:List (Nat×Ent Ty den)):Gv->Gv
 |[]=>[]
 |d::r=>bif Lk d fr then Pu d (gcN fr r)else gcN fr r
def St.gc(s:St Ty den):St Ty den:={s with live:=gcN s.fr s.live}
def Xw:Code->Nat
 | .region id _ _=>id
 | .seq a _=>Xw a
 | .block _ c=>Xw c
 |_=>9999
def B4E(ds:Gv)(k:Ex->St Ty den->Option R):Ex->St Ty den->Option R
 | .normal,s=>k .normal (s.dels ds).gc
 |e,s=>k e s
def J6(n:Nat):Code->St Ty den->(Ex->St Ty den->Option R)->Option R
 | .skip,s,k=>k .normal s
 | .region id ops V,s,k=>OD E ops ops.toList s λs'=>k .normal (s'.dels (E.drop id)).gc
 | .region id ops Z,s,k=>B7j E ops s λs'=>k .normal (s'.dels (E.drop id)).gc
 | .seq a b,s,k=>J6 n a s (B6q (J6 n b) k)
 | .cond c a b,s,k=>match opl E s 0 c with
  | .bool t=>bif t then J6 n a s k else J6 n b s k
  |_=>O
 | .block id c,s,k=>J6 n c s (Mi id k)
 | .loop c,s,k=>VD (λs' k'=>J6 n c s' (B4E (E.drop (10000+Xw c)) k')) n (s.dels (E.drop (10000+Xw c))).gc k
 | .exit id,s,k=>k (.exit id) s
 | .ret,s,k=>k .ret s
 |_,_,_=>O
def VE(s:St Ty den)(j:Nat):Leaf Ty den->Leaf Ty den
 | .sl t l (J d)=>bif mem d s.live then .sl t l (J (bif Aab d 0 then 0 else j+1))else .sl t l O
 | .ptr _ _=>.any
 |l=>l
def B4C(s:St Ty den)(ty:Aaa)(l:Leaf Ty den):Option (Leaf Ty den):=match E.tb ty,l with
 | .struct u _,.ptr d off=>match J1 s d with
  |some ls=>bif Aac off 1000000 then(match E.fty ty with
   |some u'=>bif Aab (E.U.size u') (E.U.size u)then(E.U.dcx u' (D0 ((ls.drop off).take (E.U.size u)))).map (.agg u')else O
   |none=>(E.U.dec u (D0 ((ls.drop off).take (E.U.size u)))).map (.agg u))else O
  |none=>O
 |_,_=>O
def X4:Nat->St Ty den->List Aam->Option (List (Leaf Ty den))
 |_,_,[]=>J []
 |j,s,.tmp t::r=>match s.get t with
  | .one l=>(X4 (j+1) (match l with| .sl _ _ (J d)=>s.kill d|_=>s) r).map (VE s j l:: ·)
  |_=>O
 |j,s,.cell t ty::r=>match s.get t with
  | .one l=>match B4C E s ty l,X4 (j+1) s r with
   |some l',J ls=>J (l'::ls)
   |_,_=>O
  |_=>O
def I1:St Ty den->List Aam->St Ty den
 |s,[]=>s
 |s,.tmp t::r=>I1 (match s.get t with| .one (.sl _ _ (J d))=>s.kill d|_=>s) r
 |s,_::r=>I1 s r
def Xx(U:UO Ty den)(u:Ty):Nat->List (Leaf Ty den)->Option (List (den u))
 |0,_=>J []
 |n+1,ls=>match U.dcx u (ls.take (U.size u)),Xx U u n (ls.drop (U.size u))with
  |some x,J r=>J (x::r)
  |_,_=>O
def Rz(d:Nat)(ls:List (Leaf Ty den)):Leaf Ty den->Leaf Ty den
 | .ptr e off=>bif Aab e d then(bif Aah 1000000000 off then(match E.fty (rT off)with
  |some u=>bif Aab (E.U.size u) (rS off)&&Aah (rN off*rS off) ls.length then(match Xx E.U u (rN off) (D0 ls)with
   |some l=>.sl u l O
   |none=>.any)else .any
  |none=>.any)else .any)else .ptr e off
 |l=>l.strip d
def Pw(d:Nat)(ls:List (Leaf Ty den)):Ent Ty den->Ent Ty den
 | .one l=>.one (Rz E d ls l)
 | .tup xs=>.tup (xs.map (Rz E d ls))
 | .st xs=>.st (xs.map (Rz E d ls))
 | .bx e xs=>bif Aab e d then .one .any else .bx e (xs.map (Rz E d ls))
 |e=>e
def VF(d:Nat)(ls:List (Leaf Ty den)):List (Nat×Ent Ty den)->List (Nat×Ent Ty den)
 |[]=>[]
 |(i,e)::r=>(i,Pw E d ls e)::VF d ls r
def Xy:Gv->St Ty den->St Ty den
 |[],s=>s
 |d::r,s=>Xy r (match J1 s d with
  |some ls=>{fr:=VF E d ls s.fr,live:=rem d s.live}
  |none=>s)
def B24(rs:List Aam)(s0:St Ty den):Option (Ent Ty den):=
 let s:=Xy E E.fzs s0
 match X4 E 0 s rs with
 |some [l]=>J (.one l)
 |some ls=>J (.tup ls)
 |none=>O
def VG(rs:List Aam):Ex->St Ty den->Option (Ent Ty den)
 | .normal,s| .ret,s=>B24 E rs s
 |_,_=>O
def SA:Nat->List (Leaf Ty den)->List (Nat×Ent Ty den)
 |_,[]=>[]
 |i,l::r=>(i,.one l)::SA (i+1) r
def L2:List (Leaf Ty den)->Bool
 |[]=>V
 | .sl _ _ (J 0)::_=>Z
 |_::r=>L2 r
def Mj(args:List (Leaf Ty den)):St Ty den:={fr:=SA 0 args,live:=bif L2 args then [0]else []}
def P4(n:Nat)(fn:Func)(args:List (Leaf Ty den)):Option (Ent Ty den):=
 match fn.body with
 |some c=>bif Aah args.length E.nt then J6 E n c (Mj args) (VG E fn.results.toList)else O
 |none=>O
def C9J(rs:List Aam):Ex->St Ty den->Option (List (Leaf Ty den))
 | .normal,s| .ret,s=>match rs with
  |[.tmp t]=>match s.get t with
   | .one (.ptr d o)=>bif Aab o 0&&Aac d 1000000 then J1 s d else O
   |_=>O
  |_=>O
 |_,_=>O
def B5s(n:Nat)(fn:Func)(args:List (Leaf Ty den)):Option (List (Leaf Ty den)):=
 match fn.body with
 |some c=>bif Aah args.length E.nt then(match J6 E n c (Mj args) (C9J fn.results.toList)with
  |some ls=>bif Md ls&&Aac 0 ls.length then J ls else O
  |none=>O)else O
 |none=>O
def Kx:List (Leaf Ty den)->Gv
 |[]=>[]
 | .sl _ _ (J d)::r=>d::Kx r
 | .ptr d _::r=>d::Kx r
 |_::r=>Kx r
def B73:Nat->St Ty den->List (List (Leaf Ty den))->St Ty den
 |_,s,[]=>s
 |k,s,c::r=>B73 (k+1) (s.set (bxi (B2 k)) (.bx (B2 k) c)) r
def M3:Nat->Nat->Gv
 |_,0=>[]
 |k,n+1=>B2 k::M3 (k+1) n
def pinned(s:St Ty den):Nat->Gv->Bool
 |_,[]=>Z
 |k,p::ps=>(match s.get p with| .one (.ptr d 0)=>Aab d (B2 k)&&Aac p E.np|_=>V)&&pinned s (k+1) ps
def B1z:List (List (Leaf Ty den))->List (List (Leaf Ty den))->Bool
 |[],[]=>Z
 |a::r,b::r'=>Aab a.length b.length&&B1z r r'
 |_,_=>V
def VH(rs:List Aam)(ps:Gv)(cs:List (List (Leaf Ty den))):Ex->St Ty den->Option (List (Leaf Ty den)×List (List (Leaf Ty den)))
 | .normal,s| .ret,s=>match X4 E 0 s rs,pkB 0 (I1 s rs) (M3 0 cs.length)with
  |some ls,J (ay,s')=>bif B1z cs ay&&(pinned E s 0 ps&&(Mc s' (M3 0 cs.length)&&Aac rs.length 100))then J (ls,ay)else O
  |_,_=>O
 |_,_=>O
def B0X(args:List (Leaf Ty den)):Nat->Gv->Bool
 |_,[]=>Z
 |k,p::ps=>(match args[p]? with|J (.ptr d 0)=>Aab d (B2 k)|_=>V)&&B0X args (k+1) ps
def D7(n:Nat)(fn:Func)(ps:Gv)(args:List (Leaf Ty den))(cs:List (List (Leaf Ty den))):Option (List (Leaf Ty den)×List (List (Leaf Ty den))):=
 match fn.body with
 |some c=>bif Aah args.length E.nt&&(B0X args 0 ps&&(Aab ps.length cs.length&&Aac cs.length 100))then
  J6 E n c (B73 0 {fr:=SA 0 args,live:=Kx (D6 0 cs)} cs) (VH E fn.results.toList ps cs)else O
 |none=>O
end ev
end Go.Aev
end
namespace Go.Aev
open Go
def C7(w:World)(b:Nat):Nat->Gw->World
 |_,[]=>w
 |o,v::r=>C7 (w.setCell ⟨b,o,O⟩ v) b (o+1) r
def B1p(w:World)(b o:Nat)(v:Value)(c:Array Value)(e:Aaa)(fz:Nat×Nat)(h:w.heap[b]?=J (.cells c e fz)):
  (w.setCell ⟨b,o,O⟩ v).heap[b]?=J (.cells (c.setIfInBounds o v) e fz):=by
 simp[Ab1,IM,h]
def Xz(w:World)(b o k:Nat)(v:Value)(h:k≠b):(w.setCell ⟨b,o,O⟩ v).heap[k]?=w.heap[k]? :=by
 simp only[Ab1,IM];rw[GI (by simpa using λe=>h e.symm)]
def Px(P:Aag)(b:Nat)(e:Aaa)(fz:Nat×Nat):∀(vs:Gw)(o:Nat)(w:World)(c:Array Value),
  w.heap[b]?=J (.cells c e fz)->o+vs.length<=c.size->(∀j,o<=j->j<o+vs.length->¬(fz.1<=j/\j<fz.2))->(∀v∈vs,v.oneCell'=Z)->
  (∀(a:Addr)(i:Nat),a=⟨b,o - i,O⟩->i<=o->(Abb a vs i).run P w=.ok () (C7 w b o vs))/\
  (∃c',(C7 w b o vs).heap[b]?=J (.cells c' e fz)/\c'.size=c.size/\(∀j,j<o\/o+vs.length<=j->c'[j]?=c[j]?)/\(∀j v,vs[j]?=J v->c'[o+j]?=J v))/\
  (C7 w b o vs).heap.size=w.heap.size/\(∀k,k≠b->(C7 w b o vs).heap[k]?=w.heap[k]?)/\
  (C7 w b o vs).os=w.os/\(C7 w b o vs).tape=w.tape/\(C7 w b o vs).output=w.output:=by
 intro vs
 induction vs with
 |nil=>
  intro o w c h _ _ _;exact⟨λa i _ _=>rfl,⟨c,h,rfl,λ_ _=>rfl,λj v hj=>by simp at hj⟩,rfl,λ_ _=>rfl,rfl,rfl,rfl⟩
 |cons v vs ih=>
  intro o w c h hl hf h1;have ej:o<c.size:=by simp at hl;omega
  have aH:w.cell? ⟨b,o,O⟩=J c[o]:=by
   simp[Aak,h,ej]
  have oK:w.frozen? ⟨b,o,O⟩=V:=by
   have:=hf o (GU _) GN;simp only[World.frozen?,h];simp;omega
  have h':=B1p w b o v c e fz h;obtain⟨i1,⟨c',i2,i3,i4,i5⟩,i6,i7,i8,i9,BK⟩:=ih (o+1) (w.setCell ⟨b,o,O⟩ v) _ h' (by simp at hl ⊢;omega)
   (λj a1 a2=>hf j FK GQ) (λu hu=>h1 u (by simp[hu]))
  refine⟨?_,⟨c',i2,by simpa using i3,?_,?_⟩,by simpa [C7]using i6,?_,i8.trans rfl,by simpa [C7]using i9,BK.trans rfl⟩;intro a i ha hi;subst ha;have cS:(Abk b (o - i) O).add i=⟨b,o,O⟩:=by
   unfold Addr.add;by_cases h0:i=0;subst h0;simp;simp[h0];omega
  have dg:=run_store P w ⟨b,o,O⟩ v .plain (h1 v GN);simp only[aH,oK]at dg;simp only[Abb,Ab3,cS,dg,Result.andThen_ok,Ij,if_false];exact i1 _ (i+1) GN FK;intro j hj;rw[i4 j (by simp at hj ⊢;omega)];simp at hj;rw[IU];rw[GI FK];intro j u hu;cases j with
  |zero=>
   simp at hu;subst hu;rw[i4 (o+0) FK];simp[ej]
  |succ j=>
   simp at hu;have:=i5 j u hu;rw[show o+(j+1)=o+1+j from FK];exact this
  intro k hk;simp only[C7];rw[i7 k hk,Xz w b o k v hk]
def YA(P:Aag)(u:Aaa):Prop:=(∃e',P.underlying u=J (.slice e'))\/P.underlying u=J .string
def B0N{P:Aag}(w:World)(t u ty e:Aaa)(i:Abe)(z:Value)(ht:P.underlying t=J (.slice e))(hu:YA P u)(hi:P.info? e=J i)(hz:i.zero=J z)
  (base:Option Addr)(M0 fQ:Nat)(dv:Gw)
  (cq:∀w':World,w'.heap=w.heap->(Aat i.size M0 (.slice base M0 fQ)).run P w'=.ok dv.toArray w')
  (x:Value)(m:Nat)(aR:Gw)(aA:(Aa2 x).run P w=.ok m w)
  (jN:∀w':World,w'.heap=w.heap->(Aat i.size m x).run P w'=.ok aR.toArray w')
  (hg:fQ<M0+m)(vV:M0+m<=9223372036854775807)(hb:(M0+m)*i.bytes<=140737488355328):
  (Aaz #[t,u] ty #[.slice base M0 fQ,x]).run P w=
    .ok (.slice (J ⟨w.heap.size,0,O⟩) (M0+m) (Aaw w (M0+m) fQ e))
     (w.drew.alloc (.cells (dv.toArray++aR.toArray++Ach z.cells (Aaw w (M0+m) fQ e - (M0+m))) e)):=by
 have hn:¬(M0+m<=fQ):=FK;have pP:¬(9223372036854775807<((M0:Int)+(m:Int))):=FK;have BL:=growslice_fits hg hb;have vW:¬(281474976710656<Builtin.nextslicecap (M0+m) fQ*i.bytes):=FK;have hf:=jN w.drew rfl;have BN:=cq w.drew rfl;rcases hu with⟨_,hd⟩|hd<;>
  (simp[Aaz,Aaf ht,Aaf hd,sizeOf,Aaj,zeroValue,hi,hz,aA,hn,pP,vW,Abs,hf,BN,Aau,Aaw]
   congr 2;apply It;simp[GV])
def YB{P:Aag}(w:World)(t u ty e:Aaa)(i:Abe)(ht:P.underlying t=J (.slice e))(hu:YA P u)(hi:P.info? e=J i)
  (base:Option Addr)(M0 fQ:Nat)(x:Value)(m:Nat)(aR:Gw)(aA:(Aa2 x).run P w=.ok m w)
  (jN:(Aat i.size m x).run P w=.ok aR.toArray w)(w':World)
  (dg:∀a,base=J a->(Abb (a.add (M0*i.size)) aR).run P w=.ok () w')(sq:base=O->w'=w)
  (hg:M0+m<=fQ):
  (Aaz #[t,u] ty #[.slice base M0 fQ,x]).run P w=.ok (.slice base (M0+m) fQ) w':=by
 cases base with
 |none=>
  have:=sq rfl;subst this;rcases hu with⟨_,hd⟩|hd<;>
   (simp[Aaz,Aaf ht,Aaf hd,sizeOf,Aaj,hi,aA,hg,jN])
 |some a=>
  have hs:=dg a rfl;rcases hu with⟨_,hd⟩|hd<;>
   (simp[Aaz,Aaf ht,Aaf hd,sizeOf,Aaj,hi,aA,hg,jN,hs])
end Go.Aev
namespace Go.Aev
variable {Ty:Type}{den:Ty->Type}
def flat(U:UO Ty den)(t:Ty)(l:List (den t)):List (Leaf Ty den):=l.flatMap (U.cells t)
structure UO.Ok(U:UO Ty den):Prop where
 pos:∀t,0<U.size t
 bpos:∀t,0<U.bytes t
 len:∀t x,(U.cells t x).length=U.size t
 dec:∀t ls x,U.dec t ls=J x->U.cells t x=ls
 ofBytes:∀t f,U.ofBytes t=J f->∀b:rg,(f b).length=b.length/\flat U t (f b)=b.map λc=>.int .u8 (c.toNat:Int)
 ofRunes:∀t f,U.ofRunes t=J f->∀b:Gp,(f b).length=b.length/\flat U t (f b)=b.map λc=>.int .i32 c
 solid:∀t x lf,lf∈U.cells t x->lf≠ .any/\(∀v,lf≠ .val v)/\∀u y,lf≠ .agg u y
 closed:∀t x lf,lf∈U.cells t x->lf.close=lf
 ofBytes1:∀t f,U.ofBytes t=J f->U.size t=1
 ofRunes1:∀t f,U.ofRunes t=J f->U.size t=1
 toRunes1:∀t f,U.toRunes t=J f->U.size t=1
 toRunes:∀t f,U.toRunes t=J f->∀l,flat U t l=(f l).map λn=>.int .i32 n
 toBytes1:∀t f,U.toBytes t=J f->U.size t=1
 toBytes:∀t f,U.toBytes t=J f->∀l,∃ns:Gp,flat U t l=ns.map (λn=>.int .u8 n)/\f l=ns.map λn=>Abr n.toNat
def PS(v:Value):Prop:=(∃p,v=.pointer p)\/∃a l c,v=.slice a l c
section
variable (U:UO Ty den)
inductive CRep (w:World)(wm:Nat->Nat):Leaf Ty den->Value->Prop
 |any (v:Value):CRep w wm .any v
 |int (k:Aap) (n:Int):CRep w wm (.int k n) (.int k n)
 |bool (b:Bool):CRep w wm (.bool b) (.bool b)
 |str (s:rg):CRep w wm (.str s) (.string ⟨s.toArray⟩)
 |val (v:Value):CRep w wm (.val v) v
 |nil (t:Ty) (own:GA) (a:Option Addr) (cap:Nat):CRep w wm (.sl t [] own) (.slice a 0 cap)
 |sl (t:Ty) (l:List (den t)) (own:GA) (b off cap:Nat) (cs:Nat->Value) (aW:l.length<=cap) (ba:off+l.length*U.size t<=wm b)
  (hc:∀j lf,(flat U t l)[j]?=J lf->w.cell? ⟨b,off+j,O⟩=J (cs j)) (hr:∀j lf,(flat U t l)[j]?=J lf->CRep w wm lf (cs j)):
  CRep w wm (.sl t l own) (.slice (J ⟨b,off,O⟩) l.length cap)
 |elem (t:Ty) (x:den t) (off b o:Nat) (cs:Nat->Value) (ba:o+U.size t<=wm b)
  (hc:∀j lf,(U.cells t x)[j]?=J lf->w.cell? ⟨b,o+j,O⟩=J (cs j)) (hr:∀j lf,(U.cells t x)[j]?=J lf->CRep w wm lf (cs j)):
  CRep w wm (.elem t x off) (.pointer (J ⟨b,o+off,O⟩))
 |agg (t:Ty) (x:den t) (vs:Gw) (hl:vs.length=U.size t) (cs:Nat->Value) (hc:∀j lf,(U.cells t x)[j]?=J lf->vs[j]?=J (cs j)) (hr:∀j lf,(U.cells t x)[j]?=J lf->CRep w wm lf (cs j)):
  CRep w wm (.agg t x) (.agg vs.toArray)
 |ifc (T:Aaa) (t:Ty) (x:den t) (v:Value) (h:CRep w wm (.agg t x) v):CRep w wm (.ifc T t x) (.iface T v)
 |one1 (t:Ty) (x:den t) (lf:Leaf Ty den) (v:Value) (hl:U.cells t x=[lf]) (h:CRep w wm lf v):CRep w wm (.one1 t x) v
 |ptr (d off:Nat) (v:Value) (h:PS v):CRep w wm (.ptr d off) v
 |nils:CRep w wm .nils (.slice O 0 0)
end
def CRep.pt{U:UO Ty den}{w:World}{wm:Nat->Nat}(d off:Nat)(p:Option Addr):CRep U w wm (.ptr d off) (.pointer p):=.ptr _ _ _ (.inl ⟨p,rfl⟩)
def Ln{U:UO Ty den}(hU:U.Ok)(t:Ty)(l:List (den t)):(flat U t l).length=l.length*U.size t:=by
 induction l with
 |nil=>simp[flat]
 |cons x l ih=>
  simp only[flat,ID,Fd,hU.len,Fr]at ih ⊢;rw[ih,Hz];omega
structure Ext(w:World)(wm:Nat->Nat)(w':World)(wm':Nat->Nat):Prop where
 ty:∀(b:Nat)(c:Array Value)(e:Aaa)(fz:Nat×Nat),w.heap[b]?=J (.cells c e fz)->∃(c':Array Value)(jy:Nat×Nat),w'.heap[b]?=J (.cells c' e jy)
 cell:∀b off,off<wm b->w'.cell? ⟨b,off,O⟩=w.cell? ⟨b,off,O⟩
 le:∀b,wm b<=wm' b
abbrev TyP(w w':World):Prop:=∀(b:Nat)(c:Array Value)(e:Aaa)(fz:Nat×Nat),w.heap[b]?=J (.cells c e fz)->∃(c':Array Value)(jy:Nat×Nat),w'.heap[b]?=J (.cells c' e jy)
def Lo{w w':World}{o:Obj}(h:w'.heap=w.heap.push o):TyP w w':=λb c e fz h1=>by
 have hb:=(HJ.1 h1).1;exact⟨c,fz,by rw[h,Hp,GI FK];exact h1⟩
def VI{w w':World}(h:w'.heap=w.heap):TyP w w':=λ_ c _ fz h1=>⟨c,fz,by rw[h];exact h1⟩
def VJ{w w':World}{b:Nat}{c c':Array Value}{e:Aaa}{fz jy:Nat×Nat}(hb:w.heap[b]?=J (.cells c e fz))(bC:w'.heap[b]?=J (.cells c' e jy))(ho:∀k,k≠b->w'.heap[k]?=w.heap[k]?):TyP w w':=λk c1 e1 f1 h1=>by
 by_cases hk:k=b;subst hk;rw[hb]at h1;cases h1;exact⟨_,_,bC⟩;exact⟨c1,f1,by rw[ho k hk];exact h1⟩
def C9E{w w':World}{b:Nat}(hb:∀c e fz,w.heap[b]? ≠J (.cells c e fz))(ho:∀k,k≠b->w'.heap[k]?=w.heap[k]?):TyP w w':=λk c1 e1 f1 h1=>by
 by_cases hk:k=b;subst hk;exact absurd h1 (hb _ _ _);exact⟨c1,f1,by rw[ho k hk];exact h1⟩
def Ext.refl(w:World)(wm:Nat->Nat):Ext w wm w wm:=⟨λ_ c _ fz h=>⟨c,fz,h⟩,λ_ _ _=>rfl,λ_=>GU _⟩
def Ext.trans{w1 w2 w3:World}{m1 m2 m3:Nat->Nat}(h:Ext w1 m1 w2 m2)(k:Ext w2 m2 w3 m3):Ext w1 m1 w3 m3:=
 ⟨λb c e fz h0=>by
  obtain⟨c1,f1,h1⟩:=h.ty b c e fz h0;exact k.ty b c1 e f1 h1,λb o ho=>(k.cell b o (t8 ho (h.le b))).trans (h.cell b o ho),λb=>HT (h.le b) (k.le b)⟩
def CRep.mono{U:UO Ty den}(hU:U.Ok){w w':World}{wm wm':Nat->Nat}(hx:Ext w wm w' wm'){lf:Leaf Ty den}{v:Value}(h:CRep U w wm lf v):CRep U w' wm' lf v:=by
 induction h with
 |any v=>exact .any v
 |int k n=>exact .int k n
 |bool b=>exact .bool b
 |str s=>exact .str s
 |val v=>exact .val v
 |nil t own a cap=>exact .nil t own a cap
 |sl t l own b off cap cs aW ba hc _ ih=>
  refine .sl t l own b off cap cs aW (HT ba (hx.le b)) (λj lf hj=>?_) ih;have bD:j<(flat U t l).length:=by
   rcases Hv j (flat U t l).length with h|h;exact h;rw[IF h]at hj;cases hj
  rw[Ln hU]at bD;rw[hx.cell b _ FK];exact hc j lf hj
 |agg t x vs hl cs hc _ ih=>exact .agg t x vs hl cs hc ih
 |ifc T t x v _ ih=>exact .ifc T t x v ih
 |one1 t x lf v hl _ ih=>exact .one1 t x lf v hl ih
 |ptr d off v h=>exact .ptr d off v h
 |nils=>exact .nils
 |elem t x off b o cs ba hc _ ih=>
  refine .elem t x off b o cs (HT ba (hx.le b)) (λj lf hj=>?_) ih;have bD:j<(U.cells t x).length:=by
   rcases Hv j (U.cells t x).length with h|h;exact h;rw[IF h]at hj;cases hj
  rw[hU.len]at bD;rw[hx.cell b _ FK];exact hc j lf hj
def CRep.close{U:UO Ty den}{w:World}{wm:Nat->Nat}{lf:Leaf Ty den}{v:Value}(h:CRep U w wm lf v):CRep U w wm lf.close v:=by
 cases h with
 |nil t own a cap=>exact .nil t O a cap
 |sl t l own b off cap cs aW ba hc hr=>exact .sl t l O b off cap cs aW ba hc hr
 |any v=>exact .any v
 |int k n=>exact .int k n
 |bool b=>exact .bool b
 |str s=>exact .str s
 |val v=>exact .val v
 |elem t x off b o cs ba hc hr=>exact .elem t x off b o cs ba hc hr
 |agg t x vs hl cs hc hr=>exact .agg t x vs hl cs hc hr
 |ifc T t x v h=>exact .ifc T t x v h
 |one1 t x lf v hl h=>exact .one1 t x lf v hl h
 |ptr d off b=>exact .any _
 |nils=>exact .nils
def CRep.own{U:UO Ty den}{w:World}{wm:Nat->Nat}{t:Ty}{l:List (den t)}{o:GA}{v:Value}(h:CRep U w wm (.sl t l o) v)(o':GA):CRep U w wm (.sl t l o') v:=by
 cases h with
 |nil t own a cap=>exact .nil t o' a cap
 |sl t l own b off cap cs aW ba hc hr=>exact .sl t l o' b off cap cs aW ba hc hr
structure Gh where
 wm:Nat->Nat
 G:Nat->Value
 Gs:Nat->Nat
 ib:Nat->Nat
def B2V(U:UO Ty den)(w:World)(b:Nat):Prop:=∃c fz,w.heap[b]?=J (.cells c U.bty fz)
def PtrAt(U:UO Ty den)(w:World)(b n off:Nat)(v:Value):Prop:=(v=.pointer (J ⟨b,off,O⟩)/\Aac off 1000000=Z)\/(off=A9/\B2V U w b/\(v=.pointer O\/v=.pointer (J ⟨b,0,O⟩)))\/
 (1000000000<=off/\∃c,v=.slice (J ⟨b,0,O⟩) (rN off) c/\rN off<=c/\c*rS off<=n)
def PtrAt.mono{U:UO Ty den}{w w':World}{m m':Nat->Nat}(hx:Ext w m w' m'){b n off:Nat}{v:Value}(h:PtrAt U w b n off v):PtrAt U w' b n off v:=by
 rcases h with h|⟨h1,⟨c,fz,h2⟩,h3⟩|h;exact .inl h;obtain⟨c',jy,h4⟩:=hx.ty b c _ fz h2;exact .inr (.inl ⟨h1,⟨c',jy,h4⟩,h3⟩);exact .inr (.inr h)
def PtrAt.at{U:UO Ty den}{w:World}{b n off:Nat}{v:Value}(h:PtrAt U w b n off v)(ho:Aac off 1000000=Z):v=.pointer (J ⟨b,off,O⟩):=by
 rw[HU]at ho;rcases h with h|h|h;exact h.1;have:=h.1;unfold A9 at this;omega;have:=h.1;omega
def PtrAt.row{U:UO Ty den}{w:World}{b n off:Nat}{v:Value}(h:PtrAt U w b n off v)(ho:1000000000<=off):∃c,v=.slice (J ⟨b,0,O⟩) (rN off) c/\rN off<=c/\c*rS off<=n:=by
 rcases h with h|h|h;have:=h.2;rw[HU]at this;omega;have:=h.1;unfold A9 at this;omega;exact h.2
def PtrAt.ptr{U:UO Ty den}{w:World}{b n off:Nat}{v:Value}(h:PtrAt U w b n off v):PS v:=by
 rcases h with h|⟨_,_,h|h⟩|⟨_,_,h,_⟩;exact .inl ⟨_,h.1⟩;exact .inl ⟨_,h⟩;exact .inl ⟨_,h⟩;exact .inr ⟨_,_,_,h⟩
def TyB(U:UO Ty den)(w:World)(t:Ty)(v:Value):Prop:=∀e a len cap,U.ety t=J e->v=.slice (J a) len cap->∃c fz,w.heap[a.block]?=J (.cells c e fz)
def TyB.ext{U:UO Ty den}{w w':World}{m m':Nat->Nat}(hx:Ext w m w' m'){t:Ty}{v:Value}(h:TyB U w t v):TyB U w' t v:=λe a len cap h1 h2=>by
 obtain⟨c,fz,h4⟩:=h e a len cap h1 h2;exact hx.ty _ c e fz h4
def TyB.nil{U:UO Ty den}{w:World}{t:Ty}{len cap:Nat}:TyB U w t (.slice O len cap):=λe a pQ cap h1 h2=>by cases h2
def TyB.new{U:UO Ty den}{w:World}{t:Ty}{b off len cap:Nat}{c:Array Value}{e:Aaa}{fz:Nat×Nat}(he:∀e',U.ety t=J e'->e'=e)(hb:w.heap[b]?=J (.cells c e fz)):TyB U w t (.slice (J ⟨b,off,O⟩) len cap):=λe' a' pQ gu h1 h2=>by
 cases h2;rw[he e' h1];exact⟨c,fz,hb⟩
def TyB.len{U:UO Ty den}{w:World}{t:Ty}{a:Addr}{len pQ cap:Nat}(h:TyB U w t (.slice (J a) len cap)):TyB U w t (.slice (J a) pQ cap):=λe a' su gu h1 h2=>by
 cases h2;exact h e a len cap h1 rfl
def Own(w:World)(g:Gh)(U:UO Ty den)(lf:Leaf Ty den)(v:Value):Prop:=(∀t l d,lf=.sl t l (J d)->v=g.G d/\U.size t=g.Gs d/\TyB U w t v)/\
 ∀d off,lf=.ptr d off->∃b n,g.G d=.slice (J ⟨b,0,O⟩) 0 n/\PtrAt U w b n off v
def LRep(U:UO Ty den)(w:World)(g:Gh)(lf:Leaf Ty den)(v:Value):Prop:=CRep U w g.wm lf v/\Own w g U lf v
def LsRep(U:UO Ty den)(w:World)(g:Gh):List (Leaf Ty den)->Gw->Prop
 |[],[]=>True
 |l::ls,v::vs=>LRep U w g l v/\LsRep U w g ls vs
 |_,_=>False
def BoxOk(U:UO Ty den)(w:World)(g:Gh)(d:Nat)(ls:List (Leaf Ty den)):Prop:=
 ∃b n,g.G d=.slice (J ⟨b,0,O⟩) 0 n/\(0<ls.length/\ls.length<=n/\(Aac d 1000000=Z->n=ls.length))/\g.Gs d=1/\∀(j:Nat) lf,ls[j]?=J lf->∃u,w.cell? ⟨b,j,O⟩=J u/\u.oneCell'=Z/\u.cells= #[u]/\LRep U w g lf u
def ERep(U:UO Ty den)(w:World)(g:Gh)(e:Ent Ty den)(v:Value):Prop:=
 match e with
 | .one l=>LRep U w g l v
 | .tup ls=>∃vs:Gw,v=.tuple vs.toArray/\LsRep U w g ls vs
 | .iter s pos=>∃b,v=.pointer (J ⟨b,0,O⟩)/\w.heap[b]?=J (.stringIter ⟨s.toArray⟩ pos)
 | .bx d ls=>BoxOk U w g d ls
 | .st ls=>∃vs:Gw,v=.agg vs.toArray/\LsRep U w g ls vs/\∀u∈vs,u.oneCell'=Z/\u.cells= #[u]
def Tip(w:World)(wm:Nat->Nat)(v:Value)(sz:Nat):Prop:=
 ∃a len cap,v=.slice a len cap/\len<=cap/\(cap=0\/∃b off c e fz,a=J ⟨b,off,O⟩/\w.heap[b]?=J (.cells c e fz)/\off+cap*sz<=c.size/\
  wm b=off+len*sz/\fz.2<=wm b)
def spare(v:Value):GA:=
 match v with
 | .slice (J a) len cap=>if cap=0 then O else J a.block
 |_=>O
structure Bs where
 w:World
 wm:Nat->Nat
 M:Nat->Prop
 np:Nat
 pv:Nat->Value
structure Rel(U:UO Ty den)(B:Bs)(g:Gh)(s:St Ty den)(a:Act)(w:World):Prop where
 os:w.os=B.w.os
 tape:w.tape=B.w.tape
 output:w.output=B.w.output
 size:B.w.heap.size<=w.heap.size
 frame:∀b,b<B.w.heap.size->¬B.M b->w.heap[b]?=B.w.heap[b]? /\g.wm b=B.wm b
 ext:Ext B.w B.wm w g.wm
 zero:∀b,w.heap.size<=b->g.wm b=0
 ent:∀i,ERep U w g (s.get i) (a.tmps.getD i undef)
 tip:∀d,mem d s.live=Z->Tip w g.wm (g.G d) (g.Gs d)
 disj:∀d e b,mem d s.live=Z->mem e s.live=Z->d≠e->spare (g.G d)=J b->spare (g.G e)≠J b
 mine:∀d b,mem d s.live=Z->spare (g.G d)=J b->B.w.heap.size<=b\/B.M b
 iter:∀i c pos,s.get i=.iter c pos->a.tmps.getD i undef=.pointer (J ⟨g.ib i,0,O⟩)/\B.w.heap.size<=g.ib i
 idis:∀i j c p c' p',i≠j->s.get i=.iter c p->s.get j=.iter c' p'->g.ib i≠g.ib j
 defers:a.defers=[]
 bxl:∀i d ls,s.get i=.bx d ls->mem d s.live=Z/\i=1000000+d
 pin:∀i,i<B.np->a.tmps.getD i undef=B.pv i
def REL(U:UO Ty den)(B:Bs)(s:St Ty den)(a:Act)(w:World):Prop:=∃g,Rel U B g s a w
section
variable {Ty:Type}{den:Ty->Type}
def Mk(U:UO Ty den):Prop:=∀t ls x,U.dcx t ls=J x->ls.length=U.size t/\∀(w:World)(wm:Nat->Nat)(cs:Nat->Value),(∀(j:Nat) lf,ls[j]?=J lf->CRep U w wm lf (cs j))->∀(j:Nat) lf,(U.cells t x)[j]?=J lf->CRep U w wm lf (cs j)
end
end Go.Aev
namespace Go.Aev
variable {Ty:Type}{den:Ty->Type}
def D5(a b:Nat):Aab a b=Z↔a=b:=Js ▸ Iff.rfl
def I2{a b:Nat}(h:a≠b):Aab a b=V:=by
 cases hb:Aab a b with
 |false=>rfl
 |true=>exact absurd ((D5 a b).1 hb) h
def G4(a:Nat):Aab a a=Z:=(D5 a a).2 rfl
def K7(d e:Nat)(l:Gv):mem e (rem d l)=Z↔mem e l=Z/\e≠d:=by
 induction l with
 |nil=>simp[mem,rem]
 |cons x l ih=>
  by_cases hx:x=d;subst hx;simp only[rem,G4,GD,mem,ih];by_cases he:x=e;subst he;simp;rw[I2 he];simp;simp only[rem,I2 hx,GF,mem];by_cases he:x=e;subst he;simp[G4,hx];simp only[I2 he,GF,ih]
def mem_cons(d e:Nat)(l:Gv):mem e (d::l)=Z↔d=e\/mem e l=Z:=by
 by_cases h:d=e;subst h;simp[mem,G4];simp[mem,I2 h,h]
def D4G(fr:List (Nat×Ent Ty den))(i j:Nat)(e:Ent Ty den):look (ins fr i e) j=if i=j then e else look fr j:=by
 induction fr with
 |nil=>
  by_cases h:i=j;simp[ins,look,h,G4];simp[ins,look,I2 h,h]
 |cons p r ih=>
  obtain⟨k,x⟩:=p;by_cases hk:k=i;subst hk;simp only[ins,G4,GD,look];by_cases h:k=j;simp[h,G4];simp[I2 h,h];simp only[ins,I2 hk,GF];cases hb:Aac i k with
  |true=>
   simp only[GD,look];by_cases h:i=j;simp[h,G4];simp[I2 h,h]
  |false=>
   simp only[GF,look,ih];by_cases h:k=j;subst h;simp[G4,IC hk];simp[I2 h]
def D3T(fr:List (Nat×Ent Ty den))(ds:Gv)(i:Nat):look (del fr ds) i=.one .any\/look (del fr ds) i=look fr i:=by
 induction fr with
 |nil=>exact .inl rfl
 |cons p r ih=>
  obtain⟨k,x⟩:=p;simp only[del];cases hm:mem k ds with
  |true=>
   simp only[GD,look];by_cases h:k=i;subst h;left;clear ih
   induction r with
   |nil=>rfl
   |cons q r zD=>
    obtain⟨k2,x2⟩:=q;simp only[del];cases fq:mem k2 ds with
    |true=>simpa using zD
    |false=>
     simp only[GF,look];by_cases h2:k2=k;subst h2;rw[hm]at fq;cases fq;simp only[I2 h2,GF];exact zD
   simp only[I2 h,GF];exact ih
  |false=>
   simp only[GF,look];by_cases h:k=i;simp[h,G4];simp only[I2 h,GF];exact ih
def C1o(d:Nat)(fr:List (Nat×Ent Ty den))(i:Nat):look (Xp d fr) i=(look fr i).strip d:=by
 induction fr with
 |nil=>rfl
 |cons p r ih=>
  obtain⟨k,x⟩:=p;simp only[Xp,look];by_cases h:k=i;simp[h,G4];simp only[I2 h,GF];exact ih
def C4r{d e:Nat}:∀{l:Gv},mem e (Pu d l)=Z->d=e\/mem e l=Z
 |[],h=>by
  simp only[Pu]at h;rw[mem_cons]at h;exact h
 |x::r,h=>by
  simp only[Pu]at h;cases hb:Aac d x with
  |true=>
   rw[hb]at h;simp only[GD]at h;rw[mem_cons]at h;exact h
  |false=>
   rw[hb]at h;simp only[GF]at h;rw[mem_cons]at h ⊢;rcases h with h|h;exact .inr (.inl h);exact(C4r h).imp id .inr
def B7Y{fr:List (Nat×Ent Ty den)}{d:Nat}:∀{l:Gv},mem d (gcN fr l)=Z->mem d l=Z
 |[],h=>h
 |e::r,h=>by
  simp only[gcN]at h;cases hh:Lk e fr with
  |true=>
   rw[hh]at h;simp only[GD]at h;rw[mem_cons];exact(C4r h).imp id B7Y
  |false=>
   rw[hh]at h;simp only[GF]at h;rw[mem_cons];exact .inr (B7Y h)
def F2(s:St Ty den)(i j:Nat)(e:Ent Ty den):(s.set i e).get j=if i=j then e else s.get j:=D4G _ _ _ _
def YC(s:St Ty den)(d i:Nat):(s.kill d).get i=(s.get i).strip d:=C1o _ _ _
def Py(s:St Ty den)(d i:Nat):(s.fresh d).get i=(s.get i).strip d:=C1o _ _ _
def B23(a:Act)(d i:Nat)(v:Value)(h:d<a.tmps.size):(a.put (J d) v).tmps.getD i undef=if d=i then v else a.tmps.getD i undef:=by
 simp only[Abl,HE,IU];by_cases hd:d=i;subst hd;simp[h];simp[hd]
def Y4(a:Act)(d:GA)(v:Value):(a.put d v).tmps.size=a.tmps.size:=by
 cases d<;>simp[Abl]
def B5A(a:Act)(d:GA)(v:Value):(a.put d v).defers=a.defers:=by
 cases d<;>simp[Abl]
def Leaf.strip_cases(d:Nat)(lf:Leaf Ty den):lf.strip d=lf\/(∃t l,lf=.sl t l (J d)/\lf.strip d=.sl t l O)\/∃o,lf=.ptr d o/\lf.strip d=.any:=by
 cases lf with
 |sl t l o=>
  cases o with
  |none=>exact .inl rfl
  |some e=>
   by_cases h:e=d;subst h;exact .inr (.inl ⟨t,l,rfl,by simp[Leaf.strip,G4]⟩);exact .inl (by simp[Leaf.strip,I2 h])
 |ptr e o=>
  by_cases h:e=d;subst h;exact .inr (.inr ⟨o,rfl,by simp[Leaf.strip,G4]⟩);exact .inl (by simp[Leaf.strip,I2 h])
 |_=>exact .inl rfl
def Leaf.strip_ptr(d e o:Nat)(lf:Leaf Ty den)(h:lf.strip d=.ptr e o):e≠d/\lf=.ptr e o:=by
 cases lf with
 |sl t' l' o=>
  cases o<;>simp[Leaf.strip]at h
 |ptr x y=>
  by_cases hx:x=d;subst hx;simp[Leaf.strip,G4]at h;simp only[Leaf.strip,I2 hx,GF]at h;have h2:=h;simp only[Leaf.ptr.injEq]at h2;exact⟨by rw[<-h2.1];exact hx,h⟩
 |_=>simp[Leaf.strip]at h
def Leaf.strip_own(d e:Nat)(lf:Leaf Ty den)(t:Ty)(l:List (den t))(h:lf.strip d=.sl t l (J e)):e≠d/\lf=.sl t l (J e):=by
 cases lf with
 |sl t' l' o=>
  cases o with
  |none=>simp[Leaf.strip]at h
  |some x=>
   by_cases hx:x=d;subst hx;simp[Leaf.strip,G4]at h;simp only[Leaf.strip,I2 hx,GF]at h;have h2:=h;simp only[Leaf.sl.injEq,GX]at h2;obtain⟨_,_,rfl⟩:=h2;exact⟨hx,h⟩
 |ptr x y=>
  by_cases hx:x=d;subst hx;simp[Leaf.strip,G4]at h;simp[Leaf.strip,I2 hx]at h
 |_=>simp[Leaf.strip]at h
variable {U:UO Ty den}
def CRep.strip{w:World}{wm:Nat->Nat}{lf:Leaf Ty den}{v:Value}(h:CRep U w wm lf v)(d:Nat):CRep U w wm (lf.strip d) v:=by
 rcases lf.strip_cases d with e|⟨t,l,rfl,e⟩|⟨o,rfl,e⟩;rw[e];exact h;rw[e];exact h.own O;rw[e];exact .any v
structure Gh.off(g g':Gh)(d:Nat):Prop where
 G:∀e,e≠d->g'.G e=g.G e
 Gs:∀e,e≠d->g'.Gs e=g.Gs e
def LRep.step(hU:U.Ok){w w':World}{g g':Gh}{d:Nat}(hx:Ext w g.wm w' g'.wm)(ho:g.off g' d){lf:Leaf Ty den}{v:Value}(h:LRep U w g lf v):LRep U w' g' (lf.strip d) v:=by
 refine⟨(h.1.strip d).mono hU hx,λt l e he=>?_,λe o he=>?_⟩;obtain⟨h1,h2⟩:=Leaf.strip_own d e lf t l he;rw[ho.G e h1,ho.Gs e h1];have:=h.2.1 t l e h2;exact⟨this.1,this.2.1,this.2.2.ext hx⟩;obtain⟨h1,h2⟩:=Leaf.strip_ptr d e o lf he;rw[ho.G e h1];obtain⟨b,n,h3,h4⟩:=h.2.2 e o h2;exact⟨b,n,h3,h4.mono hx⟩
def LsRep.step(hU:U.Ok){w w':World}{g g':Gh}{d:Nat}(hx:Ext w g.wm w' g'.wm)(ho:g.off g' d):∀{ls:List (Leaf Ty den)}{vs:Gw},LsRep U w g ls vs->LsRep U w' g' (ls.map (·.strip d)) vs
 |[],[],_=>trivial
 |_::_,_::_,h=>⟨h.1.step hU hx ho,LsRep.step hU hx ho h.2⟩
def BoxOk.ex{w:World}{g:Gh}{d:Nat}{ls:List (Leaf Ty den)}(b:Nat)(h1:g.G d=.slice (J ⟨b,0,O⟩) 0 ls.length)(h2:0<ls.length)(h3:g.Gs d=1)(h4:∀(j:Nat) lf,ls[j]?=J lf->∃u,w.cell? ⟨b,j,O⟩=J u/\u.oneCell'=Z/\u.cells= #[u]/\LRep U w g lf u):BoxOk U w g d ls:=
 ⟨b,_,h1,⟨h2,GU _,λ_=>rfl⟩,h3,h4⟩
def BoxOk.spare{w:World}{g:Gh}{d:Nat}{ls:List (Leaf Ty den)}(h:BoxOk U w g d ls):∃b n,g.G d=.slice (J ⟨b,0,O⟩) 0 n/\Go.Aev.spare (g.G d)=J b:=by
 obtain⟨b,n,h1,⟨h2,h3,_⟩,_⟩:=h;refine⟨b,n,h1,?_⟩;rw[h1];simp only[Go.Aev.spare];rw[GI FK]
def BoxOk.step(hU:U.Ok){w w':World}{g g':Gh}{d d':Nat}{ls:List (Leaf Ty den)}(hx:Ext w g.wm w' g'.wm)(ho:g.off g' d)(h:BoxOk U w g d' ls)(hd:d'≠d)(hb:∀b,Go.Aev.spare (g.G d')=J b->w'.heap[b]?=w.heap[b]?):BoxOk U w' g' d' (ls.map (·.strip d)):=by
 obtain⟨b0,n0,e1,e2⟩:=h.spare;obtain⟨b,n,h1,h2,h3,h4⟩:=h;rw[h1]at e1;cases e1;refine⟨b0,n0,by rw[ho.G d' hd,h1],by rw[HR];exact h2,by rw[ho.Gs d' hd,h3],λj lf hj=>?_⟩;rw[HG]at hj;obtain⟨l0,dq,rfl⟩:=Hi.1 hj;obtain⟨u,u1,u2,u3,u4⟩:=h4 j l0 dq;exact⟨u,by rw[<-u1];exact HK (a:=⟨b0,j,O⟩) (hb b0 e2),u2,u3,u4.step hU hx ho⟩
def ERep.step(hU:U.Ok){w w':World}{g g':Gh}{d:Nat}(hx:Ext w g.wm w' g'.wm)(ho:g.off g' d){e:Ent Ty den}{v:Value}(h:ERep U w g e v)
  (hi:∀c pos,e=.iter c pos->∀b,v=.pointer (J ⟨b,0,O⟩)->w'.heap[b]?=w.heap[b]?)
  (hb:∀d' ls,e=.bx d' ls->d'≠d->∀b,spare (g.G d')=J b->w'.heap[b]?=w.heap[b]?):ERep U w' g' (e.strip d) v:=by
 cases e with
 |bx d' ls=>
  simp only[Ent.strip];by_cases hd:d'=d;subst hd;rw[G4];exact⟨.any v,λt l d h=>by(cases h),λ_ _ h=>by(cases h)⟩;rw[I2 hd];exact BoxOk.step hU hx ho h hd (hb d' ls rfl hd)
 |one l=>exact LRep.step hU hx ho h
 |tup ls=>obtain⟨vs,hv,hr⟩:=h;exact⟨vs,hv,LsRep.step hU hx ho hr⟩
 |st ls=>obtain⟨vs,hv,hr,h1⟩:=h;exact⟨vs,hv,LsRep.step hU hx ho hr,h1⟩
 |iter c pos=>
  obtain⟨b,hv,hb⟩:=h;exact⟨b,hv,(hi c pos rfl b hv).trans hb⟩
def LRep.same(hU:U.Ok){w w':World}{g g':Gh}(hx:Ext w g.wm w' g'.wm)(hG:g'.G=g.G)(dh:g'.Gs=g.Gs){lf:Leaf Ty den}{v:Value}(h:LRep U w g lf v):LRep U w' g' lf v:=
 ⟨h.1.mono hU hx,λt l e he=>by rw[hG,dh];have:=h.2.1 t l e he;exact⟨this.1,this.2.1,this.2.2.ext hx⟩,λe o he=>by rw[hG];obtain⟨b,n,h3,h4⟩:=h.2.2 e o he;exact⟨b,n,h3,h4.mono hx⟩⟩
def BoxOk.same(hU:U.Ok){w w':World}{g g':Gh}{d:Nat}{ls:List (Leaf Ty den)}(hx:Ext w g.wm w' g'.wm)(hG:g'.G=g.G)(dh:g'.Gs=g.Gs)(h:BoxOk U w g d ls)(hb:∀b,Go.Aev.spare (g.G d)=J b->w'.heap[b]?=w.heap[b]?):BoxOk U w' g' d ls:=by
 obtain⟨b0,n0,e1,e2⟩:=h.spare;obtain⟨b,n,h1,h2,h3,h4⟩:=h;rw[h1]at e1;cases e1;refine⟨b0,n0,by rw[hG,h1],h2,by rw[dh,h3],λj lf hj=>?_⟩;obtain⟨u,u1,u2,u3,u4⟩:=h4 j lf hj;exact⟨u,by rw[<-u1];exact HK (a:=⟨b0,j,O⟩) (hb b0 e2),u2,u3,u4.same hU hx hG dh⟩
def LsRep.same(hU:U.Ok){w w':World}{g g':Gh}(hx:Ext w g.wm w' g'.wm)(hG:g'.G=g.G)(dh:g'.Gs=g.Gs):∀{ls:List (Leaf Ty den)}{vs:Gw},LsRep U w g ls vs->LsRep U w' g' ls vs
 |[],[],_=>trivial
 |_::_,_::_,h=>⟨h.1.same hU hx hG dh,LsRep.same hU hx hG dh h.2⟩
def ERep.same(hU:U.Ok){w w':World}{g g':Gh}(hx:Ext w g.wm w' g'.wm)(hG:g'.G=g.G)(dh:g'.Gs=g.Gs){e:Ent Ty den}{v:Value}(h:ERep U w g e v)
  (hi:∀c pos,e=.iter c pos->∀b,v=.pointer (J ⟨b,0,O⟩)->w'.heap[b]?=w.heap[b]?)
  (hb:∀d' ls,e=.bx d' ls->∀b,spare (g.G d')=J b->w'.heap[b]?=w.heap[b]?):ERep U w' g' e v:=by
 cases e with
 |bx d' ls=>exact BoxOk.same hU hx hG dh h (hb d' ls rfl)
 |one l=>exact LRep.same hU hx hG dh h
 |tup ls=>obtain⟨vs,hv,hr⟩:=h;exact⟨vs,hv,LsRep.same hU hx hG dh hr⟩
 |st ls=>obtain⟨vs,hv,hr,h1⟩:=h;exact⟨vs,hv,LsRep.same hU hx hG dh hr,h1⟩
 |iter c pos=>
  obtain⟨b,hv,hb⟩:=h;exact⟨b,hv,(hi c pos rfl b hv).trans hb⟩
def ERep.any(w:World)(g:Gh)(v:Value):ERep U w g (.one .any:Ent Ty den) v:=⟨.any v,λt l d h=>by(cases h),λ_ _ h=>by(cases h)⟩
def Ent.isIter:Ent Ty den->Bool
 | .iter _ _=>Z
 | .bx _ _=>Z
 |_=>V
variable {B:Bs}{g:Gh}{s:St Ty den}{a:Act}{w:World}
def Rel.set(h:Rel U B g s a w){e:Ent Ty den}{v:Value}(he:ERep U w g e v)(hi:e.isIter=V)(d:Nat)(hd:d<a.tmps.size/\B.np<=d):Rel U B g (s.set d e) (a.put (J d) v) w:=by
 have vX:=hd.2;have hd:=hd.1;have aY:=B23 a d;refine{h with ent:=λi=>?_,iter:=λi c pos hc=>?_,idis:=λi j c p c' p' cJ h1 h2=>?_,defers:=by rw[B5A];exact h.defers,bxl:=λi e ls hc=>?_,pin:=λi hi=>by rw[aY i v hd,GI FK];exact h.pin i hi};rw[F2,aY i v hd];by_cases db:d=i;simp only[GJ db];exact he;simp only[GI db];exact h.ent i;rw[F2]at hc;rw[aY i v hd];by_cases db:d=i;rw[GJ db]at hc;subst hc;cases hi;rw[GI db]at hc ⊢;exact h.iter i c pos hc;rw[F2]at h1 h2;by_cases db:d=i;rw[GJ db]at h1;subst h1;cases hi;by_cases lz:d=j;rw[GJ lz]at h2;subst h2;cases hi;rw[GI db]at h1;rw[GI lz]at h2;exact h.idis i j c p c' p' cJ h1 h2;rw[F2]at hc;by_cases db:d=i;rw[GJ db]at hc;subst hc;cases hi;rw[GI db]at hc;exact h.bxl i e ls hc
def Rel.weaken{s':St Ty den}(h:Rel U B g s a w)(he:∀i,s'.get i=.one .any\/s'.get i=s.get i)(hl:∀d,mem d s'.live=Z->mem d s.live=Z)(vY:∀i d ls,s'.get i=.bx d ls->mem d s.live=Z->mem d s'.live=Z):Rel U B g s' a w:=by
 refine{h with ent:=λi=>?_,tip:=λd hd=>h.tip d (hl d hd),disj:=λd e b hd nW=>h.disj d e b (hl d hd) (hl e nW),mine:=λd b hd=>h.mine d b (hl d hd),iter:=λi c pos hc=>?_,idis:=λi j c p c' p' cJ h1 h2=>?_,bxl:=λi d ls hc=>?_};rcases he i with h1|h1;rw[h1];exact .any _ _ _;rw[h1];exact h.ent i;rcases he i with h1|h1;rw[h1]at hc;cases hc;rw[h1]at hc;exact h.iter i c pos hc;rcases he i with e1|e1;rw[e1]at h1;cases h1;rcases he j with e2|e2;rw[e2]at h2;cases h2;rw[e1]at h1;rw[e2]at h2;exact h.idis i j c p c' p' cJ h1 h2;have fF:=hc;rcases he i with e1|e1;rw[e1]at hc;cases hc;rw[e1]at hc;obtain⟨h1,h2⟩:=h.bxl i d ls hc;exact⟨vY i d ls fF h1,h2⟩
def C9q{fr:List (Nat×Ent Ty den)}{d:Nat}:∀{i:Nat}{e:Ent Ty den},look fr i=e->e.has d=Z->Lk d fr=Z:=by
 induction fr with
 |nil=>intro i e h1 h2;simp only[look]at h1;subst h1;cases h2
 |cons p r ih=>
  obtain⟨k,x⟩:=p;intro i e h1 h2;simp only[look]at h1;simp only[Lk];cases hx:x.has d with
  |true=>rfl
  |false=>
   cases hk:Aab k i with
   |true=>rw[hk]at h1;simp only[GD]at h1;subst h1;rw[hx]at h2;cases h2
   |false=>rw[hk]at h1;exact ih h1 h2
def B2X{d e:Nat}:∀{l:Gv},d=e\/mem e l=Z->mem e (Pu d l)=Z
 |[],h=>by
  simp only[Pu];rw[mem_cons];exact h
 |x::r,h=>by
  simp only[Pu];cases hb:Aac d x with
  |true=>simp only[GD];rw[mem_cons];exact h
  |false=>
   simp only[GF];rw[mem_cons];rcases h with h|h;exact .inr (B2X (.inl h));rw[mem_cons]at h;exact h.imp id λh=>B2X (.inr h)
def B6b{fr:List (Nat×Ent Ty den)}{d:Nat}(hd:Lk d fr=Z):∀{l:Gv},mem d l=Z->mem d (gcN fr l)=Z
 |[],h=>h
 |e::r,h=>by
  simp only[gcN];rw[mem_cons]at h;rcases h with h|h;subst h;rw[hd];exact B2X (.inl rfl);cases Lk e fr with
  |true=>exact B2X (.inr (B6b hd h))
  |false=>exact B6b hd h
def Rel.clean(h:Rel U B g s a w)(ds:Gv):Rel U B g (s.dels ds).gc a w:=
 h.weaken (λi=>D3T _ _ _) (λ_ hd=>B7Y hd) (λi d ls hi hd=>B6b (C9q hi (by simp[Ent.has,G4])) hd)
def Rel.world(hU:U.Ok)(h:Rel U B g s a w){w':World}{wm':Nat->Nat}(kD:w'.os=w.os)(di:w'.tape=w.tape)(eG:w'.output=w.output)(aw:w.heap.size<=w'.heap.size)
  (hx:Ext w g.wm w' wm')(M:Nat->Prop)(BO:∀b,M b->∃c e fz,w.heap[b]?=J (.cells c e fz))(zE:∀d b,mem d s.live=Z->spare (g.G d)=J b->¬M b\/(Tip w' wm' (g.G d) (g.Gs d)/\∀i ls,s.get i≠ .bx d ls))
  (BP:∀b,M b->B.w.heap.size<=b\/B.M b)
  (oK:∀b,b<w.heap.size->¬M b->w'.heap[b]?=w.heap[b]? /\wm' b=g.wm b)(hz:∀b,w'.heap.size<=b->wm' b=0):Rel U B {g with wm:=wm'} s a w':=by
 have aE:∀{b:Nat}{o:Obj},w.heap[b]?=J o->b<w.heap.size:=λhb=>(HJ.1 hb).1;refine{os:=kD.trans h.os,tape:=di.trans h.tape,output:=eG.trans h.output,size:=HT h.size aw,frame:=λb hb hM=>?_,ext:=h.ext.trans hx,zero:=hz,ent:=λi=>ERep.same (g':={g with wm:=wm'}) hU hx rfl rfl (h.ent i) (λc pos hc b hv=>?_) (λd ls hc b hs=>?_),tip:=λd hd=>?_,disj:=h.disj,mine:=h.mine,iter:=h.iter,idis:=h.idis,defers:=h.defers,bxl:=h.bxl,pin:=h.pin}
 have h1:=h.frame b hb hM;have h2:=oK b (t8 hb h.size) (λe=>by
  rcases BP b e with h3|h3;omega;exact hM h3)
 exact⟨h2.1.trans h1.1,h2.2.trans h1.2⟩;have he:=h.ent i;rw[hc]at he;obtain⟨b',dE,bC⟩:=he;rw[hv]at dE;cases dE;exact(oK b (aE bC) (λe=>by obtain⟨_,_,_,h3⟩:=BO b e;rw[bC]at h3;cases h3)).1;obtain⟨hl,_⟩:=h.bxl i d ls hc;refine(oK b ?_ ((zE d b hl hs).resolve_right (λh2=>h2.2 i ls hc))).1;obtain⟨a0,len,cap,hv,bw,cT⟩:=h.tip d hl;rw[hv]at hs;cases a0 with
 |none=>simp[spare]at hs
 |some a1=>
  by_cases ej:cap=0;simp[spare,ej]at hs;obtain⟨b',off,c,e,fz,ha,hb,_⟩:=cT.resolve_left ej;cases ha;simp[spare,ej]at hs;subst hs;exact aE hb
 ·obtain⟨a0,len,cap,hv,bw,hc⟩:=h.tip d hd;by_cases ej:cap=0;exact⟨a0,len,cap,hv,bw,.inl ej⟩;refine(hc.resolve_left ej).elim λb cT=>?_;obtain⟨off,c,e,fz,ha,hb,cN,ba,oL⟩:=cT;rcases zE d b hd (by rw[hv,ha];simp[spare,ej])with BQ|⟨hT,_⟩
  case inr=>exact hT
  refine⟨a0,len,cap,hv,bw,.inr ?_⟩;have:=oK b (aE hb) BQ;exact⟨b,off,c,e,fz,ha,this.1.trans hb,cN,this.2.trans ba,by show fz.2<=wm' b;rw[this.2];exact oL⟩
def Gh.put(g:Gh)(d:Nat)(v:Value)(sz:Nat):Gh:={g with G:=λe=>if e=d then v else g.G e,Gs:=λe=>if e=d then sz else g.Gs e}
def Gh.put_off(g:Gh)(d:Nat)(v:Value)(sz:Nat):g.off (g.put d v sz) d:=
 ⟨λe he=>by simp[Gh.put,he],λe he=>by simp[Gh.put,he]⟩
def Ent.strip_iter{d:Nat}{e:Ent Ty den}{c:rg}{pos:Nat}(h:e.strip d=.iter c pos):e=.iter c pos:=by
 cases e with
 |iter c' p'=>simpa [Ent.strip]using h
 |one l=>simp[Ent.strip]at h
 |tup ls=>simp[Ent.strip]at h
 |st ls=>simp[Ent.strip]at h
 |bx d' ls=>
  simp only[Ent.strip]at h;cases hb:Aab d' d<;>rw[hb]at h<;>cases h
def Ent.strip_bx{d d':Nat}{e:Ent Ty den}{ls:List (Leaf Ty den)}(h:e.strip d=.bx d' ls):d'≠d/\∃cf,e=.bx d' cf:=by
 cases e with
 |iter c' p'=>simp[Ent.strip]at h
 |one l=>simp[Ent.strip]at h
 |tup ls=>simp[Ent.strip]at h
 |st ls=>simp[Ent.strip]at h
 |bx x y=>
  simp only[Ent.strip]at h;by_cases hx:x=d;subst hx;rw[G4]at h;cases h;rw[I2 hx]at h;simp only[GF,Ent.bx.injEq]at h;obtain⟨rfl,_⟩:=h;exact⟨hx,y,rfl⟩
def Rel.fresh(hU:U.Ok)(h:Rel U B g s a w)(d:Nat)(v:Value)(sz:Nat)(ht:Tip w g.wm v sz)
  (hd:∀e b,mem e s.live=Z->e≠d->spare v=J b->spare (g.G e)≠J b)(hm:∀b,spare v=J b->B.w.heap.size<=b\/B.M b):
  Rel U B (g.put d v sz) (s.fresh d) a w:=by
 have hG:∀e,e≠d->(g.put d v sz).G e=g.G e:=λe he=>by simp[Gh.put,he]
 have dh:∀e,e≠d->(g.put d v sz).Gs e=g.Gs e:=λe he=>by simp[Gh.put,he]
 have jl:(g.put d v sz).G d=v:=by simp[Gh.put]
 have vZ:(g.put d v sz).Gs d=sz:=by simp[Gh.put]
 have aD:∀e,mem e (s.fresh d).live=Z->e=d\/(e≠d/\mem e s.live=Z):=λe he=>by
  simp only[St.fresh]at he;rw[mem_cons,K7]at he;rcases he with rfl|⟨h1,h2⟩;exact .inl rfl;exact .inr ⟨h2,h1⟩
 refine{os:=h.os,tape:=h.tape,output:=h.output,size:=h.size,frame:=h.frame,ext:=h.ext,zero:=h.zero,ent:=λi=>?_,tip:=λe he=>?_,disj:=λe f b he hf aP h1=>?_,mine:=λe b he h1=>?_,iter:=λi c pos hc=>?_,idis:=λi j c p c' p' cJ h1 h2=>?_,defers:=h.defers,bxl:=λi e ls hc=>?_,pin:=h.pin};rw[Py];exact ERep.step (g':=g.put d v sz) (w':=w) hU (Ext.refl w g.wm) (g.put_off d v sz) (h.ent i) (λ_ _ _ _ _=>rfl) (λ_ _ _ _ _ _=>rfl);rcases aD e he with rfl|⟨h1,h2⟩;rw[jl,vZ];exact ht;rw[hG e h1,dh e h1];exact h.tip e h2;rcases aD e he with rfl|⟨e1,e2⟩;rcases aD f hf with rfl|⟨f1,f2⟩;exact absurd rfl aP;rw[jl]at h1;rw[hG f f1];exact hd f b f2 f1 h1;rw[hG e e1]at h1;rcases aD f hf with rfl|⟨f1,f2⟩;rw[jl];exact λh2=>hd e b e2 e1 h2 h1
 rw[hG f f1];exact h.disj e f b e2 f2 aP h1;rcases aD e he with rfl|⟨e1,e2⟩;rw[jl]at h1;exact hm b h1;rw[hG e e1]at h1;exact h.mine e b e2 h1;rw[Py]at hc;exact h.iter i c pos (Ent.strip_iter hc);rw[Py]at h1 h2;exact h.idis i j c p c' p' cJ (Ent.strip_iter h1) (Ent.strip_iter h2);rw[Py]at hc;obtain⟨h1,cf,h2⟩:=Ent.strip_bx hc;obtain⟨h3,h4⟩:=h.bxl i e cf h2;refine⟨?_,h4⟩;simp only[St.fresh];rw[mem_cons,K7];exact .inr ⟨h3,h1⟩
def Rel.kill(hU:U.Ok)(h:Rel U B g s a w)(d:Nat):Rel U B g (s.kill d) a w:=by
 have aD:∀e,mem e (s.kill d).live=Z->mem e s.live=Z:=λe he=>((K7 d e s.live).1 he).1;refine{h with ent:=λi=>?_,tip:=λe he=>h.tip e (aD e he),disj:=λe f b he hf=>h.disj e f b (aD e he) (aD f hf),mine:=λe b he=>h.mine e b (aD e he),iter:=λi c pos hc=>?_,idis:=λi j c p c' p' cJ h1 h2=>?_,bxl:=λi e ls hc=>?_}
 rw[YC];exact(h.ent i).step hU (Ext.refl _ _) ⟨λ_ _=>rfl,λ_ _=>rfl⟩ (λ_ _ _ _ _=>rfl) (λ_ _ _ _ _ _=>rfl);rw[YC]at hc;exact h.iter i c pos (Ent.strip_iter hc);rw[YC]at h1 h2;exact h.idis i j c p c' p' cJ (Ent.strip_iter h1) (Ent.strip_iter h2);rw[YC]at hc;obtain⟨h1,cf,h2⟩:=Ent.strip_bx hc;obtain⟨h3,h4⟩:=h.bxl i e cf h2;exact⟨(K7 d e s.live).2 ⟨h3,h1⟩,h4⟩
def SF{w:World}{wm:Nat->Nat}{v:Value}{sz b:Nat}(h:Tip w wm v sz)(hs:spare v=J b):∃c e fz,w.heap[b]?=J (.cells c e fz):=by
 obtain⟨a0,len,cap,rfl,bw,cT⟩:=h;cases a0 with
 |none=>simp[spare]at hs
 |some a1=>
  by_cases ej:cap=0;simp[spare,ej]at hs;obtain⟨b',off,c,e,fz,ha,hb,_⟩:=cT.resolve_left ej;cases ha;simp[spare,ej]at hs;subst hs;exact⟨c,e,fz,hb⟩
def C2J{w:World}{wm:Nat->Nat}{v:Value}{sz b:Nat}(h:Tip w wm v sz)(hs:spare v=J b):b<w.heap.size:=by
 obtain⟨a0,len,cap,hv,_,cT⟩:=h;rw[hv]at hs;simp only[spare]at hs;split at hs;rename_i a1 l1 c1 eT;cases eT;split at hs;cases hs;rename_i ej;rcases cT with h3|⟨b',off,c,e,fz,ha,hb,_⟩;exact absurd h3 ej;cases ha;simp at hs;subst hs;exact(HJ.1 hb).1;cases hs
def Rel.redo{U:UO Ty den}{B:Bs}{g:Gh}{s:St Ty den}{a:Act}{w:World}(hU:U.Ok)(hr:Rel U B g s a w){d b:Nat}(eZ:mem d s.live=Z)(bc:Go.Aev.spare (g.G d)=J b){c c':Array Value}{e:Aaa}{fz:Nat×Nat}(hb:w.heap[b]?=J (.cells c e fz))
  {w':World}(bC:w'.heap[b]?=J (.cells c' e fz))(cy:∀k,k≠b->w'.heap[k]?=w.heap[k]?)(aw:w'.heap.size=w.heap.size)(kD:w'.os=w.os)(di:w'.tape=w.tape)(eG:w'.output=w.output)
  {wm':Nat->Nat}(hx:Ext w g.wm w' wm')(ba:∀k,k≠b->wm' k=g.wm k)(v:Value)(sz:Nat)(ht:Tip w' wm' v sz)(jO:∀k,Go.Aev.spare v=J k->k=b):
  Rel U B (({g with wm:=wm'}:Gh).put d v sz) (s.fresh d) a w':=by
 have sx:=(HJ.1 hb).1;have h1:=(hr.kill hU d).world hU (w':=w') (wm':=wm') kD di eG (Jf aw.symm) hx (λb'=>b'=b) (λb' bC=>by cases bC;exact⟨c,e,fz,hb⟩)
  (λe1 b' kE fe=>.inl λbC=>by
   cases bC;have iB:=(K7 d e1 s.live).1 kE;exact hr.disj d e1 b eZ iB.1 (IC iB.2) bc fe)
  (λb' bC=>by cases bC;exact hr.mine d b eZ bc)
  (λb' bC aP=>⟨cy b' aP,ba b' aP⟩)
  (λb' bC=>by rw[aw]at bC;rw[ba b' FK];exact hr.zero b' bC)
 have h2:=h1.fresh hU d v sz ht
  (λe1 b' kE aP fe fG=>by
   cases jO b' fe;have iB:=(K7 d e1 s.live).1 kE;exact hr.disj d e1 b eZ iB.1 (IC aP) bc fG)
  (λb' fe=>by cases jO b' fe;exact hr.mine d b eZ bc)
 have dg:∀lf:Leaf Ty den,(lf.strip d).strip d=lf.strip d:=λlf=>by
  cases lf with
  |sl t l o=>
   cases o with
   |none=>rfl
   |some e=>
    simp only[Leaf.strip];cases hb:Aab e d<;>simp[hb]
  |ptr e o=>
   simp only[Leaf.strip];cases hb:Aab e d with
   |true=>rfl
   |false=>simp[hb,Leaf.strip]
  |_=>rfl
 refine h2.weaken (λi=>.inr ?_) (λe1 kE=>?_) (λi d' ls _ hl=>?_);rw[Py,Py,YC];cases fa:s.get i with
 |one lf=>simp only[Ent.strip];rw[dg]
 |st ls=>simp only[Ent.strip,Iz];congr 1;exact IW λlf _=>(dg lf).symm
 |tup ls=>simp only[Ent.strip,Iz];congr 1;exact IW λlf _=>(dg lf).symm
 |iter c p=>rfl
 |bx d' ls=>
  simp only[Ent.strip];cases hb:Aab d' d with
  |true=>rfl
  |false=>simp only[GF,Ent.strip,hb,Iz];congr 1;exact IW λlf _=>(dg lf).symm
 simp only[St.fresh,St.kill]at kE ⊢;rw[mem_cons,K7]at kE ⊢;exact kE.imp id λh3=>⟨(K7 d e1 _).2 h3,h3.2⟩
 simp only[St.fresh,St.kill]at hl ⊢;rw[mem_cons,K7]at hl ⊢;exact hl.imp id λh3=>⟨((K7 d d' _).1 h3.1).1,h3.2⟩
end Go.Aev
namespace Go.Aev
variable {Ty:Type}{den:Ty->Type}
def M4(P:Aag)(U:UO Ty den)(t:Aaa):TK Ty->Prop
 | .int k=>P.underlying t=J (.int k)
 | .str=>P.underlying t=J .string
 | .bool=>P.underlying t=J .bool
 | .slice u e=>(P.underlying t=J (.slice e)/\∃i z,P.info? e=J i/\i.size=U.size u/\i.bytes=U.bytes u/\i.zero=J z/\z.cells.size=U.size u)/\∀e',U.ety u=J e'->e'=e
 | .struct u pl=>∃fs i z,P.underlying t=J (.struct fs)/\fs.toList.mapM (λf=>(P.info? f.type).map λi=>(f.offset,i.size))=J pl/\
  P.info? t=J i/\i.size=U.size u/\i.zero=J z/\z.cells.size=U.size u
 | .iface u=>(∃m,P.underlying t=J (.interface m))/\U.size u=1
 | .other=>True
section
variable {U:UO Ty den}{w:World}{g:Gh}{wm:Nat->Nat}
def CRep.int_inv{k:Aap}{n:Int}{v:Value}(h:CRep U w wm (.int k n) v):v=.int k n:=by cases h;rfl
def CRep.bool_inv{b:Bool}{v:Value}(h:CRep U w wm (.bool b) v):v=.bool b:=by cases h;rfl
def CRep.str_inv{s:rg}{v:Value}(h:CRep U w wm (.str s) v):v=.string ⟨s.toArray⟩:=by cases h;rfl
def CRep.sl_inv{t:Ty}{l:List (den t)}{o:GA}{v:Value}(h:CRep U w wm (.sl t l o) v):∃a cap,v=.slice a l.length cap:=by
 cases h with
 |nil t o a cap=>exact⟨a,cap,rfl⟩
 |sl t l o b off cap=>exact⟨_,cap,rfl⟩
def LRep.int(k:Aap)(n:Int):LRep U w g (.int k n) (.int k n):=⟨.int k n,λ_ _ _ h=>by(cases h),λ_ _ h=>by(cases h)⟩
def LRep.bool(b:Bool):LRep U w g (.bool b) (.bool b):=⟨.bool b,λ_ _ _ h=>by(cases h),λ_ _ h=>by(cases h)⟩
def LRep.str(s:rg):LRep U w g (.str s) (.string ⟨s.toArray⟩):=⟨.str s,λ_ _ _ h=>by(cases h),λ_ _ h=>by(cases h)⟩
def LRep.any(v:Value):LRep U w g .any v:=⟨.any v,λ_ _ _ h=>by(cases h),λ_ _ h=>by(cases h)⟩
def LRep.closed{lf:Leaf Ty den}{v:Value}(h:CRep U w g.wm lf v):LRep U w g lf.close v:=
 ⟨h.close,λt l d e=>by(cases lf<;>simp[Leaf.close]at e),λd o e=>by(cases lf<;>simp[Leaf.close]at e)⟩
def B9p(s:ByteArray):(⟨s.data.toList.toArray⟩:ByteArray)=s:=by cases s;simp
def D2O(v:Value):LRep U w g (C4Q v) v:=by
 cases v<;>first
  |exact LRep.int _ _
  |exact LRep.bool _
  |exact LRep.any _
  |(rename_i s;have:=LRep.str (U:=U) (w:=w) (g:=g) s.data.toList;rw[B9p]at this;exact this)
end
section
variable {E:Env Ty den}{B:Bs}{g:Gh}{s:St Ty den}{a:Act}{w:World}
def Pz(h:Rel E.U B g s a w)(ty:Aaa)(x:Aae):ERep E.U w g (opd E s ty x) (a.eval x):=by
 cases x with
 |tmp t=>
  have he:=h.ent t;simp only[opd,Aba];cases hg:s.get t with
  |iter c p=>exact ERep.any _ _ _
  |one l=>rw[hg]at he;exact he
  |tup ls=>rw[hg]at he;exact he
  |st ls=>rw[hg]at he;exact he
  |bx d ls=>exact ERep.any _ _ _
 |const v=>
  simp only[opd,Aba];split;split;exact⟨.nil _ _ _ _,λt l d e=>by(simp at e),λ_ _ e=>by(cases e)⟩;exact ERep.any _ _ _;exact D2O v
 |global g'=>exact ERep.any _ _ _
 |func f=>exact ERep.any _ _ _
def E4(h:Rel E.U B g s a w)(ty:Aaa)(x:Aae):LRep E.U w g (opl E s ty x) (a.eval x):=by
 have he:=Pz h ty x;unfold opl;cases hd:opd E s ty x with
 |one l=>rw[hd]at he;exact he
 |tup ls=>exact LRep.any _
 |st ls=>exact LRep.any _
 |iter c p=>exact LRep.any _
 |bx d ls=>exact LRep.any _
def B5z(s:St Ty den)(ty:Aaa)(x:Aae):(opd E s ty x).isIter=V:=by
 cases x with
 |tmp t=>
  simp only[opd];cases hg:s.get t<;>rfl
 |const v=>
  simp only[opd];split;split<;>rfl;rfl
 |_=>rfl
def S4{ty:Aaa}{x:Aae}{k:Aap}{n:Int}(h:Rel E.U B g s a w)(he:opl E s ty x=.int k n):a.eval x=.int k n:=by
 have:=E4 h ty x;rw[he]at this;exact this.1.int_inv
def VK{ty:Aaa}{x:Aae}{b:Bool}(h:Rel E.U B g s a w)(he:opl E s ty x=.bool b):a.eval x=.bool b:=by
 have:=E4 h ty x;rw[he]at this;exact this.1.bool_inv
def SG{ty:Aaa}{x:Aae}{c:rg}(h:Rel E.U B g s a w)(he:opl E s ty x=.str c):a.eval x=.string ⟨c.toArray⟩:=by
 have:=E4 h ty x;rw[he]at this;exact this.1.str_inv
def REL.setO(h:Rel E.U B g s a w){e:Ent Ty den}{v:Value}(he:ERep E.U w g e v)(hi:e.isIter=V)(d:GA)(hd:∀i,d=J i->i<a.tmps.size/\B.np<=i):REL E.U B (s.setO d e) (a.put d v) w:=by
 cases d with
 |none=>exact⟨g,h⟩
 |some i=>exact⟨g,h.set he hi i (hd i rfl)⟩
def G2(E:Env Ty den)(B:Bs){R:Type}(o:Oper)(a:Act)(k:Ent Ty den->St Ty den->Option R)(r:R)(next:Act->World->Prop):Prop:=
 ∀e s' v w',k e s'=J r->REL E.U B (s'.setO o.dst e) (a.put o.dst v) w'->next (a.put o.dst v) w'
variable {P:Aag}{R:Type}{o:Oper}{k:Ent Ty den->St Ty den->Option R}{r:R}{next:Act->World->Prop}{Q:Exit->Act->World->Prop}
def K9{v:Value}{w':World}(af:(Aad a.eval o).run P w=.ok (.value v) w')(hn:next (a.put o.dst v) w'):o.wp P a w next Q:=by
 unfold Abt;rw[af];exact hn
def E8(h:Rel E.U B g s a w)(hd:∀i,o.dst=J i->i<a.tmps.size/\B.np<=i)(hn:G2 E B o a k r next){e:Ent Ty den}{v:Value}(hk:k e s=J r)
  (he:ERep E.U w g e v)(hi:e.isIter=V)(af:(Aad a.eval o).run P w=.ok (.value v) w):o.wp P a w next Q:=
 K9 af (hn e s v w hk (REL.setO h he hi _ hd))
end
section
variable {E:Env Ty den}{B:Bs}{g:Gh}{s:St Ty den}{a:Act}{w:World}
variable {P:Aag}{R:Type}{o:Oper}{k:Ent Ty den->St Ty den->Option R}{r:R}{next:Act->World->Prop}{Q:Exit->Act->World->Prop}
variable (hT:∀t,M4 P E.U t (E.tb t))(hU:E.U.Ok)
def D38{x:Aae}(ag:o.op=.move x)(h:A6 E o s k=J r)(hr:Rel E.U B g s a w)(hd:∀i,o.dst=J i->i<a.tmps.size/\B.np<=i)(hn:G2 E B o a k r next):o.wp P a w next Q:=by
 simp only[A6,ag]at h;exact E8 hr hd hn h (Pz hr _ _) (B5z _ _ _) (by simp[Aad,ag])
def D5y{c x y:Aae}(ag:o.op=.pick c x y)(h:A6 E o s k=J r)(hr:Rel E.U B g s a w)(hd:∀i,o.dst=J i->i<a.tmps.size/\B.np<=i)(hn:G2 E B o a k r next):o.wp P a w next Q:=by
 simp only[A6,ag]at h;split at h;rename_i hc;exact E8 (v:=a.eval x) hr hd hn h (show ERep _ _ _ (.one _) _ from E4 hr _ _) rfl (by simp[Aad,ag,VK hr hc,asBool]);rename_i hc;exact E8 (v:=a.eval y) hr hd hn h (show ERep _ _ _ (.one _) _ from E4 hr _ _) rfl (by simp[Aad,ag,VK hr hc,asBool]);cases h
def LsRep.get{U:UO Ty den}{w:World}{g:Gh}:∀{ls:List (Leaf Ty den)}{vs:Gw},LsRep U w g ls vs->∀{i:Nat}{l:Leaf Ty den},ls[i]?=J l->∃v,vs[i]?=J v/\LRep U w g l v
 |_::_,_::_,h,0,l,hl=>by simp at hl;subst hl;exact⟨_,rfl,h.1⟩
 |_::_,_::_,h,i+1,l,hl=>by simpa using LsRep.get h.2 (i:=i) (by simpa using hl)
 |[],_,_,i,l,hl=>by simp at hl
def D0g{x:Aae}{i:Nat}(ag:o.op=.extract x i)(h:A6 E o s k=J r)(hr:Rel E.U B g s a w)(hd:∀i,o.dst=J i->i<a.tmps.size/\B.np<=i)(hn:G2 E B o a k r next):o.wp P a w next Q:=by
 simp only[A6,ag]at h;split at h;rename_i ls hx;split at h;rename_i l hl;have he:=Pz hr 0 x;rw[hx]at he;obtain⟨vs,hv,nX⟩:=he;obtain⟨v,gm,anq⟩:=nX.get hl;exact E8 hr hd hn h anq rfl (by simp[Aad,ag,hv,Instr.extract,gm]);cases h;cases h
def D6W(P:Aag)(w:World)(t:Aaa)(a b:Int)(k':Aap)(h0:0<=b)(h1:b<=31):(binOp .shr t (.int .i32 a) (.int k' b)).run P w=.ok (.int .i32 (a / 2^b.toNat)) w:=by
 rw[binOp_shr,shift_shr_i32 _ _ _ h0 FK];rfl
def C6V(P:Aag)(w:World)(t:Aaa)(a b:Int)(k':Aap)(h0:0<=b)(h1:b<=31):(binOp .shl t (.int .i32 a) (.int k' b)).run P w=.ok (.int .i32 (IntKind.i32.wrap (a*2^b.toNat))) w:=by
 rw[binOp_shl,shift_shl_i32 _ _ _ h0 FK];rfl
def A5{α:Type}{c:Bool}{x:Option α}{y:α}(h:(bif c then x else O)=J y):c=Z/\x=J y:=by
 cases c with
 |true=>exact⟨rfl,h⟩
 |false=>cases h
def D3j(op:BinOp)(k0:Aap)(x y:Int)(l:Leaf Ty den)(t:Aaa)(h:B7d op k0 x y=J l):
  ∃v,(binOp op t (.int k0 x) (.int k0 y)).run P w=.ok v w/\LRep E.U w g l v:=by
 cases op<;>simp only[B7d,GX,reduceCtorEq]at h<;>subst h<;>
  first
  |(refine⟨_,?_,LRep.int _ _⟩;simp[binOp,Op.intArith];done)
  |(refine⟨_,?_,LRep.bool _⟩;simp[binOp,Op.intCmp];done)
  |(refine⟨_,?_,LRep.int _ _⟩;first|(rw[binOp_and,intBits_and];rfl)|(rw[binOp_or,intBits_or];rfl))
def B1L(P:Aag)(E:Env Ty den):Prop:=∀(t:Aaa)(l m:Leaf Ty den)(b:Bool),B6a E t l m=J b->∀(w:World)(wm:Nat->Nat)(vx vy:Value),CRep E.U w wm l vx->CRep E.U w wm m vy->
 ∀X Y,((do eqGuard .neq t X Y vx vy;binOp .neq t vx vy):Sem Value).run P w=.ok (.bool b) w
def B6y{α β:Type}{x:Sem α}{f:α->Sem β}{P:Aag}{w w':World}{v:α}(h:x.run P w=.ok v w'){r:Result β}(hf:(f v).run P w'=r):(x>>=f).run P w=r:=by
 simp[h,hf]
include hT in
def C6y(hq:B1L P E){op:BinOp}{t yt:Aaa}{x y:Aae}(ag:o.op=.binOp op t x y yt)(h:A6 E o s k=J r)(hr:Rel E.U B g s a w)(hd:∀i,o.dst=J i->i<a.tmps.size/\B.np<=i)(hn:G2 E B o a k r next):o.wp P a w next Q:=by
 simp only[A6,ag]at h;split at h;rename_i k0 x' k1 y' hx hy;have ex:=S4 hr hx;have ey:=S4 hr hy;have bQ:∀(l:Leaf Ty den)(v:Value),k (.one l) s=J r->(binOp op t (.int k0 x') (.int k1 y')).run P w=.ok v w->LRep E.U w g l v->o.wp P a w next Q:=λl v hk af hl=>
  E8 hr hd hn hk (show ERep _ _ _ (.one l) _ from hl) rfl (by simp[Aad,ag,ex,ey,eqGuard_at_int,af])
 split at h;obtain⟨hc,h'⟩:=A5 h;clear h;simp only[Fn,decide_eq_true_eq]at hc;obtain⟨⟨h0,h1⟩,rfl⟩:=hc;exact bQ _ _ h' (D6W P w t x' y' k1 h0 h1) (LRep.int _ _);obtain⟨hc,h'⟩:=A5 h;clear h;simp only[Fn,decide_eq_true_eq]at hc;obtain⟨⟨h0,h1⟩,rfl⟩:=hc;exact bQ _ _ h' (C6V P w t x' y' k1 h0 h1) (LRep.int _ _);obtain⟨hc,h'⟩:=A5 h;clear h;simp only[Fn,decide_eq_true_eq,Hs,decide_eq_false_iff_not]at hc;obtain⟨rfl,h0⟩:=hc;exact bQ _ _ h' (by simp[binOp,Op.intDiv,h0]) (LRep.int _ _);obtain⟨hc,h'⟩:=A5 h;clear h;simp only[Fn,decide_eq_true_eq,Hs,decide_eq_false_iff_not]at hc;obtain⟨rfl,h0⟩:=hc;exact bQ _ _ h' (by simp[binOp,Op.intDiv,h0]) (LRep.int _ _);obtain⟨hc,h'⟩:=A5 h;clear h;simp only[decide_eq_true_eq]at hc;subst hc;split at h';rename_i l hl;obtain⟨v,hv,anq⟩:=D3j (P:=P) (w:=w) (g:=g) (E:=E) op k0 x' y' l t hl;exact bQ l v h' hv anq;cases h';rename_i x' y' hx hy;have ex:=SG hr hx;have ey:=SG hr hy;have bQ:∀(l:Leaf Ty den)(v:Value),k (.one l) s=J r->(binOp op t (.string ⟨x'.toArray⟩) (.string ⟨y'.toArray⟩)).run P w=.ok v w->LRep E.U w g l v->o.wp P a w next Q:=λl v hk af hl=>
  E8 hr hd hn hk (show ERep _ _ _ (.one l) _ from hl) rfl (by simp[Aad,ag,ex,ey,eqGuard_at_string,af])
 split at h;obtain⟨hc,h'⟩:=A5 h;clear h;simp only[decide_eq_true_eq]at hc;refine bQ _ (.string ⟨(x'++y').toArray⟩) h' ?_ (LRep.str _);have e1:(⟨x'.toArray⟩:ByteArray)++⟨y'.toArray⟩=⟨(x'++y').toArray⟩:=by
  apply ByteArray.ext;simp
 have e2:(Aa1 x'.toArray).size=x'.length:=by simp[Abv]
 have e3:(Aa1 y'.toArray).size=y'.length:=by simp[Abv]
 have bw:¬(9223372036854775807<(x'.length:Int)+(y'.length:Int)):=FK;simp[binOp,Abu,e1,e2,e3,bw];exact bQ _ _ h (by simp[binOp,Abu]) (LRep.bool _);exact bQ _ _ h (by simp[binOp,Abu]) (LRep.bool _);cases h;rename_i x' y' hx hy;have ex:=VK hr hx;have ey:=VK hr hy;split at h;rename_i ht;have fH:=hT t;rw[ht]at fH;split at h;exact E8 hr hd hn h (show ERep _ _ _ (.one _) _ from LRep.bool _) rfl (by simp[Aad,ag,ex,ey,Abz,run_eql_bool w t x' y' fH]);exact E8 hr hd hn h (show ERep _ _ _ (.one _) _ from LRep.bool _) rfl (by simp[Aad,ag,ex,ey,Abz,run_neq_bool w t x' y' fH]);cases h;cases h;split at h;rename_i b hb;refine E8 hr hd hn h (show ERep _ _ _ (.one _) _ from LRep.bool _) rfl ?_;have:=hq t _ _ b hb w g.wm _ _ (E4 hr t x).1 (E4 hr t y).1 x y;simp only[Aad,ag];exact B6y this rfl;cases h
def D29{op:UnOp}{t:Aaa}{x:Aae}(ag:o.op=.unOp op t x)(h:A6 E o s k=J r)(hr:Rel E.U B g s a w)(hd:∀i,o.dst=J i->i<a.tmps.size/\B.np<=i)(hn:G2 E B o a k r next):o.wp P a w next Q:=by
 simp only[A6,ag]at h;split at h;rename_i b hx;exact E8 hr hd hn h (show ERep _ _ _ (.one _) _ from LRep.bool _) rfl (by simp[Aad,ag,VK hr hx,Op.unary]);rename_i k0 n hx;exact E8 hr hd hn h (show ERep _ _ _ (.one _) _ from LRep.int _ _) rfl (by simp[Aad,ag,S4 hr hx,Op.unary,Op.intArith]);cases h
end
end Go.Aev
namespace Go.Aev
variable {Ty:Type}{den:Ty->Type}
section
variable {U:UO Ty den}
def VL(t:Ty)(x:den t)(l:List (den t)):flat U t (x::l)=U.cells t x++flat U t l:=rfl
def B9d(t:Ty)(l m:List (den t)):flat U t (l++m)=flat U t l++flat U t m:=by simp[flat]
def flat_get(hU:U.Ok)(t:Ty):∀(l:List (den t))(i:Nat)(x:den t)(j:Nat),l[i]?=J x->j<U.size t->(flat U t l)[i*U.size t+j]?=(U.cells t x)[j]?
 |[],i,x,j,h,_=>by simp at h
 |y::l,0,x,j,h,hj=>by
  simp at h;subst h;rw[VL,Nat.zero_mul,HL,HV (by rw[hU.len];exact hj)]
 |y::l,i+1,x,j,h,hj=>by
  have:=flat_get hU t l i x j (by simpa using h) hj;rw[VL,Hk (by rw[hU.len,Hz];omega),hU.len];rw[<-this];congr 1;rw[Hz];omega
def C5f(hU:U.Ok)(t:Ty):∀(l:List (den t))(i:Nat),flat U t (l.drop i)=(flat U t l).drop (i*U.size t)
 |l,0=>GN
 |[],i+1=>by simp[flat]
 |x::l,i+1=>by
  have:=C5f hU t l i;rw[List.drop_succ_cons,this,VL,Hz,JU,KC];rw[<-Im];congr 1;rw[<-hU.len t x];simp
def C1y(hU:U.Ok)(t:Ty):∀(l:List (den t))(i:Nat),flat U t (l.take i)=(flat U t l).take (i*U.size t)
 |l,0=>by simp[flat]
 |[],i+1=>by simp[flat]
 |x::l,i+1=>by
  have:=C1y hU t l i;rw[JZ,VL,this,VL,Hz,JU,KC];rw[List.take_append,hU.len];congr 1;rw[Iw (by rw[hU.len];omega)];congr 1;omega
def G7{α:Type}{l:List α}{i:Nat}{x:α}(h:l[i]?=J x):i<l.length:=by
 rcases Hv i l.length with h'|h';exact h';rw[IF h']at h;cases h
variable {w:World}{g:Gh}{wm:Nat->Nat}
def CRep.sl_cells{t:Ty}{l:List (den t)}{o:GA}{v:Value}(hU:U.Ok)(h:CRep U w wm (.sl t l o) v):
  (l=[]/\∃a cap,v=.slice a 0 cap)\/∃(b off cap:Nat)(cs:Nat->Value),v=.slice (J ⟨b,off,O⟩) l.length cap/\l.length<=cap/\off+l.length*U.size t<=wm b/\
   (∀j lf,(flat U t l)[j]?=J lf->w.cell? ⟨b,off+j,O⟩=J (cs j))/\(∀j lf,(flat U t l)[j]?=J lf->CRep U w wm lf (cs j)):=by
 cases h with
 |nil t o a cap=>exact .inl ⟨rfl,a,cap,rfl⟩
 |sl t l o b off cap cs aW ba hc hr=>exact .inr ⟨b,off,cap,cs,rfl,aW,ba,hc,hr⟩
def B6h(lf:Leaf Ty den):Prop:=lf≠ .any/\(∀v,lf≠ .val v)/\∀u y,lf≠ .agg u y
def CRep.one(hU:U.Ok){lf:Leaf Ty den}{v:Value}(h:CRep U w wm lf v)(hs:B6h lf):v.oneCell'=Z/\v.cells= #[v]:=by
 induction h with
 |any v=>exact absurd rfl hs.1
 |val v=>exact absurd rfl (hs.2.1 v)
 |agg t x vs hl cs hc hr=>exact absurd rfl (hs.2.2 t x)
 |one1 t x lf v hl h ih=>exact ih (hU.solid t x lf (by rw[hl];simp))
 |ptr d off v h=>rcases h with⟨p,rfl⟩|⟨a,l,c,rfl⟩<;>exact⟨rfl,rfl⟩
 |_=>exact⟨rfl,rfl⟩
def B2M(hU:U.Ok){t:Ty}{l:List (den t)}{j:Nat}{lf:Leaf Ty den}(h:(flat U t l)[j]?=J lf):B6h lf:=by
 have hm:=HI h;unfold flat at hm;obtain⟨x,_,hx⟩:=Jk.1 hm;exact hU.solid t x lf hx
end
section
variable {U:UO Ty den}{B:Bs}{g:Gh}{s:St Ty den}{a:Act}{w:World}
def B9(wm:Nat->Nat)(b n:Nat):Nat->Nat:=λk=>if k=b then n else wm k
def Rel.alloc(hU:U.Ok)(h:Rel U B g s a w)(o:Obj)(n:Nat)(w':World)(hw:w'.heap=w.heap.push o)(kD:w'.os=w.os)(di:w'.tape=w.tape)(eG:w'.output=w.output):
  Rel U B {g with wm:=B9 g.wm w.heap.size n} s a w':=by
 have eb:∀b,b<w.heap.size->w'.heap[b]?=w.heap[b]? :=λb hb=>by rw[hw,Hp,GI FK]
 refine h.world hU kD di eG (by rw[hw];simp) ⟨Lo hw,λb off ho=>?_,λb=>?_⟩ (λ_=>False) (λb e=>e.elim) (λ_ _ _ _=>.inl λe=>e) (λb e=>e.elim) (λb hb _=>⟨eb b hb,?_⟩) (λb hb=>?_);rcases Hv b w.heap.size with h1|h1;exact HK (a:=⟨b,off,O⟩) (eb b h1);rw[h.zero b h1]at ho;omega;unfold B9;by_cases hb:b=w.heap.size;subst hb;rw[GJ rfl,h.zero _ (GU _)];exact HH _;rw[GI hb];exact GU _;simp only[B9];rw[GI FK];rw[hw]at hb;simp at hb;simp only[B9];rw[GI FK];exact h.zero b FK
def Rel.drew(hU:U.Ok)(h:Rel U B g s a w):Rel U B g s a w.drew:=
 h.world hU (w':=w.drew) (wm':=g.wm) rfl rfl rfl (GU _) ⟨VI rfl,λ_ _ _=>rfl,λ_=>GU _⟩ (λ_=>False) (λb e=>e.elim) (λ_ _ _ _=>.inl λe=>e) (λb e=>e.elim) (λb _ _=>⟨rfl,rfl⟩) h.zero
def C5S(hU:U.Ok){t:Ty}{l:List (den t)}{w':World}{wm':Nat->Nat}{b:Nat}{c:Array Value}{e:Aaa}{fz:Nat×Nat}(hb:w'.heap[b]?=J (.cells c e fz))(cap:Nat)(aW:l.length<=cap)
  (ba:l.length*U.size t<=wm' b)(hr:∀(j:Nat)(lf:Leaf Ty den),(flat U t l)[j]?=J lf->∃v:Value,c[j]?=J v/\CRep U w' wm' lf v)(o:GA):CRep U w' wm' (.sl t l o) (.slice (J ⟨b,0,O⟩) l.length cap):=by
 refine .sl t l o b 0 cap (λj=>c.getD j undef) aW FK (λj lf hj=>?_) (λj lf hj=>?_);obtain⟨v,hv,_⟩:=hr j lf hj;simp[Aak,hb,hv,HE];obtain⟨v,hv,anq⟩:=hr j lf hj;simpa [HE,hv]using anq
end
section
variable {E:Env Ty den}{B:Bs}{g:Gh}{s:St Ty den}{a:Act}{w:World}
variable {P:Aag}{R:Type}{o:Oper}{k:Ent Ty den->St Ty den->Option R}{r:R}{next:Act->World->Prop}{Q:Exit->Act->World->Prop}
variable (hT:∀t,M4 P E.U t (E.tb t))(hU:E.U.Ok)
include hT in
def M9{t:Aaa}{u:Ty}{e:Aaa}(h:E.tb t=.slice u e):P.underlying t=J (.slice e)/\∃i z,P.info? e=J i/\i.size=E.U.size u/\i.bytes=E.U.bytes u/\i.zero=J z/\z.cells.size=E.U.size u:=by
 have:=hT t;rw[h]at this;exact this.1
include hT in
def VM{t:Aaa}{u:Ty}{e:Aaa}(h:E.tb t=.slice u e):∀e',E.U.ety u=J e'->e'=e:=by
 have:=hT t;rw[h]at this;exact this.2
include hT in
def OF{t:Aaa}(h:E.tb t=.str):P.underlying t=J .string:=by
 have:=hT t;rw[h]at this;exact this
include hT in
def SH{t:Aaa}{k:Aap}(h:E.tb t=.int k):P.underlying t=J (.int k):=by
 have:=hT t;rw[h]at this;exact this
def YD{U:UO Ty den}{t u:Ty}{l:List (den u)}{l':List (den t)}(h:M1 U t u l=J l'):∃e:u=t,e ▸ l=l':=by
 unfold M1 at h;split at h;rename_i e _;exact⟨e,by simpa using h⟩;cases h
def QK{U:UO Ty den}{t u:Ty}{l:List (den u)}{l':List (den t)}(h:M1 U t u l=J l'){w:World}{wm:Nat->Nat}{o:GA}{v:Value}(hr:CRep U w wm (.sl u l o) v):CRep U w wm (.sl t l' o) v/\l.length=l'.length:=by
 obtain⟨e,he⟩:=YD h;subst e;subst he;exact⟨hr,rfl⟩
def C19{α:Type}{l:List α}{i:Int}{x:α}(h:idx l i=J x):0<=i/\l[i.toNat]?=J x:=by
 unfold idx at h;obtain⟨h1,h2⟩:=A5 h;exact⟨by simpa using h1,h2⟩
def B57{α:Type}{l r:List α}{lo hi:Int}(h:sub l lo hi=J r):0<=lo/\lo<=hi/\hi<=(l.length:Int)/\r=(l.drop lo.toNat).take (hi.toNat - lo.toNat):=by
 unfold sub at h;obtain⟨h1,h2⟩:=A5 h;simp only[Fn,decide_eq_true_eq]at h1;exact⟨h1.1,h1.2.1,h1.2.2,by simpa using h2.symm⟩
include hT hU in
def D42{t:Aaa}{x i:Aae}(ag:o.op=.indexAddr t x i)(h:A6 E o s k=J r)(hr:Rel E.U B g s a w)(hd:∀i,o.dst=J i->i<a.tmps.size/\B.np<=i)(hn:G2 E B o a k r next):o.wp P a w next Q:=by
 simp only[A6,ag]at h;split at h;rename_i u e u0 l0 own k0 n ht hx hi;split at h;rename_i l cW;split at h;rename_i y hy;obtain⟨h0,gw⟩:=C19 hy;obtain⟨cO,ie,z,bO,aw,_,_,_⟩:=M9 hT ht;have ei:=S4 hr hi;have bV:=E4 hr t x;rw[hx]at bV;have anq:=(QK cW bV.1).1;have aE:=G7 gw;rcases anq.sl_cells hU with⟨rfl,_⟩|⟨b,off,cap,cs,hv,aW,ba,hc,fR⟩;simp at gw;have dj:0<=n/\n<(l.length:Int):=⟨h0,FK⟩;have dL:(n.toNat+1)*E.U.size u<=l.length*E.U.size u:=Hq _ FK;rw[Hz,JU]at dL;refine E8 (e:=.one (.elem u y 0)) (v:=.pointer (J ⟨b,(off+n.toNat*E.U.size u)+0,O⟩)) hr hd hn h ?_ rfl ?_;refine⟨.elem u y 0 b (off+n.toNat*E.U.size u) (λj=>cs (n.toNat*E.U.size u+j)) FK (λj lf hj=>?_) (λj lf hj=>?_),λ_ _ _ e=>by(cases e),λ_ _ e=>by(cases e)⟩;have bD:=G7 hj;rw[hU.len]at bD;have:=hc (n.toNat*E.U.size u+j) lf (by rw[flat_get hU u l n.toNat y j gw bD];exact hj);rw[If];exact this;have bD:=G7 hj;rw[hU.len]at bD;exact fR (n.toNat*E.U.size u+j) lf (by rw[flat_get hU u l n.toNat y j gw bD];exact hj);have cS:(Abk b off O).add (n.toNat*E.U.size u)=⟨b,off+n.toNat*E.U.size u,O⟩:=Hw _ _ _;simp[Aad,ag,hv,ei,Instr.indexAt,asIntOf,Aaf cO,dj.1,dj.2,Aaq,Aaj,bO,aw,cS];cases h;cases h;cases h
def QO(b:rg):(Aa1 b.toArray).size=b.length:=by simp[Abv]
include hT in
def C67{t:Aaa}{x i:Aae}(ag:o.op=.index t x i)(h:A6 E o s k=J r)(hr:Rel E.U B g s a w)(hd:∀i,o.dst=J i->i<a.tmps.size/\B.np<=i)(hn:G2 E B o a k r next):o.wp P a w next Q:=by
 simp only[A6,ag]at h;split at h;rename_i b k0 n ht hx hi;split at h;rename_i y hy;obtain⟨h0,gw⟩:=C19 hy;have cO:=OF hT ht;have ei:=S4 hr hi;have ex:=SG hr hx;have aE:=G7 gw;have hg:(Aa1 b.toArray)[n.toNat]?=J y:=by
  rw[ByteArray.getElem?_lt' _ _ (by rw[QO];exact aE)];congr 1;rw[GE aE]at gw;have:=Hb gw;rw[<-this];rfl
 exact E8 (e:=.one (.int .u8 (y.toNat:Int))) (v:=.int .u8 (y.toNat:Int)) hr hd hn h (LRep.int _ _) rfl (by simp[Aad,ag,ex,ei,Instr.index,asIntOf,Aaf cO,h0,hg]);cases h;cases h
def C7L{t:Aaa}{k:TK Ty}(h:M4 P E.U t k)(hk:∀(_:k=.other),False)(cK:∀u pl (_:k=.struct u pl),False)(w:World):(isAgg t).run P w=.ok V w:=by
 cases k with
 |int k=>simp[isAgg,Aaf (show P.underlying t=J (.int k)from h)]
 |str=>simp[isAgg,Aaf (show P.underlying t=J .string from h)]
 |bool=>simp[isAgg,Aaf (show P.underlying t=J .bool from h)]
 |slice u e=>simp[isAgg,Aaf h.1.1]
 |struct u pl=>exact(cK u pl rfl).elim
 |iface u=>obtain⟨⟨m,h⟩,_⟩:=h;simp[isAgg,Aaf h]
 |other=>exact(hk rfl).elim
def B5c{t:Aaa}{fs:Array Field}(h:P.underlying t=J (.struct fs))(w:World):(isAgg t).run P w=.ok Z w:=by simp[isAgg,Aaf h]
def C2a{α β:Type}{f:α->Option β}:∀{l:List α}{r:List β},l.mapM f=J r->r.length=l.length
 |[],r,h=>by simp at h;subst h;rfl
 |x::l,r,h=>by
  simp only[JY,KP,JP,Ab7,GX]at h;obtain⟨b,_,r',bU,rfl⟩:=h;simp[C2a bU]
def C1g{α β:Type}{f:α->Option β}:∀{l:List α}{r:List β},l.mapM f=J r->∀(i:Nat)(x:α),l[i]?=J x->∃y,r[i]?=J y/\f x=J y
 |[],r,h,i,x,hx=>by simp at hx
 |a::l,r,h,i,x,hx=>by
  simp only[JY,KP,JP,Ab7,GX]at h;obtain⟨b,hb,r',bU,rfl⟩:=h;cases i with
  |zero=>simp at hx;subst hx;exact⟨b,GN,hb⟩
  |succ i=>obtain⟨y,h1,h2⟩:=C1g bU i x (by simpa using hx);exact⟨y,by simpa using h1,h2⟩
include hT in
def OG{t:Aaa}{u:Ty}{pl:List (Nat×Nat)}(h:E.tb t=.struct u pl):∃fs i z,P.underlying t=J (.struct fs)/\fs.toList.mapM (λf=>(P.info? f.type).map λi=>(f.offset,i.size))=J pl/\
  P.info? t=J i/\i.size=E.U.size u/\i.zero=J z/\z.cells.size=E.U.size u:=by
 have:=hT t;rw[h]at this;exact this
def SI{U:UO Ty den}{w:World}{wm:Nat->Nat}{t:Ty}{x:den t}{v:Value}(h:CRep U w wm (.agg t x) v):
  ∃vs:Gw,v=.agg vs.toArray/\vs.length=U.size t/\∃cs:Nat->Value,(∀j lf,(U.cells t x)[j]?=J lf->vs[j]?=J (cs j))/\∀j lf,(U.cells t x)[j]?=J lf->CRep U w wm lf (cs j):=by
 cases h with
 |agg t x vs hl cs hc hr=>exact⟨vs,rfl,hl,cs,hc,hr⟩
def B2g{U:UO Ty den}{t u:Ty}{y:den u}{y':den t}(h:M1 U t u [y]=J [y']):∃e:u=t,e ▸ y=y':=by
 unfold M1 at h;split at h;rename_i e _;subst e;simp only[GX,Ir]at h;exact⟨rfl,h.1⟩;cases h
def B9j{U:UO Ty den}{u u':Ty}{c:Bool}{y:den u'}{y':den u}{r:List (den u)}(h:(bif c then M1 U u u' [y]else O)=J [y']):c=Z/\∃e:u'=u,e ▸ y=y':=by
 cases c with
 |true=>exact⟨rfl,B2g h⟩
 |false=>cases h
def Ml(hr:Rel E.U B g s a w){d:Nat}{ls:List (Leaf Ty den)}(h:J1 s d=J ls):BoxOk E.U w g d ls/\mem d s.live=Z/\s.get (bxi d)=.bx d ls:=by
 unfold J1 at h;split at h;rename_i e cf he;obtain⟨h1,h2⟩:=A5 h;have:=(D5 _ _).1 h1;subst this;cases h2;have h3:=hr.ent (bxi e);rw[he]at h3;exact⟨h3,(hr.bxl _ _ _ he).1,he⟩;cases h
def SJ{d off:Nat}{ls:List (Leaf Ty den)}{v:Value}(ho:Aac off 1000000=Z)(hx:LRep E.U w g (.ptr d off) v)(hb:BoxOk E.U w g d ls):∃b n,g.G d=.slice (J ⟨b,0,O⟩) 0 n/\v=.pointer (J ⟨b,off,O⟩)/\(0<ls.length/\ls.length<=n/\(Aac d 1000000=Z->n=ls.length))/\g.Gs d=1/\∀(j:Nat) lf,ls[j]?=J lf->∃u,w.cell? ⟨b,j,O⟩=J u/\u.oneCell'=Z/\u.cells= #[u]/\LRep E.U w g lf u:=by
 obtain⟨b,n,h1,h2⟩:=hx.2.2 d off rfl;obtain⟨b',n',h3,h4,h5,h6⟩:=hb;rw[h1]at h3;cases h3;exact⟨b,n,h1,h2.at ho,h4,h5,h6⟩
def B3d:∀(ls:List (Leaf Ty den))(j:Nat),(D0 ls)[j]?=(ls[j]?).map Leaf.close
 |[],j=>by simp[D0]
 |l::r,0=>by simp[D0]
 |l::r,j+1=>by simp only[D0,Iu];exact B3d r j
include hT hU in
def C8r(hX:Mk E.U){t:Aaa}{x:Aae}(ag:o.op=.load t x)(h:A6 E o s k=J r)(hr:Rel E.U B g s a w)(hd:∀i,o.dst=J i->i<a.tmps.size/\B.np<=i)(hn:G2 E B o a k r next):o.wp P a w next Q:=by
 simp only[A6,ag]at h;split at h;cases h;rename_i u ht;obtain⟨⟨mm,h1⟩,fe⟩:(∃m,P.underlying t=J (.interface m))/\E.U.size u=1:=by have:=hT t;rw[ht]at this;exact this
 have iP:(isAgg t).run P w=.ok V w:=by simp[isAgg,Aaf h1]
 split at h;rename_i u' y off hx;split at h;rename_i y' hy;obtain⟨h0,e0,he⟩:=B9j (r:=[]) hy;have h0:=(D5 _ _).1 h0;subst h0;subst e0;simp only at he;subst he;have bV:=E4 hr 0 x;rw[hx]at bV;obtain⟨hc,_⟩:=bV;generalize hv:a.eval x=v at hc;cases hc with
 |elem _ _ _ b o' cs ba aH anq=>
  have aA:=hU.len u' y;rw[fe]at aA;obtain⟨lf,dw⟩:∃lf,E.U.cells u' y=[lf]:=by
   match cN:E.U.cells u' y,aA with
   |[lf],_=>exact⟨lf,rfl⟩
  have hj:(E.U.cells u' y)[0]?=J lf:=by rw[dw];rfl
  refine E8 (e:=.one (.one1 u' y)) (v:=cs 0) hr hd hn h ⟨.one1 u' y lf _ dw (anq 0 lf hj),λ_ _ _ he=>by(cases he),λ_ _ he=>by(cases he)⟩ rfl ?_;have:=aH 0 lf hj;rw[Iv]at this;simp[Aad,ag,hv,Aa8,Aa0,Aar,iP,this]
 cases h;cases h;rename_i u pl ht;obtain⟨fs,ie,z,h1,_,h3,h4,_⟩:=OG hT ht;have iP:=B5c (P:=P) h1 w;split at h;rename_i u' y off hx;have bV:=E4 hr 0 x;rw[hx]at bV;obtain⟨hc,_⟩:=bV;generalize hv:a.eval x=v at hc;cases hc with
 |elem _ _ _ b o' cs ba aH anq=>
  have aA:=hU.len u' y;have bQ:∀(z:den u),E.U.cells u z=((E.U.cells u' y).drop off).take (E.U.size u)->k (.one (.agg u z)) s=J r->o.wp P a w next Q:=λz hz hk=>by
   have wa:=hU.len u z;have aY:∀j lf,(E.U.cells u z)[j]?=J lf->(E.U.cells u' y)[off+j]?=J lf/\j<E.U.size u:=λj lf hj=>by
    have bD:=G7 hj;rw[hz,Hn,IE]at hj;split at hj;exact⟨hj,FK⟩;cases hj
   have dk:(Aav ⟨b,o'+off,O⟩ (E.U.size u)).run P w=.ok ((Aao (E.U.size u)).map λj=>cs (off+j)).toArray w:=
    Abn w _ _ _ λj hj=>by
     obtain⟨h5,_⟩:=aY j _ (GE FK);have:=aH (off+j) _ h5;rw[Hw,If];exact this
   refine E8 (e:=.one (.agg u z)) (v:=.agg ((Aao (E.U.size u)).map λj=>cs (off+j)).toArray) hr hd hn hk ⟨.agg u z _ GN (λj=>cs (off+j)) (λj lf hj=>?_) (λj lf hj=>anq (off+j) lf (aY j lf hj).1),λ_ _ _ he=>by(cases he),λ_ _ he=>by(cases he)⟩ rfl ?_;rw[HG,Ho (aY j lf hj).2];rfl;simp[Aad,ag,hv,Aa8,Aa0,Aar,iP,Aaq,Aaj,h3,h4,dk]
  split at h;rename_i y' hy;obtain⟨h0,e0,he⟩:=B9j (r:=[]) hy;have h0:=(D5 _ _).1 h0;subst h0;subst e0;simp only at he;subst he;refine bQ y ?_ h;rw[JA, <-aA,JQ];split at h;rename_i z hz;exact bQ z (hU.dec _ _ _ hz) h;cases h
 rename_i d off hx;split at h;rename_i ls bu;obtain⟨bv,h⟩:=A5 h;have bV:=E4 hr 0 x;rw[hx]at bV;obtain⟨cu,_,_⟩:=Ml hr bu;obtain⟨b,nb,hG,hv,co,dh,aQ⟩:=SJ bv bV cu;have bQ:∀(u':Ty)(z:den u'),E.U.size u'=E.U.size u->(D0 ((ls.drop off).take (E.U.size u))).length=E.U.size u'->
   (∀cs:Nat->Value,(∀(j:Nat) lf,(D0 ((ls.drop off).take (E.U.size u)))[j]?=J lf->CRep E.U w g.wm lf (cs j))->∀(j:Nat) lf,(E.U.cells u' z)[j]?=J lf->CRep E.U w g.wm lf (cs j))->
   k (.one (.agg u' z)) s=J r->o.wp P a w next Q:=λu' z aw cE hq hk=>by
  have wa:=hU.len u' z;have aY:∀j lf,(D0 ((ls.drop off).take (E.U.size u)))[j]?=J lf->∃l0,ls[off+j]?=J l0/\lf=l0.close:=λj lf hj=>by
   rw[B3d,Hn,IE]at hj;split at hj;obtain⟨l0,h5,rfl⟩:=Hi.1 hj;exact⟨l0,h5,rfl⟩;cases hj
  have cN:∀j,j<E.U.size u->∃uu,w.cell? ⟨b,off+j,O⟩=J uu/\∀lf,(D0 ((ls.drop off).take (E.U.size u)))[j]?=J lf->CRep E.U w g.wm lf uu:=λj hj=>by
   obtain⟨l0,h5,h6⟩:=aY j _ (GE FK);obtain⟨uu,u1,_,_,u4⟩:=aQ _ _ h5;refine⟨uu,u1,λlf dw=>?_⟩;rw[GE FK]at dw;cases dw;rw[h6];exact u4.1.close
  have wb:∃cs:Nat->Value,∀j,j<E.U.size u->w.cell? ⟨b,off+j,O⟩=J (cs j)/\∀lf,(D0 ((ls.drop off).take (E.U.size u)))[j]?=J lf->CRep E.U w g.wm lf (cs j):=
   ⟨λj=>(w.cell? ⟨b,off+j,O⟩).getD undef,λj hj=>by
    obtain⟨uu,u1,u2⟩:=cN j hj;refine⟨?_,λlf dw=>?_⟩;show _=J ((w.cell? ⟨b,off+j,O⟩).getD undef);rw[u1];rfl;show CRep E.U w g.wm lf ((w.cell? ⟨b,off+j,O⟩).getD undef);rw[u1];exact u2 lf dw⟩
  obtain⟨cs,cN⟩:=wb;have dk:(Aav ⟨b,off,O⟩ (E.U.size u)).run P w=.ok ((Aao (E.U.size u)).map cs).toArray w:=
   Abn w _ _ cs λj hj=>by rw[Hw];exact(cN j hj).1
  refine E8 (e:=.one (.agg u' z)) (v:=.agg ((Aao (E.U.size u)).map cs).toArray) hr hd hn hk ⟨.agg u' z _ (by simp[aw]) cs (λj lf hj=>?_) (hq cs λj lf hj=>?_),λ_ _ _ he=>by(cases he),λ_ _ he=>by(cases he)⟩ rfl ?_;have h7:=G7 hj;rw[HG,Ho FK];rfl;have h7:=G7 hj;exact(cN j FK).2 lf hj;simp[Aad,ag,hv,Aa8,Aa0,Aar,iP,Aaq,Aaj,h3,h4,dk]
 split at h;rename_i z hz;have sy:=hU.dec _ _ _ hz;exact bQ u z rfl (by rw[<-sy];exact hU.len u z) (λcs h5 j lf hj=>h5 j lf (by rw[<-sy];exact hj)) h;split at h;rename_i u' _;obtain⟨aw,h⟩:=A5 h;split at h;rename_i z hz;obtain⟨h5,h6⟩:=hX _ _ _ hz;exact bQ u' z (HZ aw) h5 (λcs h7=>h6 w g.wm cs h7) h;cases h;cases h;cases h;cases h;rename_i hk _ cK;have iP:=C7L (E:=E) (hT t) hk cK w;split at h;rename_i u y off hx;split at h;rename_i lf dw;have bV:=E4 hr 0 x;rw[hx]at bV;obtain⟨hc,_⟩:=bV;generalize hv:a.eval x=v at hc;cases hc with
 |elem _ _ _ b o' cs ba aH anq=>
  refine E8 (e:=.one lf.close) (v:=cs off) hr hd hn h (LRep.closed (anq off lf dw)) rfl ?_;simp[Aad,ag,hv,Aa8,Aa0,Aar,iP,aH off lf dw]
 cases h;rename_i d off hx;split at h;rename_i ls bu;obtain⟨bv,h⟩:=A5 h;split at h;rename_i l hl;have bV:=E4 hr 0 x;rw[hx]at bV;obtain⟨cu,_,_⟩:=Ml hr bu;obtain⟨b,nb,hG,hv,co,dh,aQ⟩:=SJ bv bV cu;obtain⟨uu,u1,_,_,u4⟩:=aQ off l hl;refine E8 (e:=.one l) (v:=uu) hr hd hn h u4 rfl ?_;simp[Aad,ag,hv,Aa8,Aa0,Aar,iP,u1];cases h;cases h;cases h
end
end Go.Aev
namespace Go.Aev
variable {Ty:Type}{den:Ty->Type}
section
variable {E:Env Ty den}{B:Bs}{g:Gh}{s:St Ty den}{a:Act}{w:World}
variable {P:Aag}{R:Type}{o:Oper}{k:Ent Ty den->St Ty den->Option R}{r:R}{next:Act->World->Prop}{Q:Exit->Act->World->Prop}
variable (hT:∀t,M4 P E.U t (E.tb t))(hU:E.U.Ok)
def REL.newOwn(hU:E.U.Ok)(hr:Rel E.U B g s a w)(hd:∀i,o.dst=J i->i<a.tmps.size/\B.np<=i)(d:Nat){t:Ty}{l:List (den t)}{c:Array Value}{e:Aaa}{fz:Nat×Nat}{cap:Nat}(hety:∀e',E.U.ety t=J e'->e'=e)(w':World)
  (hw:w'.heap=w.heap.push (.cells c e fz))(kD:w'.os=w.os)(di:w'.tape=w.tape)(eG:w'.output=w.output)(aW:l.length<=cap)(aw:cap*E.U.size t<=c.size)
  (oL:fz.2=0)
  (hc:∀(j:Nat)(lf:Leaf Ty den),(flat E.U t l)[j]?=J lf->∃v:Value,c[j]?=J v/\CRep E.U w g.wm lf v):
  REL E.U B ((s.fresh d).setO o.dst (.one (.sl t l (J d)))) (a.put o.dst (.slice (J ⟨w.heap.size,0,O⟩) l.length cap)) w':=by
 have h1:=hr.alloc hU (.cells c e fz) (l.length*E.U.size t) w' hw kD di eG;have bZ:w'.heap[w.heap.size]?=J (.cells c e fz):=by rw[hw];simp
 have eb:∀b,b<w.heap.size->w'.heap[b]?=w.heap[b]? :=λb hb=>by rw[hw,Hp,GI FK]
 have hx:Ext w g.wm w' (B9 g.wm w.heap.size (l.length*E.U.size t)):=by
  refine⟨Lo hw,λb off ho=>?_,λb=>?_⟩;rcases Hv b w.heap.size with h2|h2;exact HK (a:=⟨b,off,O⟩) (eb b h2);rw[hr.zero b h2]at ho;omega;unfold B9;by_cases hb:b=w.heap.size;subst hb;rw[GJ rfl,hr.zero _ (GU _)];exact HH _;rw[GI hb];exact GU _
 have fS:B9 g.wm w.heap.size (l.length*E.U.size t) w.heap.size=l.length*E.U.size t:=by simp[B9]
 have anq:CRep E.U w' (B9 g.wm w.heap.size (l.length*E.U.size t)) (.sl t l (J d)) (.slice (J ⟨w.heap.size,0,O⟩) l.length cap):=
  C5S hU bZ cap aW (by rw[fS];exact GU _) (λj lf hj=>by obtain⟨v,hv,gm⟩:=hc j lf hj;exact⟨v,hv,gm.mono hU hx⟩) _
 have h2:=h1.fresh hU d (.slice (J ⟨w.heap.size,0,O⟩) l.length cap) (E.U.size t)
  ⟨_,_,_,rfl,aW,.inr ⟨w.heap.size,0,c,e,fz,rfl,bZ,FK,by simp[B9],by rw[oL];exact HH _⟩⟩
  (λe' b he aP hs sA=>by
   have hb:b=w.heap.size:=by
    simp only[spare]at hs;split at hs;cases hs;exact(Hb hs).symm
   subst hb;obtain⟨a0,len,gu,hv,_,cT⟩:=hr.tip e' he;have fG:spare (g.G e')=J w.heap.size:=sA;rw[hv]at fG;simp only[spare]at fG;split at fG;rename_i a1 l1 c1 eT;cases eT;split at fG;cases fG;rename_i ej;rcases cT with h3|⟨b,off,c,e,fz,ha,hb,_⟩;exact ej h3;cases ha;simp at fG;subst fG;exact absurd (HJ.1 hb).1 FK;cases fG)
  (λb hs=>by
   simp only[spare]at hs;split at hs;cases hs;left;have:=Hb hs;rw[<-this];exact hr.size)
 refine REL.setO h2 (e:=.one (.sl t l (J d))) ⟨anq,λt' l' d' he=>?_,λ_ _ he=>by(cases he)⟩ rfl o.dst hd;simp only[Leaf.sl.injEq,GX]at he;obtain⟨rfl,_,rfl⟩:=he;exact⟨by simp[Gh.put],by simp[Gh.put],TyB.new hety bZ⟩
def REL.newCl(hU:E.U.Ok)(hr:Rel E.U B g s a w)(hd:∀i,o.dst=J i->i<a.tmps.size/\B.np<=i){t:Ty}{l:List (den t)}{c:Array Value}{e:Aaa}{fz:Nat×Nat}{cap:Nat}(w':World)
  (hw:w'.heap=w.heap.push (.cells c e fz))(kD:w'.os=w.os)(di:w'.tape=w.tape)(eG:w'.output=w.output)(aW:l.length<=cap)
  (hc:∀(j:Nat)(lf:Leaf Ty den),(flat E.U t l)[j]?=J lf->∃v:Value,c[j]?=J v/\CRep E.U w g.wm lf v):
  REL E.U B (s.setO o.dst (.one (.sl t l O))) (a.put o.dst (.slice (J ⟨w.heap.size,0,O⟩) l.length cap)) w':=by
 have h1:=hr.alloc hU (.cells c e fz) (l.length*E.U.size t) w' hw kD di eG;have bZ:w'.heap[w.heap.size]?=J (.cells c e fz):=by rw[hw];simp
 have eb:∀b,b<w.heap.size->w'.heap[b]?=w.heap[b]? :=λb hb=>by rw[hw,Hp,GI FK]
 have hx:Ext w g.wm w' (B9 g.wm w.heap.size (l.length*E.U.size t)):=by
  refine⟨Lo hw,λb off ho=>?_,λb=>?_⟩;rcases Hv b w.heap.size with h2|h2;exact HK (a:=⟨b,off,O⟩) (eb b h2);rw[hr.zero b h2]at ho;omega;unfold B9;by_cases hb:b=w.heap.size;subst hb;rw[GJ rfl,hr.zero _ (GU _)];exact HH _;rw[GI hb];exact GU _
 have fS:B9 g.wm w.heap.size (l.length*E.U.size t) w.heap.size=l.length*E.U.size t:=by simp[B9]
 have anq:CRep E.U w' (B9 g.wm w.heap.size (l.length*E.U.size t)) (.sl t l O) (.slice (J ⟨w.heap.size,0,O⟩) l.length cap):=
  C5S hU bZ cap aW (by rw[fS];exact GU _) (λj lf hj=>by obtain⟨v,hv,gm⟩:=hc j lf hj;exact⟨v,hv,gm.mono hU hx⟩) _
 exact REL.setO h1 (e:=.one (.sl t l O)) ⟨anq,λ_ _ _ he=>by(cases he),λ_ _ he=>by(cases he)⟩ rfl o.dst hd
def B2H(hr:Rel E.U B g s a w){d n:Int}{x:Option Aae}(h:T9 E s d x=J n):(x=O/\n=d)\/∃y k0,x=J y/\a.eval y=.int k0 n:=by
 cases x with
 |none=>simp only[T9,GX]at h;exact .inl ⟨rfl,h.symm⟩
 |some y=>
  simp only[T9]at h;split at h;rename_i k0 m hy;simp only[GX]at h;subst h;exact .inr ⟨y,k0,rfl,S4 hr hy⟩;cases h
def B1s(P:Aag)(w:World)(wc:Bool)(len cap:Nat)(ej:len<=cap)(lo hi mx:Option Value)(l h m:Nat)(hl:(lo=O/\l=0)\/∃k,lo=J (.int k (l:Int)))(hh:(hi=O/\mx=O/\h=len)\/∃k,hi=J (.int k (h:Int)))
  (hm:(mx=O/\m=cap)\/∃k,mx=J (.int k (m:Int)))(h1:l<=h)(h2:h<=m)(h3:m<=cap):
  (Abg wc len cap lo hi mx).run P w=.ok (l,h,m) w:=by
 have a1:(l:Int)<=(h:Int):=FK;have a2:(h:Int)<=(m:Int):=FK;have a3:(m:Int)<=(cap:Int):=FK;have a0:(0:Int)<=(l:Int):=FK;have b0:(0:Int)<=(h:Int):=FK;have c0:(0:Int)<=(m:Int):=FK;rcases hm with⟨rfl,rfl⟩|⟨km,rfl⟩<;>rcases hh with⟨rfl,vu,rfl⟩|⟨kh,rfl⟩<;>rcases hl with⟨rfl,rfl⟩|⟨kl,rfl⟩<;>
  first
  |(cases vu;done)
  |(simp[Abg,Abm,a0,a1,a2,a3,b0,c0];done)
  |(simp[Abg,Abm,a0,a1,a2,a3,b0,c0];intros;omega)
  |(simp[Abg,Abm,a0,a1,a2,a3,b0,c0,h1,h2,h3,KU.2 h1,KU.2 h2,KU.2 h3];done)
include hT hU in
def C9M{t:Aaa}{x:Aae}{lo hi mx:Option Aae}(ag:o.op=.slice t x lo hi mx)(h:A6 E o s k=J r)(hr:Rel E.U B g s a w)(hd:∀i,o.dst=J i->i<a.tmps.size/\B.np<=i)(hn:G2 E B o a k r next):o.wp P a w next Q:=by
 simp only[A6,ag]at h;split at h;rename_i b ht hx;have cO:=OF hT ht;have ex:=SG hr hx;split at h;rename_i va vc gy ma;split at h;rename_i rr dx;obtain⟨h0,h1,h2,rfl⟩:=B57 dx;have e1:((va.toNat:Nat):Int)=va:=FK;have e2:((vc.toNat:Nat):Int)=vc:=FK;have hb:=B1s P w V b.length b.length (GU _) (lo.map a.eval) (hi.map a.eval) O va.toNat vc.toNat b.length
  (by
    rcases B2H hr gy with⟨rfl,h3⟩|⟨y,k0,rfl,h3⟩;left;exact⟨rfl,FK⟩;right;exact⟨k0,by rw[e1];simp[h3]⟩)
  (by
    rcases B2H hr ma with⟨rfl,h3⟩|⟨y,k0,rfl,h3⟩;left;exact⟨rfl,rfl,FK⟩;right;exact⟨k0,by rw[e2];simp[h3]⟩)
  (.inl ⟨rfl,rfl⟩) FK FK (GU _)
 refine E8 (e:=.one (.str _)) (v:=.string ⟨((b.drop va.toNat).take (vc.toNat - va.toNat)).toArray⟩) hr hd hn h (LRep.str _) rfl ?_;simp[Aad,ag,ex,Acb,Acd,Aaf cO,QO,hb,KO];cases h;cases h;rename_i u e u0 l0 own ht hx;split at h;rename_i l cW;obtain⟨cO,ie,z,bO,aw,_,_,_⟩:=M9 hT ht;have bV:=E4 hr t x;rw[hx]at bV;have anq:=(QK cW bV.1).1;have bQ:∀(va vc:Int)(mv:Option Value)(m:Nat->Nat),0<=va->va<=vc->vc<=(l.length:Int)->T9 E s 0 lo=J va->T9 E s (l.length:Int) hi=J vc->
   (∀cap,l.length<=cap->((mv=O/\m cap=cap)\/((∃k,mv=J (.int k ((m cap:Nat):Int)))/\hi≠O/\m cap=vc.toNat)))->mx.map a.eval=mv->
   k (.one (.sl u ((l.drop va.toNat).take (vc.toNat - va.toNat)) O)) s=J r->o.wp P a w next Q:=by
  intro va vc mv m h0 h1 h2 gy ma hm pS hk;have e1:((va.toNat:Nat):Int)=va:=FK;have e2:((vc.toNat:Nat):Int)=vc:=FK;obtain⟨a0,BR,zF⟩:=anq.sl_inv;have aA:((l.drop va.toNat).take (vc.toNat - va.toNat)).length=vc.toNat - va.toNat:=GQ;have dm:∀(a0:Option Addr)(cap:Nat),a.eval x=.slice a0 l.length cap->l.length<=cap->
    (Aad a.eval o).run P w=.ok (.value (.slice (if m cap=va.toNat then a0 else a0.map (·.add (va.toNat*E.U.size u))) (vc.toNat - va.toNat) (m cap - va.toNat))) w:=by
   intro a0 cap hv aW;have oM:=hm cap aW;have hb:=B1s P w Z l.length cap aW (lo.map a.eval) (hi.map a.eval) mv va.toNat vc.toNat (m cap)
    (by
      rcases B2H hr gy with⟨rfl,h3⟩|⟨y,k0,rfl,h3⟩;left;exact⟨rfl,FK⟩;right;exact⟨k0,by rw[e1];simp[h3]⟩)
    (by
      rcases B2H hr ma with⟨rfl,h3⟩|⟨y,k0,rfl,h3⟩;rcases oM with⟨h4,_⟩|⟨_,h4,_⟩;left;exact⟨rfl,h4,FK⟩;exact absurd rfl h4;right;exact⟨k0,by rw[e2];simp[h3]⟩)
    (by
      rcases oM with h4|⟨h4,_⟩;exact .inl h4;exact .inr h4)
    FK (by rcases oM with⟨_,h4⟩|⟨_,_,h4⟩<;>omega) (by rcases oM with⟨_,h4⟩|⟨_,_,h4⟩<;>omega)
   simp[Aad,ag,hv,Acb,Acd,Aaf cO,pS,hb,Aaq,Aaj,bO,aw]
  rcases anq.sl_cells hU with⟨rfl,a1,cap,hv⟩|⟨b,off,cap,cs,hv,aW,ba,hc,fR⟩;have hz:vc.toNat - va.toNat=0:=by simp at h2;omega
  refine E8 (e:=.one (.sl u _ O)) hr hd hn hk ?_ rfl (dm a1 cap hv (HH _));refine⟨?_,λ_ _ _ e=>by(simp at e),λ_ _ e=>by(cases e)⟩;rw[hz,JW];exact .nil u O _ _;refine E8 (e:=.one (.sl u _ O)) hr hd hn hk ?_ rfl (dm _ cap hv aW);refine⟨?_,λ_ _ _ e=>by(simp at e),λ_ _ e=>by(cases e)⟩;by_cases hz:vc.toNat - va.toNat=0;rw[hz,JW];exact .nil u O _ _;have we:m cap≠va.toNat:=by
   rcases hm cap aW with⟨_,h4⟩|⟨_,_,h4⟩<;>omega
  rw[GI we];have cS:(Abk b off O).add (va.toNat*E.U.size u)=⟨b,off+va.toNat*E.U.size u,O⟩:=Hw _ _ _;simp only[IJ,cS];have jP:∀(j:Nat)(lf:Leaf Ty den),(flat E.U u ((l.drop va.toNat).take (vc.toNat - va.toNat)))[j]?=J lf->(flat E.U u l)[va.toNat*E.U.size u+j]?=J lf:=by
   intro j lf hj;rw[C1y hU,C5f hU]at hj;rw[Hn]at hj;split at hj;rw[IE]at hj;exact hj;cases hj
  have dL:(va.toNat+(vc.toNat - va.toNat))*E.U.size u<=l.length*E.U.size u:=Hq _ FK;rw[Hz]at dL;have:=CRep.sl (U:=E.U) (w:=w) (wm:=g.wm) u ((l.drop va.toNat).take (vc.toNat - va.toNat)) O b (off+va.toNat*E.U.size u) (m cap - va.toNat) (λj=>cs (va.toNat*E.U.size u+j))
   (by rw[aA];rcases hm cap aW with⟨_,h4⟩|⟨_,_,h4⟩<;>omega) (by rw[aA];omega)
   (λj lf hj=>by have:=hc _ lf (jP j lf hj);rw[If];exact this) (λj lf hj=>fR _ lf (jP j lf hj))
  rw[aA]at this;exact this
 split at h;rename_i va vc gy ma;split at h;rename_i rr dx;obtain⟨h0,h1,h2,rfl⟩:=B57 dx;exact bQ va vc O (λc=>c) h0 h1 h2 gy ma (λcap _=>.inl ⟨rfl,rfl⟩) rfl h;cases h;rename_i va vc m gy ma;split at h;rename_i k0 mv hm;obtain⟨hc,h'⟩:=A5 h;simp only[Fn,decide_eq_true_eq]at hc;obtain⟨zG,hc⟩:=hc;split at h';rename_i rr dx;obtain⟨h0,h1,h2,rfl⟩:=B57 dx;have em:=S4 hr hm;have BS:hi≠O:=λe=>by rw[e]at zG;cases zG
 exact bQ va vc (J (.int k0 vc)) (λ_=>vc.toNat) h0 h1 h2 gy ma (λcap _=>.inr ⟨⟨k0,by congr 2;omega⟩,BS,rfl⟩) (by simp[em,hc]) h';cases h';cases h;cases h;cases h;cases h
end
end Go.Aev
section
open Go.Lib
namespace Go.Aev
variable {Ty:Type}{den:Ty->Type}
section
variable {E:Env Ty den}{B:Bs}{g:Gh}{s:St Ty den}{a:Act}{w:World}
variable {P:Aag}{R:Type}{o:Oper}{k:Ent Ty den->St Ty den->Option R}{r:R}{next:Act->World->Prop}{Q:Exit->Act->World->Prop}
variable (hT:∀t,M4 P E.U t (E.tb t))(hU:E.U.Ok)
def C1P(hr:Rel E.U B g s a w)(ty:Aaa):∀(ps:List (Nat×Aae))(i:Nat)(ls:List (Leaf Ty den)),OC E s ty i ps=J ls->
  ls.length=ps.length/\(ps.map λ(j,x)=>(j,a.eval x))=((ps.map λp=>a.eval p.2).zipIdx i).map (λx=>(x.2,x.1))/\
   ∀(j:Nat)(lf:Leaf Ty den),ls[j]?=J lf->∃v,(ps.map λp=>a.eval p.2)[j]?=J v/\CRep E.U w g.wm lf v
 |[],i,ls,h=>by
  simp only[OC,GX]at h;subst h;exact⟨rfl,rfl,λj lf hj=>by simp at hj⟩
 |(j0,x)::ps,i,ls,h=>by
  simp only[OC]at h;obtain⟨hc,h'⟩:=A5 h;have pT:=(D5 i j0).1 hc;subst pT;cases hp:OC E s ty (i+1) ps with
  |none=>rw[hp]at h';cases h'
  |some cf=>
   rw[hp]at h';simp only[IJ,GX]at h';subst h';obtain⟨h1,h2,h3⟩:=C1P hr ty ps (i+1) cf hp;refine⟨by simp[h1],by simp[h2,Jj],λj lf hj=>?_⟩;cases j with
   |zero=>
    simp at hj;subst hj;exact⟨a.eval x,GN,(E4 hr ty x).1.close⟩
   |succ j=>
    obtain⟨v,hv,anq⟩:=h3 j lf (by simpa using hj);exact⟨v,by simpa using hv,anq⟩
def B9t{U:UO Ty den}(hU:U.Ok)(t:Ty):∀(ls:List (Leaf Ty den))(xs:List (den t)),Xr U t ls=J xs->xs.length=ls.length/\flat U t xs=ls
 |[],xs,h=>by simp only[Xr,GX]at h;subst h;exact⟨rfl,rfl⟩
 |l::ls,xs,h=>by
  simp only[Xr]at h;split at h;rename_i x mc hx jQ;simp only[GX]at h;subst h;obtain⟨h1,h2⟩:=B9t hU t ls mc jQ;exact⟨by simp[h1],by rw[VL,hU.dec t [l] x hx,h2];rfl⟩;cases h
def D3i{lf:Leaf Ty den}{v:Value}{wm:Nat->Nat}(h:B6P lf v=Z):CRep E.U w wm lf v:=by
 unfold B6P at h;split at h;simp only[Fn,decide_eq_true_eq]at h;obtain⟨rfl,rfl⟩:=h;exact .int _ _;rename_i b b';have:b=b':=by simpa using h
 subst this;exact .bool _;rename_i s;have h0:s.data.toList=[]:=by simpa using h
 have:s=⟨([]:rg).toArray⟩:=by
  cases s with
  |mk d=>cases d;simp at h0;subst h0;rfl
 rw[this];exact .str [];exact .nil _ _ _ _;cases h
def C3X{wm:Nat->Nat}:∀{ls:List (Leaf Ty den)}{vs:Gw},B01 ls vs=Z->ls.length=vs.length/\∀(j:Nat) lf,ls[j]?=J lf->∃v,vs[j]?=J v/\CRep E.U w wm lf v
 |[],[],_=>⟨rfl,λj lf h=>by simp at h⟩
 |[],_::_,h=>by cases h
 |_::_,[],h=>by cases h
 |l::ls,v::vs,h=>by
  simp only[B01,Fn]at h;obtain⟨h1,h2⟩:=C3X (wm:=wm) h.2;refine⟨by simp[h1],λj lf hj=>?_⟩;cases j with
  |zero=>simp at hj;subst hj;exact⟨v,rfl,D3i h.1⟩
  |succ j=>exact h2 j lf (by simpa using hj)
def C7d(hU:E.U.Ok)(hr:Rel E.U B g s a w){e:Aaa}{u:Ty}{x:Aae}{y:den u}(h:B25 E e u s x=J y):CRep E.U w g.wm (.agg u y) (a.eval x):=by
 have h5:=E4 hr 0 x;unfold B25 at h;split at h;rename_i u' y' hy;rw[hy]at h5;split at h;rename_i y2 BT;cases h;obtain⟨rfl,e2⟩:=B2g BT;simp only at e2;subst e2;exact h5.1;cases h;split at h;rename_i vs zs _ hz;obtain⟨h1,h2⟩:=A5 h;obtain⟨q1,q2⟩:=C3X (E:=E) (w:=w) (wm:=g.wm) h1;have hc:=hU.dec _ _ _ h2;have hl:=hU.len u y;rw[hc]at hl;have:=CRep.agg (U:=E.U) (w:=w) (wm:=g.wm) u y vs.toList (by rw[<-q1,hl]) (λj=>vs.toList.getD j undef) (λj lf hj=>by
  rw[hc]at hj;obtain⟨v,hv,_⟩:=q2 j lf hj;simp[Abf,hv]) (λj lf hj=>by
  rw[hc]at hj;obtain⟨v,hv,anq⟩:=q2 j lf hj;have:vs.toList.getD j undef=v:=by simp[Abf,hv]
  rw[this];exact anq)
 have h6:a.eval (.const (.agg vs))=.agg vs:=rfl;rw[h6];simpa using this;cases h
def C0q(hU:E.U.Ok)(hr:Rel E.U B g s a w)(e:Aaa)(u:Ty):∀(ps:List (Nat×Aae))(i:Nat)(xs:List (den u)),Pp E e u s i ps=J xs->
  xs.length=ps.length/\(ps.map λ(j,x)=>(j,a.eval x))=((ps.map λp=>a.eval p.2).zipIdx i).map (λx=>(x.2,x.1))/\
   ∀(j:Nat)(x:den u),xs[j]?=J x->∃v,(ps.map λp=>a.eval p.2)[j]?=J v/\CRep E.U w g.wm (.agg u x) v
 |[],i,xs,h=>by
  simp only[Pp,GX]at h;subst h;exact⟨rfl,rfl,λj x hj=>by simp at hj⟩
 |(j0,x0)::ps,i,xs,h=>by
  simp only[Pp]at h;obtain⟨hc,h'⟩:=A5 h;have pT:=(D5 i j0).1 hc;subst pT;split at h';rename_i y' l hy lC;cases h';obtain⟨h1,h2,h3⟩:=C0q hU hr e u ps (i+1) l lC;refine⟨by simp[h1],by simp[h2,Jj],λj x hj=>?_⟩;cases j with
  |zero=>
   simp at hj;subst hj;exact⟨a.eval x0,GN,C7d hU hr hy⟩
  |succ j=>
   obtain⟨v,hv,anq⟩:=h3 j x (by simpa using hj);exact⟨v,by simpa using hv,anq⟩
  cases h'
def C2V{α β:Type}(f:α->List β)(c:Nat):∀(l:List α),(∀v∈l,(f v).length=c)->(l.flatMap f).length=l.length*c
 |[],_=>GN
 |v::l,h=>by
  rw[ID,Fd,h v HO,C2V f c l λx hx=>h x (Ha _ hx),Fr,Nat.succ_mul];omega
def Ky(P:Aag)(U:UO Ty den)(t:Aaa)(zs:List (Leaf Ty den)):Prop:=
 ∃i z,P.info? t=J i/\i.size=zs.length/\i.zero=J z/\z.cells.size=zs.length/\∀(j:Nat) lf,zs[j]?=J lf->∃u,z.cells[j]?=J u/\u.oneCell'=Z/\u.cells= #[u]/\(∀(w:World)(g:Gh),LRep U w g lf u)/\∀t,lf=.sl t [] O->u=.slice O 0 0
def C4U:∀(l:Gw)(k off:Nat)(cells:Array Value),off+k+l.length<=cells.size->
  ((l.zipIdx k).foldl (λcs (p:Value×Nat)=>cs.setIfInBounds (off+p.2) p.1) cells).size=cells.size/\
  ∀i,((l.zipIdx k).foldl (λcs (p:Value×Nat)=>cs.setIfInBounds (off+p.2) p.1) cells)[i]?=if off+k<=i/\i<off+k+l.length then l[i - (off+k)]? else cells[i]?
 |[],k,off,cells,h=>⟨rfl,λi=>by rw[GI (by simp only[GT];omega)];rfl⟩
 |v::l,k,off,cells,h=>by
  simp only[Fr]at h;obtain⟨h1,h2⟩:=C4U l (k+1) off (cells.setIfInBounds (off+k) v) (by rw[Jx];omega);simp only[Jj,Jp];refine⟨by rw[h1,Jx],λi=>?_⟩;rw[h2 i];by_cases hi:off+(k+1)<=i/\i<off+(k+1)+l.length;rw[GJ hi,GJ (by simp only[Fr];omega)];rw[show i - (off+k)=(i - (off+(k+1)))+1 from FK,Iu];rw[GI hi,IU];by_cases hk:off+k=i;rw[GJ hk,GJ FK,GJ (by simp only[Fr];omega),show i - (off+k)=0 from FK];rfl;rw[GI hk,GI (by simp only[Fr];omega)]
structure VP(U:UO Ty den)(w:World)(g:Gh)(ls:List (Leaf Ty den))(cells:Array Value):Prop where
 size:cells.size=ls.length
 at_:∀(j:Nat) lf,ls[j]?=J lf->∃u,cells[j]?=J u/\u.oneCell'=Z/\u.cells= #[u]/\LRep U w g lf u
def B1R{α:Type}(ls:List α)(o:Nat)(ys:List α)(h:o+ys.length<=ls.length):(P3 ls o ys).length=ls.length/\∀i,(P3 ls o ys)[i]?=if o<=i/\i<o+ys.length then ys[i - o]? else ls[i]? :=by
 unfold P3;refine⟨GQ,λi=>?_⟩;by_cases h1:i<o;rw[HV GQ,Hn,GJ h1,GI FK];rw[Hk GQ,IK,Nat.min_eq_left FK];by_cases h2:i - o<ys.length;rw[HV h2,GJ FK];rw[Hk FK,IE,GI FK];congr 1;omega
def C1p{lf:Leaf Ty den}(h:Rt lf=Z):B6h lf:=by
 cases lf<;>first
  |(cases h;done)
  |exact⟨(by intro e;cases e),(by intro v e;cases e),(by intro u y e;cases e)⟩
include hU in
def B1S{n:Nat}{lf:Leaf Ty den}{v:Value}{ys:List (Leaf Ty den)}(h:cellsOf E n lf=J ys)(hl:LRep E.U w g lf v):
  v.cells.size=n/\ys.length=n/\∀(j:Nat) y,ys[j]?=J y->∃u,v.cells[j]?=J u/\u.oneCell'=Z/\u.cells= #[u]/\LRep E.U w g y u:=by
 have one:∀{lf:Leaf Ty den},(bif Rt lf&&Aab n 1 then J [lf]else O)=J ys->LRep E.U w g lf v->v.cells.size=n/\ys.length=n/\∀(j:Nat) y,ys[j]?=J y->∃u,v.cells[j]?=J u/\u.oneCell'=Z/\u.cells= #[u]/\LRep E.U w g y u:=λh hl=>by
  obtain⟨h1,h2⟩:=A5 h;cases h2;simp only[Fn]at h1;have hn:=(D5 _ _).1 h1.2;obtain⟨h3,h4⟩:=hl.1.one hU (C1p h1.1);refine⟨by rw[h4,hn];rfl,by rw[hn];rfl,λj y hj=>?_⟩;cases j with
  |zero=>
   simp at hj;subst hj;exact⟨v,by rw[h4];rfl,h3,h4,hl⟩
  |succ j=>simp at hj
 cases lf with
 |agg u y=>
  obtain⟨h1,h2⟩:=A5 h;cases h2;have hn:=(D5 _ _).1 h1;obtain⟨vs,rfl,pU,cs,cN,fR⟩:=SI hl.1;have cE:=hU.len u y;refine⟨by show vs.toArray.size=n;simp[pU,hn],by rw[cE,hn],λj lf hj=>?_⟩;have h5:=cN j lf hj;have hr:=fR j lf hj;have hs:=hU.solid u y lf (HI hj);obtain⟨h6,h7⟩:=hr.one hU hs;refine⟨cs j,by show vs.toArray[j]?=_;simpa using h5,h6,h7,hr,λt l d he=>?_,λd o he=>?_⟩;subst he;have:=hU.closed u y _ (HI hj);simp[Leaf.close]at this;subst he;have:=hU.closed u y _ (HI hj);simp[Leaf.close]at this
 |any=>exact one (lf:=.any) h hl
 |int k n=>exact one h hl
 |bool b=>exact one h hl
 |str s=>exact one h hl
 |sl t l o=>exact one h hl
 |elem t x o=>exact one h hl
 |val v=>exact one (lf:=.val v) h hl
 |ptr d o=>exact one (lf:=.ptr d o) h hl
 |ifc T t x=>exact one h hl
 |one1 t x=>exact one h hl
 |nils=>exact one h hl
include hU in
def B1X(hr:Rel E.U B g s a w){g':Gh}{cl:Leaf Ty den->Leaf Ty den}(cE:∀l v,LRep E.U w g l v->LRep E.U w g' (cl l) v)(pl:List (Nat×Nat)):∀(ps:List (Nat×Aae))(ls cf:List (Leaf Ty den))(cells:Array Value),Mg E cl s pl ps ls=J cf->VP E.U w g' ls cells->
  ∃bE,Abh (pl.toArray[·]?) cells (ps.map λp=>(p.1,a.eval p.2))=J bE/\VP E.U w g' cf bE
 |[],ls,cf,cells,h,hf=>by
  simp only[Mg,GX]at h;subst h;exact⟨cells,rfl,hf⟩
 |(j,x)::ps,ls,cf,cells,h,hf=>by
  simp only[Mg]at h;split at h;rename_i o' n lC;split at h;rename_i ys oN;obtain⟨bw,h⟩:=A5 h;have bw:=Hu bw;have hx:LRep E.U w g' (cl (opl E s 0 x)) (a.eval x):=cE _ _ (E4 hr 0 x);obtain⟨c1,c2,c3⟩:=B1S hU oN hx;have aw:=hf.size;obtain⟨k1,k2⟩:=C4U (a.eval x).cells.toList 0 o' cells GQ;obtain⟨m1,m2⟩:=B1R ls o' ys FK;have ci:VP E.U w g' (P3 ls o' ys) (((a.eval x).cells.toList.zipIdx 0).foldl (λcs (p:Value×Nat)=>cs.setIfInBounds (o'+p.2) p.1) cells):=by
   refine⟨by rw[k1,m1,aw],λi lf hi=>?_⟩;rw[m2]at hi;rw[k2];simp only[Iv,KS,c1];rw[c2]at hi;by_cases dj:o'<=i/\i<o'+n;rw[GJ dj]at hi ⊢;obtain⟨u,u1,u2,u3,u4⟩:=c3 _ _ hi;exact⟨u,by rw[<-u1];simp,u2,u3,u4⟩;rw[GI dj]at hi ⊢;exact hf.at_ i lf hi
  obtain⟨bE,q1,q2⟩:=B1X hr cE pl ps _ cf _ h ci;refine⟨bE,?_,q2⟩;simp only[IN,Abh];have wg:pl.toArray[j]?=J (o',n):=by simpa using lC
  rw[wg];dsimp only;rw[GI (by simp[c1];omega)];rw[<-q1];congr 1;rw[<-Array.foldl_toList,Array.toList_zipIdx];cases h;cases h
def nlG(U:UO Ty den)(nm j:Nat)(g:Gh):Leaf Ty den->Gh
 | .sl t [] O=>g.put (bo nm j) (.slice O 0 0) (U.size t)
 |_=>g
def B00(l:Leaf Ty den):(∃t,l=.sl t [] O)\/((∀nm j,nlL nm j l=l)/\(∀nm j (s:St Ty den),nlS nm j s l=s)/\∀(U:UO Ty den) nm j g,nlG U nm j g l=g):=by
 cases l with
 |sl t x o=>
  cases x with
  |nil=>cases o with
   |none=>exact .inl ⟨t,rfl⟩
   |some e=>exact .inr ⟨λ_ _=>rfl,λ_ _ _=>rfl,λ_ _ _ _=>rfl⟩
  |cons y x=>exact .inr ⟨λ_ _=>rfl,λ_ _ _=>rfl,λ_ _ _ _=>rfl⟩
 |_=>exact .inr ⟨λ_ _=>rfl,λ_ _ _=>rfl,λ_ _ _ _=>rfl⟩
def Lp(U:UO Ty den)(nm:Nat):Nat->Gh->List (Leaf Ty den)->Gh
 |_,g,[]=>g
 |j,g,l::r=>Lp U nm (j+1) (nlG U nm j g l) r
def B14(U:UO Ty den)(nm:Nat):∀(zs:List (Leaf Ty den))(j:Nat)(g:Gh),(Lp U nm j g zs).wm=g.wm/\∀e,(∀i,j<=i->e≠bo nm i)->(Lp U nm j g zs).G e=g.G e/\(Lp U nm j g zs).Gs e=g.Gs e
 |[],j,g=>⟨rfl,λe _=>⟨rfl,rfl⟩⟩
 |l::zs,j,g=>by
  obtain⟨h1,h2⟩:=B14 U nm zs (j+1) (nlG U nm j g l);simp only[Lp];rcases B00 l with⟨t,rfl⟩|⟨_,_,h⟩;refine⟨h1,λe he=>?_⟩;obtain⟨k1,k2⟩:=h2 e (λi hi=>he i FK);have:=he j (GU _);rw[k1,k2];simp[nlG,Gh.put,this];rw[h]at h1 h2 ⊢;exact⟨h1,λe he=>h2 e (λi hi=>he i FK)⟩
include hU in
def B8H(nm:Nat):∀(zs:List (Leaf Ty den))(j:Nat)(s:St Ty den)(g:Gh),Rel E.U B g s a w->Rel E.U B (Lp E.U nm j g zs) (Rq nm j s zs) a w
 |[],j,s,g,hr=>hr
 |l::zs,j,s,g,hr=>by
  simp only[Lp,Rq];refine B8H nm zs (j+1) _ _ ?_;rcases B00 l with⟨t,rfl⟩|⟨_,h2,h3⟩;exact hr.fresh hU _ _ _ ⟨_,_,_,rfl,GU _,.inl rfl⟩ (λ_ _ _ _ hs=>by simp[spare]at hs) (λ_ hs=>by simp[spare]at hs);rw[h2,h3];exact hr
def LRep.keep{g1 g2:Gh}(hw:g2.wm=g1.wm){lf:Leaf Ty den}{v:Value}{U:UO Ty den}(h:LRep U w g1 lf v)(hk:∀e,lf.has e=Z->g2.G e=g1.G e/\g2.Gs e=g1.Gs e):LRep U w g2 lf v:=by
 refine⟨by rw[hw];exact h.1,λt l d he=>?_,λd o he=>?_⟩;obtain⟨e1,e2⟩:=hk d (by rw[he];simp[Leaf.has,G4]);rw[e1,e2];exact h.2.1 t l d he;obtain⟨e1,e2⟩:=hk d (by rw[he];simp[Leaf.has,G4]);rw[e1];exact h.2.2 d o he
def B8B(U:UO Ty den)(w:World)(nm:Nat):∀(zs:List (Leaf Ty den))(us:Gw)(j:Nat)(g:Gh),zs.length=us.length->(∀(i:Nat) lf u,zs[i]?=J lf->us[i]?=J u->(∀g:Gh,LRep U w g lf u)/\∀t,lf=.sl t [] O->u=.slice O 0 0)->
  (Lj nm j zs).length=zs.length/\∀(i:Nat) lf u,(Lj nm j zs)[i]?=J lf->us[i]?=J u->LRep U w (Lp U nm j g zs) lf u
 |[],us,j,g,hl,_=>⟨rfl,λi lf u h=>by simp[Lj]at h⟩
 |l::zs,[],j,g,hl,_=>by simp at hl
 |l::zs,v::us,j,g,hl,h=>by
  obtain⟨h1,h2⟩:=B8B U w nm zs us (j+1) (nlG U nm j g l) (by simpa using hl) (λi lf u hi hu=>h (i+1) lf u (by simpa using hi) (by simpa using hu));refine⟨by simp[Lj,h1],λi lf u hi hu=>?_⟩;cases i with
  |succ i=>exact h2 i lf u (by simpa [Lj]using hi) (by simpa using hu)
  |zero=>
   simp only[Lj,JR,GX]at hi hu;subst hu;obtain⟨k1,k2⟩:=h 0 l v rfl rfl;simp only[Lp];rcases B00 l with⟨t,rfl⟩|⟨h3,_,h4⟩;subst hi;rw[k2 t rfl];obtain⟨q1,q2⟩:=B14 U nm zs (j+1) (g.put (bo nm j) (.slice O 0 0) (U.size t));refine⟨.nil _ _ _ _,λt1 l1 d1 he=>?_,λ_ _ he=>by(cases he)⟩;obtain⟨rfl,_,rfl⟩:=he;obtain⟨e1,e2⟩:=q2 (bo nm j) (λi hi=>by unfold bo;omega);simp only[nlG];rw[e1,e2];exact⟨by simp[Gh.put],by simp[Gh.put],TyB.nil⟩;rw[h3]at hi;subst hi;exact k1 _
def B13{U:UO Ty den}{w:World}{g:Gh}:∀{ls:List (Leaf Ty den)}{vs:Gw},ls.length=vs.length->(∀(j:Nat) lf u,ls[j]?=J lf->vs[j]?=J u->LRep U w g lf u)->LsRep U w g ls vs
 |[],[],_,_=>trivial
 |l::ls,v::vs,hl,h=>⟨h 0 l v rfl rfl,B13 (by simpa using hl) λj lf u h1 h2=>h (j+1) lf u (by simpa using h1) (by simpa using h2)⟩
 |[],_::_,hl,_=>by simp at hl
 |_::_,[],hl,_=>by simp at hl
variable (hZ:∀t zs,E.zr t=J zs->Ky P E.U t zs)
include hT in
def D4r{t:Aaa}{x:Aae}(ag:o.op=.makeInterface t x)(h:A6 E o s k=J r)(hr:Rel E.U B g s a w)(hd:∀i,o.dst=J i->i<a.tmps.size/\B.np<=i)(hn:G2 E B o a k r next):o.wp P a w next Q:=by
 simp only[A6,ag]at h;split at h;rename_i u pl u' y ht hx;obtain⟨fs,ie,z,h1,_⟩:=OG hT ht;split at h;rename_i y' hy;obtain⟨e0,he⟩:=B2g hy;subst e0;simp only at he;subst he;have bV:=E4 hr t x;rw[hx]at bV;refine E8 (e:=.one (.ifc t u' y)) (v:=.iface t (a.eval x)) hr hd hn h ⟨.ifc t u' y _ bV.1,λ_ _ _ he=>by(cases he),λ_ _ he=>by(cases he)⟩ rfl ?_;simp[Aad,ag,Instr.makeInterface,Aaf h1];cases h;cases h
include hT hU hZ in
def D23{t:Aaa}{ps:Array (Nat×Aae)}(ag:o.op=.build t ps)(h:A6 E o s k=J r)(hr:Rel E.U B g s a w)(hd:∀i,o.dst=J i->i<a.tmps.size/\B.np<=i)(hn:G2 E B o a k r next):o.wp P a w next Q:=by
 simp only[A6,ag]at h;cases lD:mbO E o.dst with
 |true=>
  rw[lD]at h;simp only[GD]at h;split at h;rename_i u pl zs ht dJ;split at h;rename_i ls bu;obtain⟨fs,ie,z,h1,h2,h3,h4,h5,h6⟩:=OG hT ht;obtain⟨zH,z',e1,e2,e3,e4,e5⟩:=hZ t zs dJ;rw[h3]at e1;cases e1;rw[h5]at e3;cases e3;obtain⟨q1,q2⟩:=B8B E.U w (bnO E o.dst) zs z.cells.toList 0 g (by simp[e4]) (λi lf u hi hu=>by
   obtain⟨uu,u1,u2,u3,u4,u5⟩:=e5 i lf hi;rw[IA,u1]at hu;cases hu;exact⟨u4 w,u5⟩)
  have BU:=(B14 E.U (bnO E o.dst) zs 0 g).1;have mf:VP E.U w (Lp E.U (bnO E o.dst) 0 g zs) (Lj (bnO E o.dst) 0 zs) z.cells:=⟨by rw[q1,e4],λj lf hj=>by
   have bD:j<zs.length:=by rw[<-q1];exact G7 hj
   obtain⟨uu,u1,u2,u3,u4,u5⟩:=e5 j _ (GE bD);exact⟨uu,u1,u2,u3,q2 j lf uu hj (by rw[IA];exact u1)⟩⟩
  obtain⟨bE,p1,p2⟩:=B1X hU hr (λl v h=>LRep.closed (by rw[BU];exact h.1)) pl ps.toList _ ls z.cells bu mf;have fT:P.built t (ps.map λ(i,x)=>(i,a.eval x)).toList=J bE:=by
   unfold Ab6;rw[h3,h1];dsimp only;rw[h5,h2];dsimp only;rw[Abj];exact p1
  refine K9 (v:=.agg bE) (w':=w) (by simp[Aad,ag,run_build w t _ _ fT]) (hn _ _ _ _ h (REL.setO (B8H hU (bnO E o.dst) zs 0 s g hr) (e:=.st ls) ?_ rfl _ hd));have aw:=p2.size;refine⟨bE.toList,GN,B13 (by simp[aw]) (λj lf u h1 h2=>?_),λu hu=>?_⟩;obtain⟨uu,u1,_,_,u4⟩:=p2.at_ j lf h1;rw[IA,u1]at h2;cases h2;exact u4;obtain⟨j,hj,rfl⟩:=II hu;have bD:j<ls.length:=by simp at hj;omega
  obtain⟨uu,u1,u2,u3,u4⟩:=p2.at_ j _ (GE bD);have h9:bE.toList[j]?=J uu:=by rw[IA];exact u1
  rw[GE hj]at h9;rw[Hb h9];exact⟨u2,u3⟩;cases h;cases h
 |false=>
  rw[lD]at h;simp only[GF]at h;split at h;rename_i u pl ht;split at h;rename_i zs dJ;split at h;rename_i ls bu;split at h;rename_i x hx;obtain⟨fs,ie,z,h1,h2,h3,h4,h5,h6⟩:=OG hT ht;obtain⟨zH,z',e1,e2,e3,e4,e5⟩:=hZ t zs dJ;rw[h3]at e1;cases e1;rw[h5]at e3;cases e3;have mf:VP E.U w g zs z.cells:=⟨e4,λj lf hj=>by
   obtain⟨uu,u1,u2,u3,u4,_⟩:=e5 j lf hj;exact⟨uu,u1,u2,u3,u4 w g⟩⟩
  obtain⟨bE,q1,q2⟩:=B1X hU hr (λl v h=>LRep.closed h.1) pl ps.toList zs ls z.cells bu mf;have aQ:=hU.dec u ls x hx;have cE:=hU.len u x;have fT:P.built t (ps.map λ(i,x)=>(i,a.eval x)).toList=J bE:=by
   unfold Ab6;rw[h3,h1];dsimp only;rw[h5,h2];dsimp only;rw[Abj];exact q1
  have cA:=q2.size;refine E8 (e:=.one (.agg u x)) (v:=.agg bE.toList.toArray) hr hd hn h ⟨.agg u x bE.toList (by rw[KS,cA, <-aQ,cE]) (λj=>(bE[j]?).getD undef) (λj lf hj=>?_) (λj lf hj=>?_),λ_ _ _ he=>by(cases he),λ_ _ he=>by(cases he)⟩ rfl ?_;rw[aQ]at hj;obtain⟨uu,u1,_⟩:=q2.at_ j lf hj;rw[IA,u1];rfl;rw[aQ]at hj;obtain⟨uu,u1,_,_,u4⟩:=q2.at_ j lf hj;rw[u1];exact u4.1;simp[Aad,ag,run_build w t _ _ fT];cases h;cases h;cases h;cases h
include hT in
def B4W{t:Aaa}{x:Aae}{i:Nat}(ag:o.op=.fieldAddr t x i){v:Ty}{pl:List (Nat×Nat)}{o' n:Nat}(ht:E.tb t=.struct v pl)(hp:pl[i]?=J (o',n))(ik:0<n)(b off:Nat)(hv:a.eval x=.pointer (J ⟨b,off,O⟩)):(Aad a.eval o).run P w=.ok (.value (.pointer (J ⟨b,off+o',O⟩))) w:=by
 obtain⟨fs,ie,z,h1,h2,_⟩:=OG hT ht;have hl:=C2a h2;have mg:=(HN.1 hp).1;have hi:fs[i]?=J (fs[i]'(by simpa using (FK:i<fs.toList.length))):=GN;obtain⟨p,wh,hf⟩:=C1g h2 i _ (by rw[IA];exact hi);rw[<-Hb (hp.symm.trans wh)]at hf;cases pV:P.info? (fs[i]'(by simpa using (FK:i<fs.toList.length))).type with
 |none=>rw[pV]at hf;cases hf
 |some BV=>
  rw[pV]at hf;simp only[IJ,GX,He]at hf;have cS:(Abk b off O).add o'=⟨b,off+o',O⟩:=Hw _ _ _;have aw:(Aaq (fs[i]'(by simpa using (FK:i<fs.toList.length))).type).run P w=.ok n w:=by simp[Aaq,Aaj,pV,hf.2]
  simp[Aad,ag,hv,Instr.fieldAt,Aaf h1,hi,Aa0,fieldPlace,aw,hf.1,cS];omega
include hT in
def C6h{t:Aaa}{x:Aae}{i:Nat}(ag:o.op=.fieldAddr t x i)(h:A6 E o s k=J r)(hr:Rel E.U B g s a w)(hd:∀i,o.dst=J i->i<a.tmps.size/\B.np<=i)(hn:G2 E B o a k r next):o.wp P a w next Q:=by
 simp only[A6,ag]at h;split at h;rename_i v pl u y off ht hx;split at h;rename_i o' n hp;obtain⟨ik,h⟩:=A5 h;have ik:0<n:=by simpa [HU]using ik
 have bV:=E4 hr 0 x;rw[hx]at bV;obtain⟨fF,_⟩:=bV;generalize hv:a.eval x=vv at fF;cases fF with
 |elem _ _ _ b o1 cs ba aH anq=>
  refine E8 (e:=.one (.elem u y (off+o'))) (v:=.pointer (J ⟨b,o1+(off+o'),O⟩)) hr hd hn h ⟨.elem u y (off+o') b o1 cs ba aH anq,λ_ _ _ he=>by(cases he),λ_ _ he=>by(cases he)⟩ rfl ?_;rw[<-If];exact B4W hT ag ht hp ik b _ hv
 cases h;rename_i v pl d off ht hx;split at h;rename_i o' n hp;obtain⟨ik,h⟩:=A5 h;rw[Fn,Fn]at ik;obtain⟨ik,bv,sB⟩:=ik;have ik:0<n:=by simpa [HU]using ik
 have bV:=E4 hr 0 x;rw[hx]at bV;obtain⟨b,m,hG,hv⟩:=bV.2.2 d off rfl;have hv:=hv.at bv;refine E8 (e:=.one (.ptr d (off+o'))) (v:=.pointer (J ⟨b,off+o',O⟩)) hr hd hn h ⟨.pt _ _ _,λ_ _ _ he=>by(cases he),λd' o2 he=>by(cases he;exact⟨b,m,hG,.inl ⟨rfl,sB⟩⟩)⟩ rfl (B4W hT ag ht hp ik b _ hv);cases h;cases h
include hT hU in
def C0F{t:Aaa}{n:Nat}{ps:Array (Nat×Aae)}(ag:o.op=.buildSlice t n ps)(h:A6 E o s k=J r)(hr:Rel E.U B g s a w){C:Prop}
  (bQ:∀(u:Ty)(e:Aaa)(xs:List (den u))(c:Array Value),E.tb t=.slice u e->xs.length=n->(Aad a.eval o).run P w=.ok (.value (.slice (J ⟨w.heap.size,0,O⟩) n n)) (w.alloc (.cells c e))->n*E.U.size u<=c.size->
   (∀(j:Nat)(lf:Leaf Ty den),(flat E.U u xs)[j]?=J lf->∃v:Value,c[j]?=J v/\CRep E.U w g.wm lf v)->k (.one (.sl u xs (J (B8 o.dst)))) (s.fresh (B8 o.dst))=J r->C):C:=by
 simp only[A6,ag]at h;split at h;rename_i u e ht;split at h;rename_i u2 pW;split at h;rename_i xs jQ;obtain⟨hc,h'⟩:=A5 h;simp only[Fn]at hc;have iC:=(D5 _ _).1 hc.1;have iQ:n*E.U.size u<65536:=by simpa [HU]using hc.2
 obtain⟨cO,ie,z,bO,aw,_,hz,dJ⟩:=M9 hT ht;obtain⟨h1,h2,h3⟩:=C0q hU hr _ u ps.toList 0 xs jQ;have co:=hU.pos u;have aA:n=ps.toList.length:=FK;have pX:∀v∈(ps.toList.map λp=>a.eval p.2),v.cells.size=E.U.size u:=by
  intro v hv;obtain⟨j,hj,sC⟩:=II hv;have oO:j<xs.length:=by simpa [h1]using hj
  obtain⟨v',dE,anq⟩:=h3 j xs[j] (GE oO);rw[GE hj]at dE;obtain⟨vs,e1,e2,_⟩:=SI anq;rw[<-sC,Hb dE,e1];simpa [Aa7]using e2
 have aH:∀(j:Nat)(lf:Leaf Ty den),(flat E.U u xs)[j]?=J lf->∃v:Value,((ps.toList.map λp=>a.eval p.2).flatMap λv=>v.cells.toList)[j]?=J v/\CRep E.U w g.wm lf v:=by
  intro j lf hj;rw[Great.flat_get co _ pX];have bD:=G7 hj;rw[Ln hU]at bD;have mh:j / E.U.size u<xs.length:=(KG co).2 bD;have wi:=KV j co;have pY:j / E.U.size u*E.U.size u+j % E.U.size u=j:=Ji j (E.U.size u);obtain⟨v,hv,anq⟩:=h3 (j / E.U.size u) _ (GE mh);obtain⟨vs,e1,e2,cs,e3,e4⟩:=SI anq;have dw:(E.U.cells u xs[j / E.U.size u])[j % E.U.size u]?=J lf:=by
   rw[<-flat_get hU u xs (j / E.U.size u) _ (j % E.U.size u) (GE mh) wi,pY];exact hj
  refine⟨cs (j % E.U.size u),?_,e4 _ _ dw⟩;rw[hv,e1];simpa [Aa7]using e3 _ _ dw
 have af:(Abi t n (ps.map λ(j,x)=>(j,a.eval x))).run P w=.ok (.slice (J ⟨w.heap.size,0,O⟩) n n) (w.alloc (.cells ((ps.toList.map λp=>a.eval p.2).flatMap λv=>v.cells.toList).toArray e)):=by
  by_cases h0:n=0;subst h0;have gz:ps= #[]:=by
   apply It;simpa using (Hr aA.symm)
  subst gz;simp[Abi,Aaf cO,Aaq,Aaj,bO,Abh,Aau,Acj];have BW:¬n*ie.size=0:=by
   rw[aw];have:=Nat.mul_pos (Nat.pos_of_ne_zero h0) co;omega
  refine run_buildSlice w t e n _ _ ie z cO bO hz (by rw[aw];omega) BW ?_;rw[Abj,h2,aw];exact Great.fill_whole co _ _ pX (by simp[aA])
 have eK:((ps.toList.map λp=>a.eval p.2).flatMap λv=>v.cells.toList).length=n*E.U.size u:=by
  rw[C2V _ _ _ λv hv=>by simpa using pX v hv,HR,aA]
 exact bQ u e xs ((ps.toList.map λp=>a.eval p.2).flatMap λv=>v.cells.toList).toArray ht iC (by simp[Aad,ag,af]) (by simp only[Ix];omega) (λj lf hj=>by
  obtain⟨v,hv,anq⟩:=aH j lf hj;exact⟨v,by simpa using hv,anq⟩) h'
 cases h;split at h;rename_i ls bu;split at h;rename_i xs jQ;obtain⟨hc,h'⟩:=A5 h;simp only[Fn]at hc;obtain⟨gN,fF,wj⟩:=hc;have iC:=(D5 _ _).1 gN;have fe:=(D5 _ _).1 fF;have iQ:n<65536:=by simpa [HU]using wj
 obtain⟨cO,ie,z,bO,aw,_,hz,dJ⟩:=M9 hT ht;obtain⟨h1,h2,h3⟩:=C1P hr e ps.toList 0 ls bu;obtain⟨h4,h5⟩:=B9t hU u ls xs jQ;have pZ:∀v∈(ps.toList.map λp=>a.eval p.2),v.cells= #[v]:=by
  intro v hv;obtain⟨j,hj,sC⟩:=II hv;have oO:j<ls.length:=by simpa [h1]using hj
  obtain⟨v',dE,anq⟩:=h3 j ls[j] (GE oO);rw[GE hj]at dE;rw[<-sC,Hb dE];exact(anq.one hU (B2M hU (t:=u) (l:=xs) (j:=j) (by rw[h5];exact GE oO))).2
 have aA:n=ps.toList.length:=FK;have af:(Abi t n (ps.map λ(j,x)=>(j,a.eval x))).run P w=.ok (.slice (J ⟨w.heap.size,0,O⟩) n n) (w.alloc (.cells (ps.toList.map λp=>a.eval p.2).toArray e)):=by
  by_cases h0:n=0;subst h0;have gz:ps= #[]:=by
   apply It;simpa using (Hr aA.symm)
  subst gz;simp[Abi,Aaf cO,Aaq,Aaj,bO,Abh,Aau,Acj];refine run_buildSlice w t e n _ _ ie z cO bO hz (by rw[aw,fe];omega) (by rw[aw,fe];omega) ?_;rw[Abj,h2,aw,fe];exact Great.fill_flat _ _ pZ (by simp[aA])
 exact bQ u e xs (ps.toList.map λp=>a.eval p.2).toArray ht iC (by simp[Aad,ag,af]) (by rw[fe];simp[aA]) (λj lf hj=>by
  rw[h5]at hj;obtain⟨v,hv,anq⟩:=h3 j lf hj;exact⟨v,by simpa using hv,anq⟩) h'
 cases h;cases h;cases h
include hT hU in
def C7g{t:Aaa}{n:Nat}{ps:Array (Nat×Aae)}(ag:o.op=.buildSlice t n ps)(h:A6 E o s k=J r)(hr:Rel E.U B g s a w)(hd:∀i,o.dst=J i->i<a.tmps.size/\B.np<=i)(hn:G2 E B o a k r next):o.wp P a w next Q:=
 C0F hT hU ag h hr λu e xs c ht hl af hc aH h'=>K9 af (hn _ _ _ _ h' (by
  subst hl;exact REL.newOwn (o:=o) (hety:=VM hT ht) hU hr hd (B8 o.dst) (cap:=xs.length) (w.alloc (.cells c e)) rfl rfl rfl rfl (GU _) hc rfl aH))
def VQ{n b:Nat}(h:A3 n b=Z):n*b<=140737488355328:=by simpa [A3]using h
include hT hU in
def D6s{t:Aaa}{l c:Aae}(ag:o.op=.makeSlice t l c)(h:A6 E o s k=J r)(hr:Rel E.U B g s a w)(hd:∀i,o.dst=J i->i<a.tmps.size/\B.np<=i)(hn:G2 E B o a k r next):o.wp P a w next Q:=by
 simp only[A6,ag]at h;split at h;rename_i u e kl kc m ht hl il;obtain⟨hc,h'⟩:=A5 h;simp only[Fn,decide_eq_true_eq]at hc;obtain⟨nq,be⟩:=hc;have be:=VQ be;obtain⟨cO,ie,z,bO,aw,mi,hz,dJ⟩:=M9 hT ht;have el:=S4 hr hl;have ec:=S4 hr il;have lE:=hU.bpos u;have bw:m.toNat<=m.toNat*E.U.bytes u:=Ig _ lE;have dM:(ie.bytes:Int)*m<=281474976710656:=by
  have e1:(m.toNat:Int)=m:=FK;have:((ie.bytes*m.toNat:Nat):Int)<=281474976710656:=by rw[mi,Nat.mul_comm];omega
  rw[Int.natCast_mul,e1]at this;exact this
 have af:=run_make w t e ie z cO bO hz kl kc 0 m (Jm _) nq dM FK;simp only[Int.toNat_zero]at af;refine K9 (v:=.slice (J ⟨w.heap.size,0,O⟩) 0 m.toNat) (w':=w.alloc (.cells (Abp z.cells (m.toNat*ie.size)) e)) (by simp[Aad,ag,el,ec,af]) (hn _ _ _ _ h' ?_);exact REL.newOwn (o:=o) (hety:=VM hT ht) hU hr hd (B8 o.dst) (t:=u) (l:=[]) (c:=Abp z.cells (m.toNat*ie.size)) (e:=e) (fz:=(0,0)) (cap:=m.toNat) (w.alloc (.cells (Abp z.cells (m.toNat*ie.size)) e)) rfl rfl rfl rfl
  (HH _) (by rw[size_madeCells,aw];exact GU _) rfl (λj lf hj=>by simp[flat]at hj)
 cases h
include hT hU in
def D66{t:Aaa}{x:Aae}(ag:o.op=.range t x)(h:A6 E o s k=J r)(hr:Rel E.U B g s a w)(hd:∀i,o.dst=J i->i<a.tmps.size/\B.np<=i)(hn:G2 E B o a k r next):o.wp P a w next Q:=by
 simp only[A6,ag]at h;split at h;rename_i b ht hx;have ex:=SG hr hx;have cO:=OF hT ht;have h1:=hr.alloc hU (.stringIter ⟨b.toArray⟩ 0) 0 (w.alloc (.stringIter ⟨b.toArray⟩ 0)) rfl rfl rfl rfl;have af:(Aad a.eval o).run P w=.ok (.value (.pointer (J ⟨w.heap.size,0,O⟩))) (w.alloc (.stringIter ⟨b.toArray⟩ 0)):=by
  simp[Aad,ag,ex,Instr.range,Aaf cO]
 refine K9 af (hn _ _ _ _ h ?_);have bZ:(w.alloc (.stringIter ⟨b.toArray⟩ 0)).heap[w.heap.size]?=J (.stringIter ⟨b.toArray⟩ 0):=heap_alloc_new w _;cases aV:o.dst with
 |none=>exact⟨_,by simpa [St.setO,Abl]using h1⟩
 |some d=>
  have eZ:=(hd d aV).1;have vX:=(hd d aV).2;have aY:=B23 a d;have aE:∀i c p,s.get i=.iter c p->g.ib i<w.heap.size:=by
   intro i c p hc;have h2:=h1.ent i;have h3:=hr.ent i;rw[hc]at h3;obtain⟨b',hv,bC⟩:=h3;have h4:=(hr.iter i c p hc).1;rw[hv]at h4;cases h4;exact(HJ.1 bC).1
  refine⟨{wm:=B9 g.wm w.heap.size 0,G:=g.G,Gs:=g.Gs,ib:=λi=>if i=d then w.heap.size else g.ib i},?_⟩;refine{os:=h1.os,tape:=h1.tape,output:=h1.output,size:=h1.size,frame:=h1.frame,ext:=h1.ext,zero:=h1.zero,ent:=λi=>?_,tip:=h1.tip,disj:=h1.disj,mine:=h1.mine,iter:=λi c pos hc=>?_,idis:=λi j c p c' p' cJ hi hj=>?_,defers:=by rw[B5A];exact h1.defers,bxl:=λi e ls hc=>?_,pin:=λi hi=>by(show(a.put (J d) _).tmps.getD i undef=_;rw[aY i _ eZ,GI FK];exact h1.pin i hi)};simp only[St.setO];rw[F2,aY i _ eZ];by_cases db:d=i;rw[GJ db,GJ db];exact⟨w.heap.size,rfl,bZ⟩;rw[GI db,GI db];exact ERep.same (w:=w.alloc (.stringIter ⟨b.toArray⟩ 0)) (g:={wm:=B9 g.wm w.heap.size 0,G:=g.G,Gs:=g.Gs,ib:=g.ib}) (g':={wm:=B9 g.wm w.heap.size 0,G:=g.G,Gs:=g.Gs,ib:=λi=>if i=d then w.heap.size else g.ib i}) hU ⟨VI rfl,λ_ _ _=>rfl,λ_=>GU _⟩ rfl rfl (h1.ent i) (λ_ _ _ _ _=>rfl) (λ_ _ _ _ _=>rfl);simp only[St.setO]at hc;rw[F2]at hc;rw[aY i _ eZ];by_cases db:d=i;rw[GJ db];simp only[GJ db.symm];exact⟨trivial,hr.size⟩;rw[GI db]at hc ⊢;simp only[GI (IC db)];exact h1.iter i c pos hc;simp only[St.setO]at hi hj;rw[F2]at hi hj;by_cases db:d=i;have lz:¬d=j:=λe=>cJ (db.symm.trans e);rw[GI lz]at hj;simp only[GJ db.symm,GI (IC lz)];have:=aE j _ _ hj;omega
  rw[GI db]at hi;by_cases lz:d=j;simp only[GI (IC db),GJ lz.symm];have:=aE i _ _ hi;omega;rw[GI lz]at hj;simp only[GI (IC db),GI (IC lz)];exact h1.idis i j _ _ _ _ cJ hi hj;simp only[St.setO]at hc;rw[F2]at hc;by_cases db:d=i;rw[GJ db]at hc;cases hc;rw[GI db]at hc;exact h1.bxl i e ls hc
 cases h
def D6Q{x:Nat}(ag:o.op=.next (.tmp x) Z)(h:A6 E o s k=J r)(hr:Rel E.U B g s a w)(hU:E.U.Ok)(hd:∀i,o.dst=J i->i<a.tmps.size/\B.np<=i)(hn:G2 E B o a k r next):o.wp P a w next Q:=by
 simp only[A6,ag]at h;split at h;rename_i b pos hx;have aK:=hr.ent x;rw[hx]at aK;obtain⟨bb,hv,iR⟩:=aK;have zI:=(hr.iter x b pos hx).1;have sD:=(hr.iter x b pos hx).2;rw[hv]at zI;have p8:bb=g.ib x:=by simpa using zI
 have sE:x<a.tmps.size:=by
  rcases Hv x a.tmps.size with h1|h1;exact h1;rw[HE,IQ h1]at hv;cases hv
 cases hc:decide (pos<b.length)with
 |false=>
  rw[hc]at h;simp only[GF]at h;have aE:¬pos<(Aa1 b.toArray).size:=by rw[QO];simpa using hc
  have af:=run_next_end_at (P:=P) w bb ⟨b.toArray⟩ pos o.type iR aE;refine E8 (e:=.tup [.bool V]) hr hd hn h ⟨[.bool V],rfl,LRep.bool _,trivial⟩ rfl ?_;simp[Aad,ag,Aba,hv,af]
 |true=>
  rw[hc]at h;simp only[GD]at h;have aE:pos<(Aa1 b.toArray).size:=by rw[QO];simpa using hc
  have af:=run_next_any_at (P:=P) w bb ⟨b.toArray⟩ pos o.type iR aE;refine K9 (v:=.tuple #[.bool Z,.int .i64 pos,.int .i32 (Aas ⟨b.toArray⟩ pos).1]) (w':=w.iterAt bb ⟨b.toArray⟩ (pos+(Aas ⟨b.toArray⟩ pos).2)) (by simp[Aad,ag,Aba,hv,af]) (hn _ _ _ _ h ?_);have sx:=(HJ.1 iR).1;have cy:∀j,j≠bb->(w.iterAt bb ⟨b.toArray⟩ (pos+(Aas ⟨b.toArray⟩ pos).2)).heap[j]?=w.heap[j]? :=λj hj=>iterAt_other w bb j _ _ hj;have cX:=iterAt_heap w bb ⟨b.toArray⟩ pos (pos+(Aas ⟨b.toArray⟩ pos).2) iR;generalize ff:w.iterAt bb ⟨b.toArray⟩ (pos+(Aas ⟨b.toArray⟩ pos).2)=w' at*;have aw:w'.heap.size=w.heap.size:=by rw[<-ff];exact iterAt_size _ _ _ _
  have aH:∀b' off,w'.cell? ⟨b',off,O⟩=w.cell? ⟨b',off,O⟩:=by
   intro b' off;by_cases bC:b'=bb;subst bC;simp[Aak,cX,iR];exact HK (a:=⟨b',off,O⟩) (cy b' bC)
  have zJ:Ext w g.wm w' g.wm:=⟨C9E (b:=bb) (λc e fz hq=>by rw[iR]at hq;cases hq) cy,λb' off _=>aH b' off,λ_=>GU _⟩;have wk:B.w.heap.size<=bb:=by rw[p8];exact sD
  have h2:Rel E.U B g (s.set x (.iter b (pos+(Aas ⟨b.toArray⟩ pos).2))) a w':=by
   refine{os:=by rw[<-ff];exact hr.os,tape:=by rw[<-ff];exact hr.tape,output:=by rw[<-ff];exact hr.output,size:=by rw[aw];exact hr.size,frame:=λb' bC hM=>?_,ext:=hr.ext.trans zJ,zero:=λb' bC=>hr.zero b' (by rw[aw]at bC;exact bC),ent:=λi=>?_,tip:=λd ek=>?_,disj:=λd e b' h3 h4=>hr.disj d e b' h3 h4,mine:=λd b' h3=>hr.mine d b' h3,iter:=λi c p cT=>?_,idis:=λi j c p c' p' cJ hi hj=>?_,defers:=hr.defers,bxl:=λi e ls cT=>?_,pin:=hr.pin};rw[cy b' FK];exact hr.frame b' bC hM;rw[F2];by_cases kG:x=i;subst kG;rw[GJ rfl];exact⟨bb,hv,cX⟩;rw[GI kG];refine ERep.same hU zJ rfl rfl (hr.ent i) (λc p cT b' bC=>cy b' ?_) (λd' ls cT b' hs=>cy b' λe=>by
    subst e;obtain⟨c1,e1,f1,h5⟩:=SF (hr.tip d' (hr.bxl i d' ls cT).1) hs;rw[iR]at h5;cases h5)
   have h3:=(hr.iter i c p cT).1;rw[bC]at h3;have h4:b'=g.ib i:=by simpa using h3
   rw[h4,p8];exact λe=>hr.idis i x c p b pos (λe'=>kG e'.symm) cT hx e
   obtain⟨a0,len,cap,dE,bw,gD⟩:=hr.tip d ek;refine⟨a0,len,cap,dE,bw,gD.imp id ?_⟩;rintro⟨b',off,c,e,fz,ha,bC,ao⟩;exact⟨b',off,c,e,fz,ha,by rw[cy b' (λe'=>by subst e';rw[iR]at bC;cases bC)];exact bC,ao⟩;rw[F2]at cT;by_cases kG:x=i;subst kG;exact⟨by rw[hv,p8],sD⟩;rw[GI kG]at cT;exact hr.iter i c p cT;rw[F2]at hi hj;by_cases kG:x=i;rw[GI (λe=>cJ (kG.symm.trans e))]at hj;subst kG;exact hr.idis _ j _ _ _ _ cJ hx hj;rw[GI kG]at hi;by_cases zK:x=j;subst zK;exact hr.idis i _ _ _ _ _ cJ hi hx;rw[GI zK]at hj;exact hr.idis i j _ _ _ _ cJ hi hj;rw[F2]at cT;by_cases kG:x=i;rw[GJ kG]at cT;cases cT;rw[GI kG]at cT;exact hr.bxl i e ls cT
  exact REL.setO h2 (e:=.tup [.bool Z,.int .i64 (pos:Int),.int .i32 ((Aas ⟨b.toArray⟩ pos).1:Int)]) ⟨[.bool Z,.int .i64 pos,.int .i32 (Aas ⟨b.toArray⟩ pos).1],rfl,LRep.bool _,LRep.int _ _,LRep.int _ _,trivial⟩ rfl _ hd
 cases h
end
end Go.Aev
end
section
open Go.Lib
namespace Go.Aev
variable {Ty:Type}{den:Ty->Type}
def D1Z(ns:Gp):∀(r:ByteArray),ns.foldl (λr n=>r.push (Abr n.toNat)) r=⟨(r.data.toList++ns.map λn=>Abr n.toNat).toArray⟩:=by
 induction ns with
 |nil=>intro r;cases r;simp
 |cons n ns ih=>
  intro r;rw[Jp,ih];cases r;simp[ByteArray.push]
def C4a(s:ByteArray):∀(bound i:Nat)(a7:Array Value),(∀v∈a7.toList,∃n:Int,v=.int .i32 n)->∀v∈(Aay s bound i a7).toList,∃n:Int,v=.int .i32 n
 |0,i,a7,h=>by simpa [Aay]using h
 |bound+1,i,a7,h=>by
  simp only[Aay];split;exact C4a s bound _ _ (λv hv=>by
   simp at hv;rcases hv with hv|hv;exact h v (by simpa using hv);exact⟨_,hv⟩)
  exact h
def SK(l:Gw):Gp:=l.map λ| .int _ n=>n|_=>0
def D6F(l:Gw)(h:∀v∈l,∃n:Int,v=.int .i32 n):(SK l).map (Aax .i32)=l:=by
 induction l with
 |nil=>rfl
 |cons v l ih=>
  obtain⟨n,rfl⟩:=h v GN;simp only[SK,IN,Ir,true_and];exact ih λu hu=>h u (by simp[hu])
section
variable {E:Env Ty den}{B:Bs}{g:Gh}{s:St Ty den}{a:Act}{w:World}
variable {P:Aag}{R:Type}{o:Oper}{k:Ent Ty den->St Ty den->Option R}{r:R}{next:Act->World->Prop}{Q:Exit->Act->World->Prop}
variable (hT:∀t,M4 P E.U t (E.tb t))(hU:E.U.Ok)
def D4u(hU:E.U.Ok){t:Ty}{l:List (den t)}{own:GA}{v:Value}{wm:Nat->Nat}{f:List (den t)->rg}(hf:E.U.toBytes t=J f)(h:CRep E.U w wm (.sl t l own) v):
  (Acg v).run P w=.ok (.string ⟨(f l).toArray⟩) w:=by
 obtain⟨ns,gR,eK⟩:=hU.toBytes t f hf l;rcases h.sl_cells hU with⟨rfl,a0,cap,rfl⟩|⟨b,off,cap,cs,rfl,aW,ba,hc,fR⟩;have ik:ns=[]:=by
  have:=congrArg Ab9 gR;simp[flat]at this;exact Hr this.symm
 subst ik;simp at eK;rw[eK];cases a0 with
 |none=>simp[Acg];rfl
 |some a0=>
  rw[Aby w a0 0 cap [] (by simp[Aav,Abq])];rfl
 have aA:ns.length=l.length*E.U.size t:=by rw[<-Ln hU,gR];simp
 have aw:=hU.toBytes1 t f hf;rw[aw,JB]at aA;have dk:(Aav ⟨b,off,O⟩ l.length).run P w=.ok (ns.map (Aax .u8)).toArray w:=by
  have:=Abx (P:=P) w ⟨b,off,O⟩ (ns.map (Aax .u8)) (λj v hv=>by
   rw[HG]at hv;cases hn:ns[j]? with
   |none=>rw[hn]at hv;cases hv
   |some n=>
    rw[hn]at hv;simp at hv;subst hv;have sH:(flat E.U t l)[j]?=J (.int .u8 n):=by rw[gR];simp[hn]
    have h1:=hc j _ sH;have h2:=fR j _ sH;rw[h2.int_inv]at h1;rw[Hw];exact h1)
  simpa [aA]using this
 rw[Aby w ⟨b,off,O⟩ l.length cap ns dk,D1Z,eK];simp
def D7o(ns:Gp):∀(r:ByteArray),ns.foldl (λr n=>r++Ab2 n) r=⟨(r.data.toList++Rm ns).toArray⟩:=by
 induction ns with
 |nil=>intro r;cases r;simp[Rm]
 |cons n ns ih=>
  intro r;rw[Jp,ih];simp[Rm,ByteArray.data_append]
def C6i(hU:E.U.Ok){t:Ty}{l:List (den t)}{own:GA}{v:Value}{wm:Nat->Nat}{f:List (den t)->Gp}(hf:E.U.toRunes t=J f)(h:CRep E.U w wm (.sl t l own) v):
  (Acf v).run P w=.ok (.string ⟨(Rm (f l)).toArray⟩) w:=by
 have gR:=hU.toRunes t f hf l;have aw:=hU.toRunes1 t f hf;have aA:(f l).length=l.length:=by
  have:=congrArg Ab9 gR;rw[Ln hU,aw,HR,JB]at this;exact this.symm
 rcases h.sl_cells hU with⟨rfl,a0,cap,rfl⟩|⟨b,off,cap,cs,rfl,aW,ba,hc,fR⟩;have ik:f []=[]:=Hr aA;rw[ik];cases a0 with
 |none=>simp[Acf,Rm];rfl
 |some a0=>
  rw[Abw w a0 0 cap [] (by simp[Aav,Abq])];rfl
 have dk:(Aav ⟨b,off,O⟩ l.length).run P w=.ok ((f l).map (Aax .i32)).toArray w:=by
  have:=Abx (P:=P) w ⟨b,off,O⟩ ((f l).map (Aax .i32)) (λj v hv=>by
   rw[HG]at hv;cases hn:(f l)[j]? with
   |none=>rw[hn]at hv;cases hv
   |some n=>
    rw[hn]at hv;simp at hv;subst hv;have sH:(flat E.U t l)[j]?=J (.int .i32 n):=by rw[gR];simp[hn]
    have h1:=hc j _ sH;have h2:=fR j _ sH;rw[h2.int_inv]at h1;rw[Hw];exact h1)
  simpa [aA]using this
 rw[Abw w ⟨b,off,O⟩ l.length cap (f l) dk];unfold runesBytes;rw[D7o];rfl
def C5Z(P:Aag)(w:World)(c:Array Value)(e:Aaa)(b:Nat)(w1:World)(hw:w1.heap=w.heap.push (.cells c e (0,0)))(hb:b=w.heap.size):
  ∃w2,(Abo ⟨b,0,O⟩).run P w1=.ok () w2/\w2.heap=w.heap.push (.cells c e (c.size,c.size+1))/\w2.os=w1.os/\w2.tape=w1.tape/\w2.output=w1.output:=by
 subst hb;have bZ:w1.heap[w.heap.size]?=J (.cells c e (0,0)):=by rw[hw];simp
 refine⟨w1.freeze ⟨w.heap.size,c.size,O⟩ 1,by simp[Abo,Ab0,bZ],?_,?_,?_,?_⟩;simp only[Aal,Jn,if_false];rw[hw];apply Ik;intro i;rw[IM];by_cases hi:w.heap.size=i;subst hi;simp;simp only[GI hi];rw[Hp,Hp];rw[GI (IC hi),GI (IC hi)];simp[Aal];simp[Aal];simp[Aal]
include hT hU in
def C7n{src dst:Aaa}{x:Aae}(ag:o.op=.convert src dst x)(h:A6 E o s k=J r)(hr:Rel E.U B g s a w)(hd:∀i,o.dst=J i->i<a.tmps.size/\B.np<=i)(hn:G2 E B o a k r next):o.wp P a w next Q:=by
 simp only[A6,ag]at h;split at h;rename_i k1 k0 k2 n hs aV hx;have ex:=S4 hr hx;exact E8 (e:=.one (.int k0 (k0.wrap n))) hr hd hn h (LRep.int _ _) rfl (by simp[Aad,ag,ex,Aa5,Aaf (SH hT hs),Aaf (SH hT aV),Conv.intToInt]);rename_i t e u l own hs aV hx;split at h;rename_i l' f he cW hf;obtain⟨cO,_⟩:=M9 hT hs;have bV:=E4 hr src x;rw[hx]at bV;have anq:=(QK cW bV.1).1;have hb:=D4u (P:=P) hU hf anq;refine E8 (e:=.one (.str (f l'))) hr hd hn h (LRep.str _) rfl ?_;obtain⟨a0,cap,hv⟩:=anq.sl_inv;rw[hv]at hb;simp[Aad,ag,hv,Aa5,Aaf cO,Aaf (OF hT aV),Aaf (SH hT he),hb];rename_i l' f he cW hf;obtain⟨cO,_⟩:=M9 hT hs;have bV:=E4 hr src x;rw[hx]at bV;have anq:=(QK cW bV.1).1;have hb:=C6i (P:=P) hU hf anq;refine E8 (e:=.one (.str (Rm (f l')))) hr hd hn h (LRep.str _) rfl ?_;obtain⟨a0,cap,hv⟩:=anq.sl_inv;rw[hv]at hb;simp[Aad,ag,hv,Aa5,Aaf cO,Aaf (OF hT aV),Aaf (SH hT he),hb];cases h;rename_i t e b hs aV hx;have ex:=SG hr hx;obtain⟨cO,ie,z,bO,aw,_,_,_⟩:=M9 hT aV;split at h;rename_i f he hf;obtain⟨hc,h'⟩:=A5 h;obtain⟨eK,wo⟩:=hU.ofBytes t f hf b;have fe:E.U.size t=1:=hU.ofBytes1 t f hf;obtain⟨w2,hm,wq,nY,jz,rL⟩:=C5Z P w ((b.toArray.map λc=>Aax .u8 (c.toNat:Int))++Aa9 ((Aan b.length 0 e).cut (w.tape w.drawn (.appendCap b.length 0 e)) - b.length) (.int .u8 0)) e w.heap.size
  (w.drew.alloc (.cells ((b.toArray.map λc=>Aax .u8 (c.toNat:Int))++Aa9 ((Aan b.length 0 e).cut (w.tape w.drawn (.appendCap b.length 0 e)) - b.length) (.int .u8 0)) e)) rfl rfl
 have aW:b.length<=(Aan b.length 0 e).cut (w.tape w.drawn (.appendCap b.length 0 e)):=by simp[Ab5]
 refine K9 (v:=.slice (J ⟨w.heap.size,0,O⟩) b.length ((Aan b.length 0 e).cut (w.tape w.drawn (.appendCap b.length 0 e)))) (w':=w2) ?_ (hn _ _ _ _ h' ?_);simp[Aad,ag,ex,Aa5,Aaf (OF hT hs),Aaf cO,Aaf (SH hT he),Conv.stringToBytes,QO,Abs,Aau]at hm ⊢;rw[hm];rfl;have:=REL.newCl (o:=o) hU hr hd (t:=t) (l:=f b) (cap:=(Aan b.length 0 e).cut (w.tape w.drawn (.appendCap b.length 0 e))) w2 wq nY jz rL (by rw[eK];exact aW)
  (λj lf hj=>by
   rw[wo,HG]at hj;cases lG:b[j]? with
   |none=>rw[lG]at hj;cases hj
   |some c=>
    rw[lG]at hj;simp at hj;subst hj;have aE:=G7 lG;refine⟨.int .u8 (c.toNat:Int),?_,.int _ _⟩;rw[Hf (by simpa using aE)];simp[lG])
 rw[eK]at this;exact this;rename_i f he hf;obtain⟨hc,h'⟩:=A5 h;have sJ:=D6F _ (C4a ⟨b.toArray⟩ b.length 0 #[] (λv hv=>by simp at hv));obtain⟨eK,wo⟩:=hU.ofRunes t f hf (SK (Aay ⟨b.toArray⟩ b.length 0 #[]).toList);have fe:E.U.size t=1:=hU.ofRunes1 t f hf;have oQ:(f (SK (Aay ⟨b.toArray⟩ b.length 0 #[]).toList)).length=(Aay ⟨b.toArray⟩ b.length 0 #[]).size:=by rw[eK];simp[SK]
 generalize hX:Aay ⟨b.toArray⟩ b.length 0 #[]=X at*;have aW:X.size<=(Aan X.size 0 e).cut (w.tape w.drawn (.appendCap X.size 0 e)):=by simp[Ab5]
 refine K9 (v:=.slice (J ⟨w.heap.size,0,O⟩) X.size ((Aan X.size 0 e).cut (w.tape w.drawn (.appendCap X.size 0 e))))
  (w':=w.drew.alloc (.cells (X++Aa9 ((Aan X.size 0 e).cut (w.tape w.drawn (.appendCap X.size 0 e)) - X.size) (.int .i32 0)) e)) ?_ (hn _ _ _ _ h' ?_)
 simp[Aad,ag,ex,Aa5,Aaf (OF hT hs),Aaf cO,Aaf (SH hT he),Conv.stringToRunes,QO,hX,Abs,Aau];have:=REL.newOwn (o:=o) (hety:=VM hT aV) hU hr hd (B8 o.dst) (t:=t) (l:=f (SK X.toList)) (c:=X++Aa9 ((Aan X.size 0 e).cut (w.tape w.drawn (.appendCap X.size 0 e)) - X.size) (.int .i32 0)) (e:=e) (fz:=(0,0)) (cap:=(Aan X.size 0 e).cut (w.tape w.drawn (.appendCap X.size 0 e)))
  (w.drew.alloc (.cells (X++Aa9 ((Aan X.size 0 e).cut (w.tape w.drawn (.appendCap X.size 0 e)) - X.size) (.int .i32 0)) e)) rfl rfl rfl rfl (by rw[oQ];exact aW)
  (by rw[fe];simp;omega) rfl (λj lf hj=>by
   rw[wo,HG]at hj;cases lG:(SK X.toList)[j]? with
   |none=>rw[lG]at hj;cases hj
   |some c=>
    rw[lG]at hj;simp at hj;subst hj;refine⟨.int .i32 c,?_,.int _ _⟩;have h1:X.toList[j]?=J (.int .i32 c):=by rw[<-sJ];simp[lG]
    have aE:=G7 h1;rw[Hf (by simpa using aE)];simpa using h1)
 rw[oQ]at this;exact this;cases h;rename_i t e u1 e1 u l d hs aV hx;split at h;rename_i l' cW he;obtain⟨hc,h'⟩:=A5 h;simp only[Fn,HU]at hc;obtain⟨wr,aD,dq⟩:=hc;have wr:=(D5 _ _).1 wr;subst wr;obtain⟨cO,_⟩:=M9 hT hs;have bV:=E4 hr src x;rw[hx]at bV;obtain⟨anq,nr⟩:=QK cW bV.1;have mj:=(bV.2.1 u l d rfl).1;obtain⟨a0,len,cap,fb,bw,gD⟩:=hr.tip d aD;have hv:=mj.trans fb;have aA:len=l'.length:=by
  obtain⟨a1,c1,h1⟩:=anq.sl_inv;rw[h1]at hv;simp at hv;omega
 obtain⟨b,off,c,e2,fz,rfl,hb,_⟩:=gD.resolve_left FK;have bc:spare (g.G d)=J b:=by rw[fb];simp only[spare];rw[GI FK]
 obtain⟨jy,bC⟩:∃jy,(w.freeze ⟨b,c.size,O⟩ 1).heap[b]?=J (.cells c e2 jy):=by
  simp only[Aal,Jn,if_false,IM,if_true,hb];exact⟨_,rfl⟩
 have cy:∀k,k≠b->(w.freeze ⟨b,c.size,O⟩ 1).heap[k]?=w.heap[k]? :=λk hk=>by
  simp only[Aal,Jn,if_false,IM];rw[GI (λh=>hk h.symm)]
 have dC:Ext w g.wm (w.freeze ⟨b,c.size,O⟩ 1) g.wm:=⟨λk c1 e3 f1 h1=>by
  by_cases hk:k=b;subst hk;rw[hb]at h1;cases h1;exact⟨_,_,bC⟩;exact⟨c1,f1,by rw[cy k hk];exact h1⟩,λk qg _=>by
  by_cases hk:k=b;subst hk;simp only[Aak,bC,hb];exact HK (a:=⟨k,qg,O⟩) (cy k hk),λ_=>GU _⟩
 have h1:=(hr.kill hU d).world hU (w':=w.freeze ⟨b,c.size,O⟩ 1) (wm':=g.wm) (by simp[Aal]) (by simp[Aal]) (by simp[Aal]) (by simp[Aal]) dC (λb'=>b'=b) (λb' bC=>by cases bC;exact⟨c,e2,fz,hb⟩)
  (λe1 b' kE fe=>.inl λbC=>by
   cases bC;have iB:=(K7 d e1 s.live).1 kE;exact hr.disj d e1 b aD iB.1 (IC iB.2) bc fe)
  (λb' bC=>by cases bC;exact hr.mine d b aD bc) (λb' _ aP=>⟨cy b' aP,rfl⟩) (λb' bC=>hr.zero b' (by simpa [Aal]using bC))
 refine K9 (v:=a.eval x) (w':=w.freeze ⟨b,c.size,O⟩ 1) ?_ (hn _ _ _ _ h' (REL.setO h1 (e:=.one (.sl t l' O)) ⟨(anq.own O).mono hU dC,λ_ _ _ he=>by(cases he),λ_ _ he=>by(cases he)⟩ rfl _ hd));simp[Aad,ag,hv,Aa5,Aaf cO,Aaf (SH hT he),Abo,Ab0,hb];cases h;cases h
end
end Go.Aev
end
section
open Go.Lib
namespace Go.Aev
variable {Ty:Type}{den:Ty->Type}
section
variable {E:Env Ty den}{B:Bs}{g:Gh}{s:St Ty den}{a:Act}{w:World}
variable {P:Aag}{R:Type}{o:Oper}{k:Ent Ty den->St Ty den->Option R}{r:R}{next:Act->World->Prop}{Q:Exit->Act->World->Prop}
variable (hT:∀t,M4 P E.U t (E.tb t))(hU:E.U.Ok)
structure Src(P:Aag)(U:UO Ty den)(t:Ty)(w:World)(wm:Nat->Nat)(y:Value)(m:List (den t))(aR:Gw):Prop where
 len:(Aa2 y).run P w=.ok m.length w
 first:∀w':World,w'.heap=w.heap->(Aat (U.size t) m.length y).run P w'=.ok aR.toArray w'
 nlen:aR.length=m.length*U.size t
 rep:∀(j:Nat)(lf:Leaf Ty den),(flat U t m)[j]?=J lf->∃v,aR[j]?=J v/\CRep U w wm lf v
 one:∀v∈aR,v.oneCell'=Z
def C2I(hU:E.U.Ok){t:Ty}{l:List (den t)}{b off:Nat}{wm:Nat->Nat}{cs:Nat->Value}(hc:∀j lf,(flat E.U t l)[j]?=J lf->w.cell? ⟨b,off+j,O⟩=J (cs j))
  (fR:∀j lf,(flat E.U t l)[j]?=J lf->CRep E.U w wm lf (cs j))(a0:Addr)(ha:a0=⟨b,off,O⟩)(n c:Nat)(hn:n=l.length):
  (∀w':World,w'.heap=w.heap->(Aat (E.U.size t) n (.slice (J a0) n c)).run P w'=.ok ((Aao (l.length*E.U.size t)).map cs).toArray w')/\
  (∀(j:Nat)(lf:Leaf Ty den),(flat E.U t l)[j]?=J lf->∃v,((Aao (l.length*E.U.size t)).map cs)[j]?=J v/\CRep E.U w wm lf v)/\
  (∀v∈(Aao (l.length*E.U.size t)).map cs,v.oneCell'=Z):=by
 subst ha hn;have eK:=Ln hU t l;have aY:∀j,j<l.length*E.U.size t->∃lf,(flat E.U t l)[j]?=J lf:=λj hj=>⟨_,GE FK⟩;refine⟨λw' ff=>?_,λj lf hj=>?_,λv hv=>?_⟩
 refine run_firstCells_some w' (E.U.size t) l.length ⟨b,off,O⟩ l.length c _ GN (λj v hv=>?_);rw[HG]at hv;have bD:j<l.length*E.U.size t:=by
  rcases Hv j (l.length*E.U.size t)with h|h;exact h;rw[IF (by simpa using h)]at hv;cases hv
 rw[Ho bD]at hv;simp at hv;subst hv;obtain⟨lf,dw⟩:=aY j bD;rw[Hw];have:=hc j lf dw;rw[<-this];exact HK (a:=⟨b,off+j,O⟩) (by rw[ff]);have bD:=G7 hj;exact⟨cs j,by rw[HG,Ho FK];rfl,fR j lf hj⟩;obtain⟨j,hj,rfl⟩:=Ii.1 hv;have bD:j<l.length*E.U.size t:=by simpa using hj
 obtain⟨lf,dw⟩:=aY j bD;exact((fR j lf dw).one hU (B2M hU dw)).1
def B37(hU:E.U.Ok){t:Ty}{l:List (den t)}{own:GA}{v:Value}{wm:Nat->Nat}(h:CRep E.U w wm (.sl t l own) v):∃aR,Src P E.U t w wm v l aR:=by
 rcases h.sl_cells hU with⟨rfl,a0,cap,rfl⟩|⟨b,off,cap,cs,rfl,aW,ba,hc,fR⟩;refine⟨[],by simp[Aa2],λw' _=>?_,GN,λj lf hj=>by simp[flat]at hj,λv hv=>by simp at hv⟩;cases a0<;>simp[Aat,Aav,Abq];obtain⟨h1,h2,h3⟩:=C2I (P:=P) (w:=w) hU hc fR ⟨b,off,O⟩ rfl l.length cap rfl;exact⟨_,by simp[Aa2],h1,GN,h2,h3⟩
def D5K(hU:E.U.Ok){t:Ty}{b:rg}{f:rg->List (den t)}{wm:Nat->Nat}(hf:E.U.ofBytes t=J f):∃aR,Src P E.U t w wm (.string ⟨b.toArray⟩) (f b) aR:=by
 obtain⟨h1,h2⟩:=hU.ofBytes t f hf b;have hs:=hU.ofBytes1 t f hf;refine⟨b.map λc=>Aax .u8 (c.toNat:Int),by simp[Aa2,QO,h1],λw' _=>?_,by simp[h1,hs],λj lf hj=>?_,λv hv=>?_⟩;simp only[Aat,Sem.run_pure];congr 1;rw[h1];have:(Aa1 b.toArray).extract 0 b.length=⟨b.toArray⟩:=by rw[KO];simp
 rw[this];simp[List.map_toArray];rw[h2,HG]at hj;cases lG:b[j]? with
 |none=>rw[lG]at hj;cases hj
 |some c=>
  rw[lG]at hj;simp at hj;subst hj;exact⟨.int .u8 (c.toNat:Int),by simp[lG],.int _ _⟩
 obtain⟨c,_,rfl⟩:=Ii.1 hv;rfl
structure Wr(w2 w3:World)(b q:Nat)(aR:Gw):Prop where
 blk:∀c e fz,w2.heap[b]?=J (.cells c e fz)->∃c':Array Value,w3.heap[b]?=J (.cells c' e fz)/\c'.size=c.size/\(∀j,j<q\/q+aR.length<=j->c'[j]?=c[j]?)/\∀(j:Nat)(v:Value),aR[j]?=J v->c'[q+j]?=J v
 oth:∀k,k≠b->w3.heap[k]?=w2.heap[k]?
 size:w3.heap.size=w2.heap.size
 os:w3.os=w2.os
 tape:w3.tape=w2.tape
 output:w3.output=w2.output
def C4P(hU:E.U.Ok){t u ty e:Aaa}{t':Ty}(ht:P.underlying t=J (.slice e))(hu:YA P u){i:Abe}{z:Value}(hi:P.info? e=J i)(aw:i.size=E.U.size t')(mi:i.bytes=E.U.bytes t')(hz:i.zero=J z)(dJ:z.cells.size=E.U.size t')
  (hr:Rel E.U B g s a w)(hd:∀i,o.dst=J i->i<a.tmps.size/\B.np<=i){d:Nat}(eZ:mem d s.live=Z)(hety:∀e',E.U.ety t'=J e'->e'=e){l m m0:List (den t')}{v y:Value}{eo:Gw}(hv:LRep E.U w g (.sl t' l (J d)) v)(hy:Src P E.U t' w g.wm y m0 eo)
  (vw:m0.length=m.length)(hm:0<m.length)(be:(l.length+m.length)*E.U.bytes t'<=140737488355328):
  ∃v' w2 b off cap c2 e2 fz,(Aaz #[t,u] ty #[v,y]).run P w=.ok v' w2/\v'=.slice (J ⟨b,off,O⟩) (l.length+m.length) cap/\cap≠0/\w2.heap[b]?=J (.cells c2 e2 fz)/\off+cap*E.U.size t'<=c2.size/\l.length+m.length<=cap/\fz.2<=off+l.length*E.U.size t'/\
   (∀(j:Nat)(v:Value),eo[j]?=J v->c2[off+l.length*E.U.size t'+j]?=J v)/\
   ∀(aR:Gw)(w3:World),aR.length=m.length*E.U.size t'->(∀(j:Nat)(lf:Leaf Ty den),(flat E.U t' m)[j]?=J lf->∃v,aR[j]?=J v/\CRep E.U w g.wm lf v)->Wr w2 w3 b (off+l.length*E.U.size t') aR->
    REL E.U B ((s.fresh d).setO o.dst (.one (.sl t' (l++m) (J d)))) (a.put o.dst v') w3:=by
 obtain⟨mj,sK,nZ⟩:=hv.2.1 t' l d rfl;have lE:=hU.bpos t';have jA:l.length+m.length<=140737488355328:=HT (Ig _ lE) be;obtain⟨a0,len,cap,fb,bw,cU⟩:=hr.tip d eZ;rw[<-mj]at fb;have aA:len=l.length:=by
  obtain⟨a1,c1,h1⟩:=hv.1.sl_inv;rw[h1]at fb;simp at fb;omega
 subst aA;have n0:eo.length=m.length*E.U.size t':=by rw[hy.nlen,vw]
 obtain⟨dv,cq⟩:=B37 (P:=P) hU hv.1;have sL:∀w':World,w'.heap=w.heap->(Aat i.size l.length (.slice a0 l.length cap)).run P w'=.ok dv.toArray w':=λw' ff=>by
  rw[aw, <-fb];exact cq.first w' ff
 have gV:∀w':World,w'.heap=w.heap->(Aat i.size m.length y).run P w'=.ok eo.toArray w':=λw' ff=>by
  rw[aw, <-vw];exact hy.first w' ff
 have oR:(Aa2 y).run P w=.ok m.length w:=by rw[<-vw];exact hy.len
 have im:∀(aR:Gw),(∀(j:Nat)(lf:Leaf Ty den),(flat E.U t' m)[j]?=J lf->∃v,aR[j]?=J v/\CRep E.U w g.wm lf v)->∀(j:Nat)(lf:Leaf Ty den),(flat E.U t' (l++m))[j]?=J lf->∃v,(dv++aR)[j]?=J v/\CRep E.U w g.wm lf v:=λaR hn j lf hj=>by
  rw[B9d]at hj;have eK:=Ln hU t' l;by_cases bD:j<l.length*E.U.size t';rw[HV FK]at hj;obtain⟨v,fU,gm⟩:=cq.rep j lf hj;exact⟨v,by rw[HV (by rw[cq.nlen];exact bD)];exact fU,gm⟩;rw[Hk FK,eK]at hj;obtain⟨v,fU,gm⟩:=hn _ lf hj;exact⟨v,by rw[Hk (by rw[cq.nlen];omega),cq.nlen];exact fU,gm⟩
 by_cases iS:cap<l.length+m.length
 
 have af:=B0N (P:=P) w t u ty e i z ht hu hi hz a0 l.length cap dv sL y m.length eo oR gV iS FK (by rw[mi];exact be);rw[<-fb]at af;have aW:l.length+m.length<=Aaw w (l.length+m.length) cap e:=grownCap_ge _ _ _ _;obtain⟨C,hC⟩:∃C,C=dv.toArray++eo.toArray++Ach z.cells (Aaw w (l.length+m.length) cap e - (l.length+m.length)):=⟨_,rfl⟩;rw[<-hC]at af;have cN:C.size=Aaw w (l.length+m.length) cap e*E.U.size t':=by
  rw[hC];simp only[JN,Ix,size_zeroCells,dJ,cq.nlen,n0, <-Hz];congr 1;omega
 have hb:(w.drew.alloc (.cells C e)).heap[w.heap.size]?=J (.cells C e (0,0)):=by show(w.heap.push _)[w.heap.size]?=_;simp
 have dL:(l.length+m.length)*E.U.size t'<=Aaw w (l.length+m.length) cap e*E.U.size t':=Hq _ aW;rw[Hz]at dL;refine⟨_,_,w.heap.size,0,_,C,e,(0,0),af,rfl,FK,hb,by rw[cN];omega,aW,HH _,λj v hj=>?_,λaR w3 iC iQ W=>?_⟩;have aE:=G7 hj;have h1:=cq.nlen;rw[hC,Hf GQ,Jr GQ];simpa [h1]using hj;obtain⟨c',q1,q2,q3,q4⟩:=W.blk _ _ _ hb;have hh:w3.heap=w.heap.push (.cells c' e (0,0)):=by
  apply Ik;intro k;by_cases hk:k=w.heap.size;subst hk;rw[q1];simp;rw[W.oth k hk];show(w.heap.push _)[k]?=_;rw[Hp,Hp,GI hk,GI hk]
 have:=REL.newOwn (o:=o) (hety:=hety) hU hr hd d (t:=t') (l:=l++m) (c:=c') (e:=e) (fz:=(0,0)) (cap:=Aaw w (l.length+m.length) cap e) w3 hh W.os W.tape W.output (by simpa using aW) (by rw[q2,cN];exact GU _) rfl (λj lf hj=>by
  obtain⟨v,fU,gm⟩:=im aR iQ j lf hj;have aE:=G7 fU;refine⟨v,?_,gm⟩;by_cases bD:j<l.length*E.U.size t';rw[q3 j (.inl FK),hC,Hf (by simp[cq.nlen];omega),Hf (by simp[cq.nlen];omega)];rw[HV (by rw[cq.nlen];exact bD)]at fU;simpa using fU;rw[Hk (by rw[cq.nlen];omega),cq.nlen]at fU;have:=q4 _ v fU;rw[<-this];congr 1;omega)
 simp only[Fd]at this;exact this
 
 have fg:l.length+m.length<=cap:=FK;have ej:cap≠0:=FK;obtain⟨b,off,c,e',fz,ha,hb,cN,ba,oL⟩:=cU.resolve_left ej;subst ha;rw[<-sK]at cN ba;have bc:spare (g.G d)=J b:=by rw[<-mj,fb];simp[spare,ej]
 have dL:(l.length+m.length)*E.U.size t'<=cap*E.U.size t':=Hq _ fg;rw[Hz]at dL;have dg:=Px P b e' fz eo (off+l.length*E.U.size t') w c hb (by rw[n0];omega) (λj h1 h2=>FK) hy.one;obtain⟨s1,⟨c2,s2,s3,s4,s5⟩,s6,s7,s8,s9,jR⟩:=dg;have af:=YB (P:=P) w t u ty e i ht hu hi (J ⟨b,off,O⟩) l.length cap y m.length eo oR (gV w rfl) (C7 w b (off+l.length*E.U.size t') eo)
  (λa1 jm=>by
   have:a1=⟨b,off,O⟩:=(Hb jm).symm;subst this;rw[Hw,aw];exact s1 _ 0 GN (HH _)) (λh0=>by cases h0) fg
 rw[<-fb]at af;refine⟨_,_,b,off,cap,c2,e',fz,af,rfl,ej,s2,FK,fg,FK,s5,λaR w' iC iQ W=>?_⟩;obtain⟨c',q1,q2,q3,q4⟩:=W.blk _ _ _ s2;have cy:∀k,k≠b->w'.heap[k]?=w.heap[k]? :=λk hk=>(W.oth k hk).trans (s7 k hk);have eG:∀j,j<off+l.length*E.U.size t'->c'[j]?=c[j]? :=λj hj=>(q3 j (.inl hj)).trans (s4 j (.inl hj));have aH:∀b' o',o'<g.wm b'->w'.cell? ⟨b',o',O⟩=w.cell? ⟨b',o',O⟩:=λb' o' iT=>by
  by_cases iR:b'=b;subst iR;simp only[Aak,q1,hb];simp only[KT,Ij,if_false];exact eG o' (by rw[ba]at iT;exact iT);exact HK (a:=⟨b',o',O⟩) (cy b' iR)
 have hx:Ext w g.wm w' (B9 g.wm b (off+(l.length+m.length)*E.U.size t')):=by
  refine⟨VJ hb q1 cy,aH,λb'=>?_⟩;unfold B9;by_cases iR:b'=b;subst iR;rw[GJ rfl,ba];rw[Hz];omega;rw[GI iR];exact GU _
 have fS:B9 g.wm b (off+(l.length+m.length)*E.U.size t') b=off+(l.length+m.length)*E.U.size t':=by simp[B9]
 have ml:=hr.redo hU eZ bc hb q1 cy (W.size.trans s6) (W.os.trans s8) (W.tape.trans s9) (W.output.trans jR) hx (λk hk=>by simp only[B9];rw[GI hk]) (.slice (J ⟨b,off,O⟩) (l.length+m.length) cap) (E.U.size t')
  ⟨_,_,_,rfl,fg,.inr ⟨b,off,c',e',fz,rfl,q1,by rw[q2,s3];exact cN,fS,by show fz.2<=B9 g.wm b (off+(l.length+m.length)*E.U.size t') b;rw[fS,Hz];omega⟩⟩
  (λk hk=>by
   simp only[spare]at hk;split at hk;cases hk;exact(Hb hk).symm)
 refine REL.setO ml (e:=.one (.sl t' (l++m) (J d))) ⟨?_,λt1 l1 d1 he=>?_,λ_ _ he=>by(cases he)⟩ rfl o.dst hd;have:=CRep.sl (U:=E.U) (w:=w') (wm:=B9 g.wm b (off+(l.length+m.length)*E.U.size t')) t' (l++m) (J d) b off cap (λj=>(dv++aR).getD j undef) (by simpa using fg) (by rw[fS];simp)
  (λj lf hj=>by
   obtain⟨v1,fU,gm⟩:=im aR iQ j lf hj;have aE:=G7 fU;have bW:(dv++aR).getD j undef=v1:=by simp[Abf,fU]
   rw[bW];by_cases bD:j<l.length*E.U.size t';rw[hx.cell b (off+j) (by rw[ba];omega)];rw[HV (by rw[cq.nlen];exact bD)]at fU;rcases hv.1.sl_cells hU with⟨bJ,_⟩|⟨b2,qg,sM,sP,rM,_,_,fF,gp⟩;rw[bJ]at bD;simp at bD;have cX:=fb.symm.trans rM;simp only[JI,GX,Jd]at cX;obtain⟨⟨rfl,rfl,_⟩,_,rfl⟩:=cX;rw[B9d,HV (by rw[Ln hU];exact bD)]at hj;have h5:=fF j lf hj;have h6:=cq.first w rfl;rw[fb]at h6;obtain⟨k1,k2,_⟩:=C2I (P:=P) (w:=w) hU fF gp ⟨b,off,O⟩ rfl l.length cap rfl;have h7:=k1 w rfl;rw[h7]at h6;have h8:((Aao (l.length*E.U.size t')).map sP)=dv:=by
    have:=congrArg (λr=>match r with|Result.ok (x:Array Value) _=>x.toList|_=>[]) h6;simpa using this
   rw[<-h8,HG,Ho bD]at fU;simp at fU;rw[h5,fU];rw[Hk (by rw[cq.nlen];omega),cq.nlen]at fU;have h3:=q4 _ v1 fU;simp only[Aak,q1];simp only[KT,Ij,if_false];rw[<-h3];congr 1;omega)
  (λj lf hj=>by
   obtain⟨v1,fU,gm⟩:=im aR iQ j lf hj;have bW:(dv++aR).getD j undef=v1:=by simp[Abf,fU]
   rw[bW];exact gm.mono hU hx)
 have sQ:CRep E.U w' (B9 g.wm b (off+(l.length+m.length)*E.U.size t')) (.sl t' (l++m) (J d)) (.slice (J ⟨b,off,O⟩) (l.length+m.length) cap):=by simpa using this
 exact sQ;simp only[Leaf.sl.injEq,GX]at he;obtain⟨rfl,_,rfl⟩:=he;refine⟨by simp[Gh.put],by simp[Gh.put],?_⟩;rw[fb]at nZ;exact(nZ.ext hx).len
def C14(hU:E.U.Ok){t u ty e:Aaa}{t':Ty}(ht:P.underlying t=J (.slice e))(hu:YA P u){i:Abe}{z:Value}(hi:P.info? e=J i)(aw:i.size=E.U.size t')(mi:i.bytes=E.U.bytes t')(hz:i.zero=J z)(dJ:z.cells.size=E.U.size t')
  (hr:Rel E.U B g s a w)(hd:∀i,o.dst=J i->i<a.tmps.size/\B.np<=i){d:Nat}(eZ:mem d s.live=Z)(hety:∀e',E.U.ety t'=J e'->e'=e){l m:List (den t')}{v y:Value}{aR:Gw}(hv:LRep E.U w g (.sl t' l (J d)) v)(hy:Src P E.U t' w g.wm y m aR)
  (be:(l.length+m.length)*E.U.bytes t'<=140737488355328):
  ∃v' w',(Aaz #[t,u] ty #[v,y]).run P w=.ok v' w'/\REL E.U B ((s.fresh d).setO o.dst (.one (.sl t' (l++m) (J d)))) (a.put o.dst v') w':=by
 by_cases hm:0<m.length;obtain⟨v',w2,b,off,cap,c2,e2,fz,h1,_,_,h3,h4,h5,_,h7,h8⟩:=C4P (o:=o) (ty:=ty) hU ht hu hi aw mi hz dJ hr hd eZ hety hv hy rfl hm be;exact⟨v',w2,h1,h8 aR w2 hy.nlen hy.rep ⟨λc e fz hb=>⟨c,hb,rfl,λ_ _=>rfl,λj v hj=>by rw[hb]at h3;cases h3;exact h7 j v hj⟩,λ_ _=>rfl,rfl,rfl,rfl,rfl⟩⟩
 
 obtain⟨mj,sK,nZ⟩:=hv.2.1 t' l d rfl;have nq:m=[]:=Hr FK;subst nq;have qh:aR=[]:=Hr (by simpa using hy.nlen);subst qh;obtain⟨a0,len,cap,fb,bw,cU⟩:=hr.tip d eZ;rw[<-mj]at fb;have aA:len=l.length:=by
  obtain⟨a1,c1,h1⟩:=hv.1.sl_inv;rw[h1]at fb;simp at fb;omega
 subst aA;have af:=YB (P:=P) w t u ty e i ht hu hi a0 l.length cap y 0 [] (by simpa using hy.len) (by simpa [aw]using hy.first w rfl) w (λa1 _=>by simp[Abb]) (λ_=>rfl) (by simpa using bw);rw[<-fb]at af;simp only[Iv]at af;rw[<-fb]at af;refine⟨v,w,af,?_⟩;have h2:=hr.fresh hU d v (E.U.size t') (by have:=hr.tip d eZ;rw[<-mj, <-sK]at this;exact this) (λe' b he aP hs=>by
  rw[mj]at hs;exact hr.disj d e' b eZ he (IC aP) hs) (λb hs=>by rw[mj]at hs;exact hr.mine d b eZ hs)
 refine REL.setO h2 (e:=.one (.sl t' (l++[]) (J d))) ?_ rfl o.dst hd;rw[GY];refine⟨hv.1,λt1 l1 d1 he=>?_,λ_ _ he=>by(cases he)⟩;simp only[Leaf.sl.injEq,GX]at he;obtain⟨rfl,_,rfl⟩:=he;exact⟨by simp[Gh.put],by simp[Gh.put],nZ⟩
end
end Go.Aev
end
section
open Go.Lib
namespace Go.Aev
variable {Ty:Type}{den:Ty->Type}
section
variable {E:Env Ty den}{B:Bs}{g:Gh}{s:St Ty den}{a:Act}{w:World}
variable {P:Aag}{R:Type}{o:Oper}{k:Ent Ty den->St Ty den->Option R}{r:R}{next:Act->World->Prop}{Q:Exit->Act->World->Prop}
variable (hT:∀t,M4 P E.U t (E.tb t))(hU:E.U.Ok)
def W8{α:Type}{A:Array α}{l:List α}(h:A.toList=l):A=l.toArray:=by rw[<-h]
include hT hU in
def C7t{c:Call}{t u:Aaa}{x y:Aae}(ag:o.op=.call c)(az:c.callee=.builtin .append)(er:c.argTypes= #[t,u])(aC:c.args= #[x,y])(h:B7L E t u x y o.dst s k=J r)
  (hr:Rel E.U B g s a w)(hd:∀i,o.dst=J i->i<a.tmps.size/\B.np<=i)(hn:G2 E B o a k r next):o.wp P a w next Q:=by
 have af:∀{v':Value}{w':World},(Aaz #[t,u] o.type #[a.eval x,a.eval y]).run P w=.ok v' w'->(Aad a.eval o).run P w=.ok (.value v') w':=λh1=>by
  simp[Aad,ag,Aa3,az,er,aC,Aa4,Aa6,h1]
 unfold B7L at h;split at h;rename_i t' e t0 l0 d s1 ht hx;obtain⟨cO,i,z,hi,aw,mi,hz,dJ⟩:=M9 hT ht;split at h;rename_i l cW;obtain⟨eZ,h'⟩:=A5 h;obtain⟨g1,dG,hv,ws⟩:∃g1,Rel E.U B g1 s1 a w/\LRep E.U w g1 (.sl t' l (J d)) (a.eval x)/\g1.wm=g.wm:=by
  cases bJ:X3 x||B1F (opl E s t x)with
  |true=>
   rw[bJ,ht]at hx;simp only[GD,He,Leaf.sl.injEq,GX]at hx;obtain⟨⟨h1,h2,h3⟩,h4⟩:=hx;subst h1;have eH:=eq_of_heq h2;subst eH h3 h4;obtain⟨e0,nu⟩:=YD cW;have:l=[]:=by rw[<-nu]
   subst this;have qj:a.eval x=.slice O 0 0:=by
    rw[Hx]at bJ;rcases bJ with bJ|bJ;unfold X3 at bJ;split at bJ;rfl;cases bJ;have bV:=(E4 hr t x).1;cases hl:opl E s t x with
    |nils=>
     rw[hl]at bV;generalize a.eval x=v at bV;cases bV;rfl
    |_=>rw[hl]at bJ;cases bJ
   refine⟨g.put (B8 o.dst) (.slice O 0 0) (E.U.size t'),hr.fresh hU _ _ _ ⟨_,_,_,rfl,GU _,.inl rfl⟩ (λ_ _ _ _ hs=>by simp[spare]at hs) (λ_ hs=>by simp[spare]at hs),?_⟩;rw[qj];refine⟨⟨.nil _ _ _ _,λt1 l1 d1 he=>?_,λ_ _ he=>by(cases he)⟩,rfl⟩;simp only[Leaf.sl.injEq,GX]at he;obtain⟨rfl,_,rfl⟩:=he;exact⟨by simp[Gh.put],by simp[Gh.put],TyB.nil⟩
  |false=>
   rw[bJ]at hx;simp only[GF,He]at hx;obtain⟨h1,rfl⟩:=hx;have bV:=E4 hr t x;rw[h1]at bV;obtain⟨e0,nu⟩:=YD cW;subst e0;subst nu;exact⟨g,hr,bV,rfl⟩
 have oT:∀{lf:Leaf Ty den},opl E s u y=lf->CRep E.U w g1.wm lf (a.eval y):=by
  intro lf he;have h1:=(E4 hr u y).1;rw[he]at h1;rw[ws];exact h1
 split at h';rename_i v0 e0 v m0 own hu hy;split at h';rename_i m hm;obtain⟨be,wu⟩:=A5 h';have anq:=(QK hm (oT hy)).1;obtain⟨aR,eg⟩:=B37 (P:=P) hU anq;obtain⟨v',w',kH,ci⟩:=C14 (ty:=o.type) hU cO (.inl ⟨_,(M9 hT hu).1⟩) hi aw mi hz dJ dG hd eZ (VM hT ht) hv eg (VQ be);exact K9 (af kH) (hn _ _ _ _ wu ci);cases h';rename_i b hu hy;split at h';rename_i f hf;obtain⟨be,wu⟩:=A5 h';have ey:=(oT hy).str_inv;obtain⟨aR,eg⟩:=D5K (P:=P) (w:=w) (b:=b) (wm:=g1.wm) hU hf;have eK:=(hU.ofBytes _ f hf b).1;rw[<-ey]at eg;obtain⟨v',w',kH,ci⟩:=C14 (ty:=o.type) hU cO (.inr (OF hT hu)) hi aw mi hz dJ dG hd eZ (VM hT ht) hv eg (by rw[eK];exact VQ be);exact K9 (af kH) (hn _ _ _ _ wu ci);cases h';cases h';cases h;cases h
include hT hU in
def C7K{c:Call}{b:Builtin}(ag:o.op=.call c)(az:c.callee=.builtin b)(h:Mf E b c.argTypes.toList c.args.toList o.dst s k=J r)
  (hr:Rel E.U B g s a w)(hd:∀i,o.dst=J i->i<a.tmps.size/\B.np<=i)(hn:G2 E B o a k r next):o.wp P a w next Q:=by
 unfold Mf at h;split at h;rename_i t x er aC;have er:=W8 er;have aC:=W8 aC;split at h;rename_i t' e l own ht hx;obtain⟨cO,_⟩:=M9 hT ht;have bV:=E4 hr t x;rw[show opl E s t x=_ from hx]at bV;obtain⟨a0,cap,hv⟩:=bV.1.sl_inv;exact E8 (e:=.one (.int .i64 l.length)) hr hd hn h (LRep.int _ _) rfl (by simp[Aad,ag,Aa3,az,er,aC,Aa4,Aa6,hv,Aci,Aaf cO,goInt]);rename_i c0 ht hx;have ex:=SG hr hx;exact E8 (e:=.one (.int .i64 c0.length)) hr hd hn h (LRep.int _ _) rfl (by simp[Aad,ag,Aa3,az,er,aC,Aa4,Aa6,ex,Aci,Aaf (OF hT ht),goInt,QO]);cases h;rename_i x y aC;have aC:=W8 aC;split at h;rename_i k0 va k1 vb hx hy;exact E8 (e:=.one (.int k0 (if vb<va then vb else va))) hr hd hn h (LRep.int _ _) rfl (by simp[Aad,ag,Aa3,az,aC,Aa4,Aa6,S4 hr hx,S4 hr hy,run_min_int2]);cases h;rename_i x y aC;have aC:=W8 aC;split at h;rename_i k0 va k1 vb hx hy;exact E8 (e:=.one (.int k0 (if vb>va then vb else va))) hr hd hn h (LRep.int _ _) rfl (by simp[Aad,ag,Aa3,az,aC,Aa4,Aa6,S4 hr hx,S4 hr hy,run_max_int2]);cases h;rename_i t u x y er aC;exact C7t hT hU ag az (W8 er) (W8 aC) h hr hd hn;cases h
end
end Go.Aev
end
section
open Go.Lib
namespace Go.Aev
variable {Ty:Type}{den:Ty->Type}
def Leaf.has_iff(d:Nat)(lf:Leaf Ty den):lf.has d=Z↔(∃t l,lf=.sl t l (J d))\/∃o,lf=.ptr d o:=by
 cases lf with
 |sl t l o=>
  cases o with
  |none=>simp[Leaf.has]
  |some e=>simp[Leaf.has,D5]
 |ptr e o=>simp[Leaf.has,D5]
 |_=>simp[Leaf.has]
structure Post(U:UO Ty den)(B:Bs)(g':Gh)(r:Ent Ty den)(v:Value)(w':World):Prop where
 os:w'.os=B.w.os
 tape:w'.tape=B.w.tape
 output:w'.output=B.w.output
 size:B.w.heap.size<=w'.heap.size
 frame:∀b,b<B.w.heap.size->¬B.M b->w'.heap[b]?=B.w.heap[b]? /\g'.wm b=B.wm b
 ext:Ext B.w B.wm w' g'.wm
 zero:∀b,w'.heap.size<=b->g'.wm b=0
 rep:ERep U w' g' r v
 nit:r.isIter=V
 tip:∀d,r.has d=Z->Tip w' g'.wm (g'.G d) (g'.Gs d)
 disj:∀d e b,r.has d=Z->r.has e=Z->d≠e->spare (g'.G d)=J b->spare (g'.G e)≠J b
 mine:∀d b,r.has d=Z->spare (g'.G d)=J b->B.w.heap.size<=b\/B.M b
abbrev Inv:=World->(Nat->Nat)->Prop
def QP(P:Aag)(U:UO Ty den)(I:Inv)(f:Aai)(ls:List (Leaf Ty den))(r:Ent Ty den):Prop:=
 ∀(w:World)(g:Gh)(vs:Gw),I w g.wm->(∀b,w.heap.size<=b->g.wm b=0)->LsRep U w g ls vs->(L2 ls=Z->Tip w g.wm (g.G 0) (g.Gs 0))->(∀lf∈ls,∀d,lf.has d=Z->d=0)->
  Calls P f vs.toArray w λe w'=>∃v g',e=.returned v/\Post U ⟨w,g.wm,λb=>L2 ls=Z/\spare (g.G 0)=J b,0,λ_=>undef⟩ g' r v w'
structure Sound(P:Aag)(U:UO Ty den)(I:Inv)(f:Aai)(S:List (Leaf Ty den)->Option (Ent Ty den)):Prop where
 enter:∀args w,(Abd f args).run P w=.ok (.enter f args) w
 ok:∀ls r,S ls=J r->QP P U I f ls r
section
variable {U:UO Ty den}{w:World}{g:Gh}
def LsRep.close:∀{ls:List (Leaf Ty den)}{vs:Gw},LsRep U w g ls vs->LsRep U w g (D0 ls) vs
 |[],[],_=>trivial
 |_::_,_::_,h=>⟨LRep.closed h.1.1,LsRep.close h.2⟩
def LsRep.closed_any{g':Gh}(hw:g'.wm=g.wm):∀{ls:List (Leaf Ty den)}{vs:Gw},LsRep U w g (D0 ls) vs->LsRep U w g' (D0 ls) vs
 |[],[],_=>trivial
 |[],_::_,h=>h.elim
 |_::_,[],h=>h.elim
 |x::_,_::_,h=>⟨⟨by rw[hw];exact h.1.1,λt1 l1 d1 he=>by(cases x<;>simp[Leaf.close]at he),λd o he=>by(cases x<;>simp[Leaf.close]at he)⟩,LsRep.closed_any hw h.2⟩
def YE:∀(ls:List (Leaf Ty den)),L2 (D0 ls)=V
 |[]=>rfl
 |l::ls=>by
  cases l<;>simp only[D0,Leaf.close,L2]<;>exact YE ls
def SL(lf:Leaf Ty den)(d:Nat):lf.close.has d=V:=by cases lf<;>rfl
def VR:∀{ls:List (Leaf Ty den)}{lf:Leaf Ty den},lf∈D0 ls->∃l0:Leaf Ty den,lf=l0.close
 |[],lf,h=>by simp[D0]at h
 |l::ls,lf,h=>by
  simp only[D0,HC]at h;rcases h with h1|h1;exact⟨l,h1⟩;exact VR h1
def LsRep.length:∀{ls:List (Leaf Ty den)}{vs:Gw},LsRep U w g ls vs->ls.length=vs.length
 |[],[],_=>rfl
 |_::_,_::_,h=>by simp[LsRep.length h.2]
def LsRep.set:∀{ls:List (Leaf Ty den)}{vs:Gw},LsRep U w g ls vs->∀(i:Nat)(lf:Leaf Ty den),(∀v,vs[i]?=J v->LRep U w g lf v)->LsRep U w g (ls.set i lf) vs
 |[],[],_,i,lf,_=>by cases i<;>trivial
 |_::_,_::_,h,0,lf,hv=>⟨hv _ rfl,h.2⟩
 |_::_,_::_,h,i+1,lf,hv=>⟨h.1,LsRep.set h.2 i lf λv dE=>hv v (by simpa using dE)⟩
def B9x:∀(ls:List (Leaf Ty den))(i:Nat)(t:Ty)(l:List (den t)),i<ls.length->L2 ((D0 ls).set i (.sl t l (J 0)))=Z
 |[],i,t,l,h=>by simp at h
 |x::ls,0,t,l,_=>rfl
 |x::ls,i+1,t,l,h=>by
  have ih:=B9x ls i t l (by simpa using h);cases x<;>simp only[D0,Leaf.close,KX,L2]<;>exact ih
def D1G{ls:List (Leaf Ty den)}{i:Nat}{t:Ty}{l:List (den t)}{lf:Leaf Ty den}(h:lf∈(D0 ls).set i (.sl t l (J 0)))(d:Nat)(hd:lf.has d=Z):d=0:=by
 rcases Jv h with h|rfl;obtain⟨l0,rfl⟩:=VR h;rw[SL]at hd;cases hd;obtain⟨_,_,he⟩:=((Leaf.has_iff d _).1 hd).resolve_right (λ⟨o,h⟩=>by cases h);simp only[Leaf.sl.injEq,GX]at he;exact he.2.2.symm
end
section
variable {E:Env Ty den}{B:Bs}{g:Gh}{s:St Ty den}{a:Act}{w:World}
variable {P:Aag}{R:Type}{o:Oper}{k:Ent Ty den->St Ty den->Option R}{r:R}{next:Act->World->Prop}{Q:Exit->Act->World->Prop}
def SM(hr:Rel E.U B g s a w):∀(dZ:List Aaa)(args:List Aae),LsRep E.U w g (O2 E s dZ args) (args.map a.eval)
 |dZ,[]=>by cases dZ<;>trivial
 |[],x::r=>⟨E4 hr 0 x,SM hr [] r⟩
 |t::ts,x::r=>⟨E4 hr t x,SM hr ts r⟩
def V7(Bc:Bs)(g' g1:Gh)(ent:Ent Ty den)(p:GA)(L:Nat->Prop)(s:St Ty den):Prop:=
 ∀e,mem e s.live=Z->(∀b,spare (g1.G e)=J b->b<Bc.w.heap.size/\¬Bc.M b)\/
  ∃c,ent.has c=Z/\L c/\g1.G e=g'.G c/\(c=0->∃d,p=J d/\mem d s.live=Z)
def B5d(hU:E.U.Ok){Bc:Bs}{g' g1:Gh}{ent:Ent Ty den}{v0:Value}{w':World}(hp:Post E.U Bc g' ent v0 w')(hr:Rel E.U B g1 s a w')(ba:g1.wm=g'.wm)
  (hB:∀b,Bc.w.heap.size<=b\/Bc.M b->B.w.heap.size<=b\/B.M b){p:GA}{L L':Nat->Prop}(cG:V7 Bc g' g1 ent p L s)(zL:∀c,L c->L' c)
  {nm:Nat}{t:Ty}{l:List (den t)}{c:Nat}{v:Value}(anq:LRep E.U w' g' (.sl t l (J c)) v)(hc:ent.has c=Z)(sR:L' c)(jS:∀e,mem e s.live=Z->mem nm s.live=V->∀c',L c'->(c'=0->∃d,p=J d/\mem d s.live=Z)->c'≠c)
  (il:c=0->p=J nm):
  ∃g2,Rel E.U B g2 (Ma nm t l s).2 a w'/\g2.wm=g'.wm/\LRep E.U w' g2 (Ma nm t l s).1 v/\V7 Bc g' g2 ent p L' (Ma nm t l s).2/\
   (∀e,mem e s.live=Z->g2.G e=g1.G e/\g2.Gs e=g1.Gs e/\mem e (Ma nm t l s).2.live=Z)/\(∀e,(Ma nm t l s).1.has e=Z->mem e (Ma nm t l s).2.live=Z):=by
 unfold Ma;cases hm:mem nm s.live with
 |true=>
  simp only[GD];refine⟨g1,hr,ba,⟨anq.1.own O|>λh=>by rw[ba];exact h,λ_ _ _ he=>by(simp at he),λ_ _ he=>by(cases he)⟩,λe he=>?_,λe he=>⟨rfl,rfl,he⟩,λe he=>by simp[Leaf.has]at he⟩;rcases cG e he with h1|⟨c',h1,h2,h3,h4⟩;exact .inl h1;exact .inr ⟨c',h1,zL _ h2,h3,h4⟩
 |false=>
  simp only[GF];obtain⟨hv,hs,fH⟩:=anq.2.1 t l c rfl;have aP:∀e,mem e s.live=Z->e≠nm:=λe he h=>by subst h;rw[he]at hm;cases hm
  have cU:=hp.tip c hc;have h2:=hr.fresh hU nm (g'.G c) (g'.Gs c) (by rw[ba];exact cU) (λe b he BX fe fG=>by
   rcases cG e he with h1|⟨c',h1,h2,h3,h4⟩;obtain⟨h5,h6⟩:=h1 b fG;rcases hp.mine c b hc fe with h7|h7;omega;exact h6 h7;rw[h3]at fG;exact hp.disj c c' b hc h1 (IC (jS e he hm c' h2 h4)) fe fG) (λb fe=>hB b (hp.mine c b hc fe))
  have aD:∀e,mem e (s.fresh nm).live=Z↔e=nm\/mem e s.live=Z:=λe=>by
   simp only[St.fresh];rw[mem_cons,K7];constructor;rintro(rfl|⟨h3,_⟩);exact .inl rfl;exact .inr h3;rintro(rfl|h3);exact .inl rfl;exact .inr ⟨h3,aP e h3⟩
  have hG:∀e,e≠nm->(g1.put nm (g'.G c) (g'.Gs c)).G e=g1.G e:=λe he=>by simp[Gh.put,he]
  have dh:∀e,e≠nm->(g1.put nm (g'.G c) (g'.Gs c)).Gs e=g1.Gs e:=λe he=>by simp[Gh.put,he]
  refine⟨g1.put nm (g'.G c) (g'.Gs c),h2,ba,⟨?_,λt1 l1 d1 he=>?_,λ_ _ he=>by(cases he)⟩,λe he=>?_,λe he=>⟨hG e (aP e he),dh e (aP e he),(aD e).2 (.inr he)⟩,λe he=>?_⟩;show CRep E.U w' g1.wm (.sl t l (J nm)) v;rw[ba];exact anq.1.own _;simp only[Leaf.sl.injEq,GX]at he;obtain⟨rfl,_,rfl⟩:=he;exact⟨by rw[hv];simp[Gh.put],by rw[hs];simp[Gh.put],fH⟩;rcases (aD e).1 he with rfl|nW;exact .inr ⟨c,hc,sR,by simp[Gh.put],λh0=>⟨e,il h0,he⟩⟩;rcases cG e nW with h1|⟨c',h1,h3,h4,h5⟩;exact .inl λb hb=>h1 b (by rw[hG e (aP e nW)]at hb;exact hb)
  refine .inr ⟨c',h1,zL _ h3,by rw[hG e (aP e nW)];exact h4,λh0=>?_⟩;obtain⟨d,vz,iD⟩:=h5 h0;exact⟨d,vz,(aD d).2 (.inr iD)⟩;obtain⟨_,_,iB⟩:=((Leaf.has_iff e _).1 he).resolve_right (λ⟨o,h⟩=>by cases h);simp only[Leaf.sl.injEq,GX]at iB;rw[<-iB.2.2];exact(aD nm).2 (.inl rfl)
def C5O(hU:E.U.Ok){Bc:Bs}{g' g1:Gh}{ent:Ent Ty den}{v0:Value}{w':World}(hp:Post E.U Bc g' ent v0 w')(hr:Rel E.U B g1 s a w')(ba:g1.wm=g'.wm)
  (hB:∀b,Bc.w.heap.size<=b\/Bc.M b->B.w.heap.size<=b\/B.M b){X:Nat->Prop}{p:GA}{dst:GA}{j:Nat}(hX:∀c,X c->j+1<c)(cG:V7 Bc g' g1 ent p (λc=>c<=j\/X c) s)
  {lf:Leaf Ty den}{v:Value}(anq:LRep E.U w' g' lf v)(hc:∀c,lf.has c=Z->ent.has c=Z):
  ∃g2,Rel E.U B g2 (M6 dst p j s lf).2 a w'/\g2.wm=g'.wm/\LRep E.U w' g2 (M6 dst p j s lf).1 v/\V7 Bc g' g2 ent p (λc=>c<=j+1\/X c) (M6 dst p j s lf).2/\
   (∀e,mem e s.live=Z->g2.G e=g1.G e/\g2.Gs e=g1.Gs e/\mem e (M6 dst p j s lf).2.live=Z)/\(∀e,(M6 dst p j s lf).1.has e=Z->mem e (M6 dst p j s lf).2.live=Z):=by
 have keep:∀{lf':Leaf Ty den},LRep E.U w' g1 lf' v->(∀e,lf'.has e=V)->M6 dst p j s lf=(lf',s)->
   ∃g2,Rel E.U B g2 (M6 dst p j s lf).2 a w'/\g2.wm=g'.wm/\LRep E.U w' g2 (M6 dst p j s lf).1 v/\V7 Bc g' g2 ent p (λc=>c<=j+1\/X c) (M6 dst p j s lf).2/\
   (∀e,mem e s.live=Z->g2.G e=g1.G e/\g2.Gs e=g1.Gs e/\mem e (M6 dst p j s lf).2.live=Z)/\(∀e,(M6 dst p j s lf).1.has e=Z->mem e (M6 dst p j s lf).2.live=Z):=by
  intro lf' hl eu he;rw[he];refine⟨g1,hr,ba,hl,λe he=>?_,λe he=>⟨rfl,rfl,he⟩,λe he=>by rw[eu e]at he;cases he⟩;rcases cG e he with h1|⟨c',h1,h2,h3,h4⟩;exact .inl h1;exact .inr ⟨c',h1,h2.imp Il id,h3,h4⟩
 have closed:∀{t:Ty}{l:List (den t)}{x:GA},lf=.sl t l x->LRep E.U w' g1 (.sl t l O) v:=λhe=>by
  subst he;exact⟨by rw[ba];exact anq.1.own O,λ_ _ _ he=>by(simp at he),λ_ _ he=>by(cases he)⟩
 cases lf with
 |sl t l x=>
  cases x with
  |none=>exact keep (closed rfl) (λe=>rfl) rfl
  |some c=>
   cases c with
   |zero=>
    cases p with
    |none=>exact keep (closed rfl) (λe=>rfl) rfl
    |some d=>
     simp only[M6];exact B5d (c:=0) hU hp hr ba hB cG (λc h=>h.imp Il id) anq (hc 0 (by simp[Leaf.has])) (.inl (HH _)) (λe he hm c' cT h0 nu=>by
      obtain⟨d',h1,h2⟩:=h0 nu;cases h1;rw[h2]at hm;cases hm) (λ_=>rfl)
   |succ i=>
    by_cases cJ:i=j;subst cJ;simp only[M6,G4,GD];exact B5d (c:=i+1) hU hp hr ba hB cG (λc h=>h.imp Il id) anq (hc (i+1) (by simp[Leaf.has])) (.inl (GU _)) (λe he hm c' cT h0 nu=>cT.elim (λh1=>FK) (λh1=>by have:=hX _ h1;omega)) (λh=>by cases h);refine keep (closed rfl) (λe=>rfl) ?_;simp only[M6,I2 cJ,GF]
 |any=>exact keep ⟨.any v,λ_ _ _ h=>by(cases h),λ_ _ h=>by(cases h)⟩ (λe=>rfl) rfl
 |ptr d o=>exact keep ⟨.any v,λ_ _ _ h=>by(cases h),λ_ _ h=>by(cases h)⟩ (λe=>rfl) rfl
 |_=>exact keep ⟨by rw[ba];exact anq.1,λ_ _ _ h=>by(cases h),λ_ _ h=>by(cases h)⟩ (λe=>rfl) rfl
def B4H(hU:E.U.Ok){Bc:Bs}{g':Gh}{ent:Ent Ty den}{v0:Value}{w':World}(hp:Post E.U Bc g' ent v0 w')(hB:∀b,Bc.w.heap.size<=b\/Bc.M b->B.w.heap.size<=b\/B.M b){X:Nat->Prop}{p:GA}{dst:GA}:
  ∀(ls:List (Leaf Ty den))(vs:Gw)(j:Nat)(s:St Ty den)(g1:Gh),Rel E.U B g1 s a w'->g1.wm=g'.wm->(∀c,X c->j+ls.length<c)->V7 Bc g' g1 ent p (λc=>c<=j\/X c) s->LsRep E.U w' g' ls vs->(∀lf∈ls,∀c,lf.has c=Z->ent.has c=Z)->
  ∃g2,Rel E.U B g2 (Q4 dst p j s ls).2 a w'/\g2.wm=g'.wm/\LsRep E.U w' g2 (Q4 dst p j s ls).1 vs/\(∀e,mem e s.live=Z->g2.G e=g1.G e/\g2.Gs e=g1.Gs e/\mem e (Q4 dst p j s ls).2.live=Z)/\(∀lf∈(Q4 dst p j s ls).1,∀e,lf.has e=Z->mem e (Q4 dst p j s ls).2.live=Z)/\V7 Bc g' g2 ent p (λc=>c<=j+ls.length\/X c) (Q4 dst p j s ls).2
 |[],[],j,s,g1,hr,ba,hX,cG,_,_=>⟨g1,hr,ba,trivial,λ_ h=>⟨rfl,rfl,h⟩,λlf hl=>by simp[Q4]at hl,cG⟩
 |lf::ls,v::vs,j,s,g1,hr,ba,hX,cG,anq,hc=>by
  obtain⟨g2,h1,h2,h3,h4,h5,h6⟩:=C5O (dst:=dst) hU hp hr ba hB (λc h=>by(have:=hX c h;simp only[Fr]at this;omega)) cG anq.1 (hc lf GN);obtain⟨g3,k1,k2,k3,k4,k5,k6⟩:=B4H hU hp hB (dst:=dst) ls vs (j+1) _ g2 h1 h2 (λc h=>by(have:=hX c h;simp only[Fr]at this;omega)) h4 anq.2 (λl hl=>hc l (by simp[hl]));simp only[Q4];refine⟨g3,k1,k2,⟨⟨?_,λt1 l1 d1 he=>?_,λd1 o1 he=>?_⟩,k3⟩,λe he=>?_,λl0 dq e he=>?_,by(rw[show j+(lf::ls).length=j+1+ls.length by(simp only[Fr];omega)];exact k6)⟩;rw[k2, <-h2];exact h3.1;have hl:=h6 d1 ((Leaf.has_iff d1 _).2 (.inl ⟨t1,l1,he⟩));obtain⟨e1,e2,_⟩:=k4 d1 hl;rw[e1,e2];exact h3.2.1 t1 l1 d1 he;have hl:=h6 d1 ((Leaf.has_iff d1 _).2 (.inr ⟨o1,he⟩));obtain⟨e1,e2,_⟩:=k4 d1 hl;rw[e1];exact h3.2.2 d1 o1 he;obtain⟨e1,e2,e3⟩:=h5 e he;obtain⟨f1,f2,f3⟩:=k4 e e3;exact⟨f1.trans e1,f2.trans e2,f3⟩;simp only[HC]at dq;rcases dq with rfl|dq;exact(k4 e (h6 e he)).2.2;exact k5 l0 dq e he
def C41(hU:E.U.Ok){Bc:Bs}{g' g1:Gh}{ent:Ent Ty den}{v:Value}{w':World}(hp:Post E.U Bc g' ent v w')(hr:Rel E.U B g1 s a w')(ba:g1.wm=g'.wm)
  (hB:∀b,Bc.w.heap.size<=b\/Bc.M b->B.w.heap.size<=b\/B.M b){p:GA}{dst:GA}
  (eb:∀e b,mem e s.live=Z->spare (g1.G e)=J b->b<Bc.w.heap.size/\¬Bc.M b)
  (h:(match ent with
   | .one l=>k (.one (M6 dst p 0 s l).1) (M6 dst p 0 s l).2
   | .tup r=>k (.tup (Q4 dst p 0 s r).1) (Q4 dst p 0 s r).2
   |_=>O)=J r) (hd:∀i,o.dst=J i->i<a.tmps.size/\B.np<=i) (hn:G2 E B o a k r next):next (a.put o.dst v) w':=by
 have cG:V7 Bc g' g1 ent p (λc=>c<=0\/False) s:=λe he=>.inl λb hb=>eb e b he hb;have anq:=hp.rep;cases ent with
 |one l=>
  obtain⟨g2,h1,h2,h3,_⟩:=C5O (dst:=dst) hU hp hr ba hB (X:=λ_=>False) (λc h=>h.elim) cG anq (λc hc=>hc);exact hn _ _ _ _ h (REL.setO h1 (e:=.one _) h3 rfl _ hd)
 |tup ls=>
  obtain⟨vs,hv,nX⟩:=anq;obtain⟨g2,h1,h2,h3,_⟩:=B4H (dst:=dst) hU hp hB (X:=λ_=>False) ls vs 0 s g1 hr ba (λc h=>h.elim) cG nX (λlf hl c hc=>by
   simp only[Ent.has,Hm];exact⟨lf,hl,hc⟩)
  exact hn _ _ _ _ h (REL.setO h1 (e:=.tup _) ⟨vs,hv,h3⟩ rfl _ hd)
 |iter c pos=>cases h
 |bx d' ls=>cases h
 |st ls=>cases h
def C8S(hU:E.U.Ok)(hS:∀f ls r,E.T f ls=J (Z,r)->(∀args w,(Abd f args).run P w=.ok (.enter f args) w)/\QP P E.U (λw1 m1=>Ext B.w B.wm w1 m1) f ls r)
  {c:Call}{f:Aai}(ag:o.op=.call c)(az:c.callee=.value (.func f))(h:B8c E f c.argTypes.toList c.args.toList o.dst s k=J r)
  (hr:Rel E.U B g s a w)(hd:∀i,o.dst=J i->i<a.tmps.size/\B.np<=i)(hn:G2 E B o a k r next):o.wp P a w next Q:=by
 have bu:=SM hr c.argTypes.toList c.args.toList;have gW:∀(aK:∀args w,(Abd f args).run P w=.ok (.enter f args) w),(Aad a.eval o).run P w=.ok (.enter f (c.args.toList.map a.eval).toArray) w:=λaK=>by
  simp[Aad,ag,Aa3,az,Aba,Deferred.ofValue,Aa4,aK];apply It;simp
 have oV:∀{Rr:Ending->World->Prop},(∀args w,(Abd f args).run P w=.ok (.enter f args) w)->Calls P f (c.args.toList.map a.eval).toArray w Rr->(∀e w',Rr e w'->∃v,e=.returned v/\next (a.put o.dst v) w')->o.wp P a w next Q:=λaK hc hq=>by
  unfold Abt;rw[gW aK,Oper.upon_enter];refine hc.mono λe w' ff=>?_;obtain⟨v,rfl,hv⟩:=hq e w' ff;exact hv
 have sS:∀e b,mem e s.live=Z->spare (g.G e)=J b->b<w.heap.size:=λe b he hs=>by
  obtain⟨a0,len,cap,hv,_,cT⟩:=hr.tip e he;rw[hv]at hs;simp only[spare]at hs;split at hs;rename_i a1 l1 c1 eT;cases eT;split at hs;cases hs;rename_i ej;rcases cT with h3|⟨b',off,c,e,fz,ha,hb,_⟩;exact absurd h3 ej;cases ha;simp at hs;subst hs;exact(HJ.1 hb).1;cases hs
 unfold B8c at h;dsimp only at h;generalize hL:O2 E s c.argTypes.toList c.args.toList=ls at h bu;split at h
 
 cases kJ:E.T f (D0 ls)with
 |none=>rw[kJ]at h;cases h
 |some qk=>
  obtain⟨gd,ent⟩:=qk;rw[kJ]at h;cases gd with
  |false=>exfalso;cases ent<;>cases h
  |true=>
   obtain⟨aK,kK⟩:=hS f _ _ kJ;have hc:=kK w g (c.args.toList.map a.eval) hr.ext hr.zero (LsRep.close bu) (λh1=>by rw[YE]at h1;cases h1) (λlf hl d ek=>by
    obtain⟨l0,rfl⟩:=VR hl;rw[SL]at ek;cases ek)
   rw[YE]at hc;refine oV aK hc ?_;rintro e w' ⟨v,g',rfl,hp⟩;refine⟨v,rfl,?_⟩;have dG:=hr.world hU (w':=w') (wm':=g'.wm) hp.os hp.tape hp.output hp.size hp.ext (λ_=>False) (λb e=>e.elim) (λ_ _ _ _=>.inl λe=>e) (λb e=>e.elim) (λb hb _=>hp.frame b hb (λe=>by cases e.1)) hp.zero;refine C41 (p:=O) (dst:=o.dst) hU hp dG rfl (λb hb=>?_) (λe b he hs=>⟨sS e b he hs,λe=>by cases e.1⟩) ?_ hd hn;rcases hb with hb|hb;exact .inl (HT hr.size hb);cases hb.1;cases ent<;>exact h
 
 rename_i p Fv;cases jB:ls.getD p .any with
 |sl t l x=>
  cases x with
  |none=>rw[jB]at h;cases h
  |some d=>
   rw[jB]at h;obtain⟨eZ,h'⟩:=A5 h;cases kJ:E.T f ((D0 ls).set p (.sl t l (J 0)))with
   |none=>rw[kJ]at h';cases h'
   |some qk=>
    obtain⟨gd,ent⟩:=qk;rw[kJ]at h';cases gd with
    |false=>exfalso;cases ent<;>cases h'
    |true=>
     obtain⟨aK,kK⟩:=hS f _ _ kJ;have qm:p<ls.length:=by
      rcases Hv p ls.length with h1|h1;exact h1;rw[HQ,IF h1]at jB;cases jB
     have wv:ls[p]?=J (.sl t l (J d)):=by
      rw[HQ,GE qm]at jB;simp at jB;rw[GE qm,jB]
     obtain⟨vp,vA,oW⟩:=bu.get wv;obtain⟨mj,sK,fH⟩:=oW.2.1 t l d rfl;have sT:Ext w g.wm w (g.put 0 (g.G d) (g.Gs d)).wm:=⟨VI rfl,λ_ _ _=>rfl,λ_=>GU _⟩;have ww:LsRep E.U w (g.put 0 (g.G d) (g.Gs d)) (D0 ls) (c.args.toList.map a.eval):=by
      exact LsRep.closed_any (g:=g) (g':=g.put 0 (g.G d) (g.Gs d)) rfl (LsRep.close bu)
     have hc:=kK w (g.put 0 (g.G d) (g.Gs d)) (c.args.toList.map a.eval) hr.ext hr.zero (ww.set p (.sl t l (J 0)) (λv hv=>by
       rw[vA]at hv;cases hv;refine⟨oW.1.own _,λt1 l1 d1 he=>?_,λ_ _ he=>by(cases he)⟩;simp only[Leaf.sl.injEq,GX]at he;obtain⟨rfl,_,rfl⟩:=he;exact⟨by rw[mj];simp[Gh.put],by rw[sK];simp[Gh.put],fH⟩))
      (λ_=>by simpa [Gh.put]using hr.tip d eZ) (λlf hl d' ek=>D1G hl d' ek)
     rw[B9x ls p t l qm]at hc;have BY:(g.put 0 (g.G d) (g.Gs d)).G 0=g.G d:=by simp[Gh.put]
     rw[BY]at hc;refine oV aK hc ?_;rintro e w' ⟨v,g',rfl,hp⟩;refine⟨v,rfl,?_⟩;have hk:=hr.kill hU d;have mn:∀e b,mem e (s.kill d).live=Z->spare (g.G e)=J b->spare (g.G d)≠J b:=λe b he hs=>by
      have iB:=(K7 d e s.live).1 he;exact hr.disj e d b iB.1 eZ iB.2 hs
     have dG:=hk.world hU (w':=w') (wm':=g'.wm) hp.os hp.tape hp.output hp.size hp.ext (λb=>spare (g.G d)=J b) (λb hb=>by
       obtain⟨a0,len,cap,hv,_,cT⟩:=hr.tip d eZ;rw[hv]at hb;simp only[spare]at hb;split at hb;rename_i a1 l1 c1 eT;cases eT;split at hb;cases hb;rename_i ej;rcases cT with h3|⟨b',off,c,e,fz,ha,bC,_⟩;exact absurd h3 ej;cases ha;simp at hb;subst hb;exact⟨_,_,_,bC⟩;cases hb)
      (λe b he hs=>.inl (mn e b he hs)) (λb hb=>hr.mine d b eZ hb) (λb hb hM=>hp.frame b hb λh=>hM h.2) hp.zero
     refine C41 (p:=J d) (dst:=o.dst) hU hp dG rfl (λb hb=>?_) (λe b he hs=>⟨sS e b ((K7 d e s.live).1 he).1 hs,λh=>mn e b he hs h.2⟩) ?_ hd hn;rcases hb with hb|hb;exact .inl (HT hr.size hb);exact hr.mine d b eZ hb.2;cases ent<;>exact h'
 |_=>rw[jB]at h;cases h
end
end Go.Aev
end
section
open Go.Lib
namespace Go.Aev
variable {Ty:Type}{den:Ty->Type}
section
variable {U:UO Ty den}{B:Bs}{g:Gh}{s:St Ty den}{a:Act}{w:World}
def Rel.setBx(h:Rel U B g s a w){d:Nat}{ls:List (Leaf Ty den)}(hb:BoxOk U w g d ls)(hl:mem d s.live=Z):Rel U B g (s.set (bxi d) (.bx d ls)) a w:=by
 refine{h with ent:=λi=>?_,iter:=λi c pos hc=>?_,idis:=λi j c p c' p' cJ h1 h2=>?_,bxl:=λi e cf hc=>?_};rw[F2];by_cases hi:bxi d=i;rw[GJ hi];exact hb;rw[GI hi];exact h.ent i;rw[F2]at hc;by_cases hi:bxi d=i;rw[GJ hi]at hc;cases hc;rw[GI hi]at hc;exact h.iter i c pos hc;rw[F2]at h1 h2;by_cases hi:bxi d=i;rw[GJ hi]at h1;cases h1;by_cases hj:bxi d=j;rw[GJ hj]at h2;cases h2;rw[GI hi]at h1;rw[GI hj]at h2;exact h.idis i j c p c' p' cJ h1 h2;rw[F2]at hc;by_cases hi:bxi d=i;rw[GJ hi]at hc;cases hc;exact⟨hl,hi.symm⟩;rw[GI hi]at hc;exact h.bxl i e cf hc
def Rel.setSame(h:Rel U B g s a w){d:Nat}{e:Ent Ty den}(he:ERep U w g e (a.tmps.getD d undef))(hi:e.isIter=V):Rel U B g (s.set d e) a w:=by
 refine{h with ent:=λi=>?_,iter:=λi c pos hc=>?_,idis:=λi j c p c' p' cJ h1 h2=>?_,bxl:=λi e2 cf hc=>?_};rw[F2];by_cases hi:d=i;rw[GJ hi];subst hi;exact he;rw[GI hi];exact h.ent i;rw[F2]at hc;by_cases db:d=i;rw[GJ db]at hc;subst hc;cases hi;rw[GI db]at hc;exact h.iter i c pos hc;rw[F2]at h1 h2;by_cases db:d=i;rw[GJ db]at h1;subst h1;cases hi;by_cases lz:d=j;rw[GJ lz]at h2;subst h2;cases hi;rw[GI db]at h1;rw[GI lz]at h2;exact h.idis i j c p c' p' cJ h1 h2;rw[F2]at hc;by_cases db:d=i;rw[GJ db]at hc;subst hc;cases hi;rw[GI db]at hc;exact h.bxl i e2 cf hc
def Rel.noBx(h:Rel U B g s a w)(d:Nat):Rel U B g (s.set (bxi d) (.one .any)) a w:=by
 refine h.weaken (λi=>?_) (λ_ hd=>hd) (λi e ls _ hd=>hd);rw[F2];by_cases hi:bxi d=i;rw[GJ hi];exact .inl rfl;rw[GI hi];exact .inr rfl
def Rel.poke(hU:U.Ok)(h:Rel U B g s a w){d b:Nat}(hl:mem d s.live=Z)(hG:spare (g.G d)=J b)(eu:∀i ls,s.get i≠ .bx d ls)(ba:g.wm b=0){w':World}{c c':Array Value}{e:Aaa}{fz:Nat×Nat}
  (hb:w.heap[b]?=J (.cells c e fz))(bC:w'.heap[b]?=J (.cells c' e fz))(cN:c'.size=c.size)(kD:w'.os=w.os)(di:w'.tape=w.tape)(eG:w'.output=w.output)(aw:w'.heap.size=w.heap.size)(cy:∀k,k≠b->w'.heap[k]?=w.heap[k]?):
  Rel U B g s a w'/\Ext w g.wm w' g.wm:=by
 have hx:Ext w g.wm w' g.wm:=⟨VJ hb bC cy,λk off ho=>by
  by_cases hk:k=b;subst hk;omega;exact HK (a:=⟨k,off,O⟩) (cy k hk),λ_=>GU _⟩
 refine⟨{os:=kD.trans h.os,tape:=di.trans h.tape,output:=eG.trans h.output,size:=by rw[aw];exact h.size,frame:=λk hk hM=>?_,ext:=h.ext.trans hx,zero:=λk hk=>h.zero k (by rw[<-aw];exact hk),ent:=λi=>ERep.same (g':=g) hU hx rfl rfl (h.ent i) (λc1 pos hc k hv=>cy k ?_) (λd' ls hc k hs=>cy k ?_),tip:=λf hf=>?_,disj:=h.disj,mine:=h.mine,iter:=h.iter,idis:=h.idis,defers:=h.defers,bxl:=h.bxl,pin:=h.pin},hx⟩;have:k≠b:=λe1=>by
  subst e1;rcases h.mine d k hl hG with h1|h1;omega;exact hM h1
 rw[cy k this];exact h.frame k hk hM;intro e1;subst e1;have he:=h.ent i;rw[hc]at he;obtain⟨b',dE,dM⟩:=he;rw[hv]at dE;cases dE;rw[hb]at dM;cases dM;intro e1;subst e1;have aP:d'≠d:=λe2=>by subst e2;exact eu i ls hc
 exact h.disj d' d k (h.bxl i d' ls hc).1 hl aP hs hG;obtain⟨a0,len,cap,hv,bw,gD⟩:=h.tip f hf;refine⟨a0,len,cap,hv,bw,?_⟩;by_cases ej:cap=0;exact .inl ej;obtain⟨b',off,c1,e1,iE,ha,ob,r1,r2,r3⟩:=gD.resolve_left ej;by_cases iR:b'=b;subst iR;rw[hb]at ob;cases ob;exact .inr ⟨b',off,c',e,fz,ha,bC,by rw[cN];exact r1,r2,r3⟩;exact .inr ⟨b',off,c1,e1,iE,ha,by rw[cy b' iR];exact ob,r1,r2,r3⟩
end
section
variable {E:Env Ty den}{B:Bs}{g:Gh}{s:St Ty den}{a:Act}{w:World}
variable {P:Aag}{R:Type}{o:Oper}{k:Ent Ty den->St Ty den->Option R}{r:R}{next:Act->World->Prop}{Q:Exit->Act->World->Prop}
variable (hT:∀t,M4 P E.U t (E.tb t))(hU:E.U.Ok)(hZ:∀t zs,E.zr t=J zs->Ky P E.U t zs)
def C11{e:Nat}(nm:Nat):∀(zs:List (Leaf Ty den))(j:Nat)(s:St Ty den),mem e s.live=Z->mem e (Rq nm j s zs).live=Z
 |[],j,s,h=>h
 |l::zs,j,s,h=>by
  simp only[Rq];refine C11 nm zs (j+1) _ ?_;rcases B00 l with⟨t,rfl⟩|⟨_,h2,_⟩;simp only[nlS,St.fresh];rw[mem_cons,K7];by_cases he:bo nm j=e;exact .inl he;exact .inr ⟨h,λh=>he h.symm⟩;rw[h2];exact h
def D4J{U:UO Ty den}{g:Gh}{w:World}{nm b n:Nat}{l l':Leaf Ty den}{u:Value}(he:Uw nm l=l')(h:LRep U w g l u)(hG:g.G nm=.slice (J ⟨b,0,O⟩) 0 n)(er:B2V U w b):LRep U w g l' u:=by
 subst he;unfold Uw;split;have hc:=h.1;cases hc with
 |val v=>exact⟨.pt _ _ _,λ_ _ _ he=>by(cases he),λd o he=>by(cases he;exact⟨b,n,hG,.inr (.inl ⟨rfl,er,.inl rfl⟩)⟩)⟩
 exact h
def B2Q(q:Bool)(nm:Nat)(ls:List (Leaf Ty den)):(Rp q nm ls).length=ls.length:=by cases q<;>simp[Rp]
def C0C{q:Bool}{nm j:Nat}{ls:List (Leaf Ty den)}{lf:Leaf Ty den}(h:(Rp q nm ls)[j]?=J lf):∃l0,ls[j]?=J l0/\((q=Z/\Uw nm l0=lf)\/l0=lf):=by
 cases q with
 |false=>exact⟨lf,h,.inr rfl⟩
 |true=>
  have h':(ls.map (Uw nm))[j]?=J lf:=h;rw[HG]at h';obtain⟨l0,h1,h2⟩:=Hi.1 h';exact⟨l0,h1,.inl ⟨rfl,h2⟩⟩
def C3G{U:UO Ty den}{g:Gh}{w:World}{t nm b n:Nat}{c:Array Value}{fz:Nat×Nat}{l l':Leaf Ty den}{u:Value}(he:(Aab t U.bty=Z/\Uw nm l=l')\/l=l')(h:LRep U w g l u)(hG:g.G nm=.slice (J ⟨b,0,O⟩) 0 n)(er:w.heap[b]?=J (.cells c t fz)):LRep U w g l' u:=by
 rcases he with⟨h1,h2⟩|rfl;have:=(D5 _ _).1 h1;subst this;exact D4J h2 h hG ⟨c,fz,er⟩;exact h
include hU hZ in
def D4A{t:Aaa}(ag:o.op=.alloc t)(h:A6 E o s k=J r)(hr:Rel E.U B g s a w)(hd:∀i,o.dst=J i->i<a.tmps.size/\B.np<=i)(hn:G2 E B o a k r next):o.wp P a w next Q:=by
 simp only[A6,ag]at h;split at h;rename_i i zs aV dJ;have co:0<zs.length:=by
  cases sU:E.oz i with
  |true=>rw[sU]at h;simpa [HU]using (A5 h).1
  |false=>rw[sU]at h;simpa [HU]using (A5 h).1
 obtain⟨ie,z,e1,e2,e3,e4,e5⟩:=hZ t zs dJ;have af:(Aad a.eval o).run P w=.ok (.value (.pointer (J ⟨w.heap.size,0,O⟩))) (w.alloc (.cells z.cells t)):=by
  simp[Aad,ag,Instr.alloc,zeroValue,Aaj,e1,e3,newVar,Aau]
 have h1:=hr.alloc hU (.cells z.cells t) 0 (w.alloc (.cells z.cells t)) rfl rfl rfl rfl;have bZ:(w.alloc (.cells z.cells t)).heap[w.heap.size]?=J (.cells z.cells t):=by
  have hp:(w.alloc (.cells z.cells t)).heap=w.heap.push (.cells z.cells t):=rfl;rw[hp];simp
 have ba:B9 g.wm w.heap.size 0 w.heap.size=0:=by simp[B9]
 generalize dP:B8 (J i)=nm at*;have h2:=h1.fresh hU nm (.slice (J ⟨w.heap.size,0,O⟩) 0 zs.length) 1
  ⟨_,0,zs.length,rfl,HH _,.inr ⟨w.heap.size,0,z.cells,t,(0,0),rfl,bZ,FK,by(show B9 g.wm w.heap.size 0 w.heap.size=_;rw[ba]),HH _⟩⟩
  (λe b he aP hs fG=>by
   simp only[spare]at hs;rw[GI FK]at hs;cases hs;have:=hr.tip e he;obtain⟨c,e',fz,hc⟩:=SF this fG;have:=(HJ.1 hc).1;omega) (λb hs=>by
   simp only[spare]at hs;rw[GI FK]at hs;cases hs;exact .inl hr.size)
 have aD:mem nm (s.fresh nm).live=Z:=by simp only[St.fresh];rw[mem_cons];exact .inl rfl
 have cu:BoxOk E.U (w.alloc (.cells z.cells t)) (({g with wm:=B9 g.wm w.heap.size 0}:Gh).put nm (.slice (J ⟨w.heap.size,0,O⟩) 0 zs.length) 1) nm zs:=by
  refine BoxOk.ex w.heap.size (by simp[Gh.put]) co (by simp[Gh.put]) λj lf hj=>?_;obtain⟨u,u1,u2,u3,u4,_⟩:=e5 j lf hj;refine⟨u,?_,u2,u3,u4 _ _⟩;unfold Aak;dsimp only;rw[bZ];simpa using u1
 cases sU:E.oz i with
 |true=>
  rw[sU]at h;obtain⟨_,h⟩:=A5 (show(bif _ then _ else O)=J r from h);obtain⟨q1,q2⟩:=B8B E.U (w.alloc (.cells z.cells t)) nm zs z.cells.toList 0 (({g with wm:=B9 g.wm w.heap.size 0}:Gh).put nm (.slice (J ⟨w.heap.size,0,O⟩) 0 zs.length) 1) (by simp[e4]) (λi lf u hi hu=>by
   obtain⟨uu,u1,u2,u3,u4,u5⟩:=e5 i lf hi;rw[IA,u1]at hu;cases hu;exact⟨u4 _,u5⟩)
  obtain⟨p1,p2⟩:=B14 E.U nm zs 0 (({g with wm:=B9 g.wm w.heap.size 0}:Gh).put nm (.slice (J ⟨w.heap.size,0,O⟩) 0 zs.length) 1);obtain⟨p3,p4⟩:=p2 nm (λj _=>by unfold bo;omega);have h4:=B8H hU nm zs 0 _ _ h2;have sV:BoxOk E.U (w.alloc (.cells z.cells t)) (Lp E.U nm 0 (({g with wm:=B9 g.wm w.heap.size 0}:Gh).put nm (.slice (J ⟨w.heap.size,0,O⟩) 0 zs.length) 1) zs) nm (Rp (Aab t E.U.bty) nm (Lj nm 0 zs)):=by
   refine BoxOk.ex w.heap.size (by rw[B2Q,q1,p3];simp[Gh.put]) (by rw[B2Q,q1];exact co) (by rw[p4];simp[Gh.put]) λj lf hj=>?_;obtain⟨oX,hj,wx⟩:=C0C hj;have bD:j<zs.length:=by rw[<-q1];exact G7 hj
   obtain⟨u,u1,u2,u3,u4,_⟩:=e5 j _ (Aca bD);have hq:=q2 j oX u hj (by rw[Ack];exact u1);refine⟨u,?_,u2,u3,C3G (b:=w.heap.size) (n:=zs.length) wx hq (by rw[p3];simp[Gh.put]) bZ⟩;unfold Aak;dsimp only;rw[bZ];simpa using u1
  have h5:=h4.setBx sV (C11 _ _ _ _ aD);refine K9 af (hn _ _ _ _ h ?_);rw[aV]at hd ⊢;exact REL.setO h5 (e:=.one (.ptr nm 0)) ⟨.pt _ _ _,λ_ _ _ he=>by(cases he),λd' o2 he=>by(cases he;exact⟨w.heap.size,zs.length,by rw[p3];simp[Gh.put],.inl ⟨rfl,GO⟩⟩)⟩ rfl (J i) hd
 |false=>
  rw[sU]at h;obtain⟨_,h⟩:=A5 (show(bif _ then _ else O)=J r from h);have h3:=h2.setBx cu aD;refine K9 af (hn _ _ _ _ h ?_);rw[aV]at hd ⊢;exact REL.setO h3 (e:=.one (.ptr nm 0)) ⟨.pt _ _ _,λ_ _ _ he=>by(cases he),λd' o2 he=>by(cases he;exact⟨w.heap.size,zs.length,by simp[Gh.put],.inl ⟨rfl,GO⟩⟩)⟩ rfl (J i) hd
 cases h
def D01(hU:E.U.Ok){n:Nat}{l:Leaf Ty den}{ys:List (Leaf Ty den)}(h:cellsOf E n l.close=J ys){j:Nat}{lf:Leaf Ty den}(hj:ys[j]?=J lf):lf.close=lf:=by
 have bm:∀l0:Leaf Ty den,l0.close=l0->(bif Rt l0&&Aab n 1 then J [l0]else O)=J ys->lf.close=lf:=λl0 h0 h1=>by
  obtain⟨_,h9⟩:=A5 h1;cases h9;cases j with
  |zero=>simp at hj;subst hj;exact h0
  |succ j=>simp at hj
 cases l with
 |agg u y=>
  obtain⟨_,h9⟩:=A5 h;cases h9;exact hU.closed u y lf (HI hj)
 |_=>first|exact bm _ rfl h|(simp[cellsOf,Leaf.close,Rt]at h)
include hU hZ in
def D0W{t:Aaa}{x:Aae}(ag:o.op=.box t x)(h:A6 E o s k=J r)(hr:Rel E.U B g s a w)(hd:∀i,o.dst=J i->i<a.tmps.size/\B.np<=i)(hn:G2 E B o a k r next):o.wp P a w next Q:=by
 simp only[A6,ag]at h;split at h;rename_i i zs aV dJ;obtain⟨ie,z,e1,e2,e3,e4,e5⟩:=hZ t zs dJ;split at h;rename_i ys qp;obtain⟨hc,h⟩:=A5 h;simp only[Fn,HU]at hc;obtain⟨_,gw,co⟩:=hc;have gw:=(D5 _ _).1 gw;have aK:=Pz hr t x;rw[qp]at aK;obtain⟨vs,hv,dt,bR⟩:=aK;have pU:=dt.length;have af:(Aad a.eval o).run P w=.ok (.value (.pointer (J ⟨w.heap.size,0,O⟩))) (w.alloc (.cells vs.toArray t)):=by
  simp[Aad,ag,Ace,newVar,Aau,hv,Aa7]
 have bZ:(w.alloc (.cells vs.toArray t)).heap[w.heap.size]?=J (.cells vs.toArray t):=by
  have hp:(w.alloc (.cells vs.toArray t)).heap=w.heap.push (.cells vs.toArray t):=rfl;rw[hp];simp
 have h1:=hr.alloc hU (.cells vs.toArray t) 0 (w.alloc (.cells vs.toArray t)) rfl rfl rfl rfl;have ba:B9 g.wm w.heap.size 0 w.heap.size=0:=by simp[B9]
 have hx:Ext w g.wm (w.alloc (.cells vs.toArray t)) (B9 g.wm w.heap.size 0):=by
  refine⟨Lo rfl,λb off ho=>?_,λb=>?_⟩;rcases Hv b w.heap.size with h2|h2;refine HK (a:=⟨b,off,O⟩) ?_;have hp:(w.alloc (.cells vs.toArray t)).heap=w.heap.push (.cells vs.toArray t):=rfl;rw[hp,Hp,GI (by show¬b=w.heap.size;omega)];rw[hr.zero b h2]at ho;omega;unfold B9;by_cases hb:b=w.heap.size;subst hb;rw[GJ rfl,hr.zero _ (GU _)];exact HH _;rw[GI hb];exact GU _
 generalize dP:B8 (J i)=nm at*;have h2:=h1.fresh hU nm (.slice (J ⟨w.heap.size,0,O⟩) 0 zs.length) 1
  ⟨_,0,zs.length,rfl,HH _,.inr ⟨w.heap.size,0,vs.toArray,t,(0,0),rfl,bZ,GQ,by(show B9 g.wm w.heap.size 0 w.heap.size=_;rw[ba]),HH _⟩⟩
  (λe b he aP hs fG=>by
   simp only[spare]at hs;rw[GI FK]at hs;cases hs;have:=hr.tip e he;obtain⟨c,e',fz,hc⟩:=SF this fG;have:=(HJ.1 hc).1;omega) (λb hs=>by
   simp only[spare]at hs;rw[GI FK]at hs;cases hs;exact .inl hr.size)
 have aD:mem nm (s.fresh nm).live=Z:=by simp only[St.fresh];rw[mem_cons];exact .inl rfl
 have cu:BoxOk E.U (w.alloc (.cells vs.toArray t)) (({g with wm:=B9 g.wm w.heap.size 0}:Gh).put nm (.slice (J ⟨w.heap.size,0,O⟩) 0 zs.length) 1) nm (Rp (Aab t E.U.bty) nm (ys.map (·.strip nm))):=by
  refine BoxOk.ex w.heap.size (by rw[B2Q];simp[Gh.put,gw]) (by rw[B2Q];simp;omega) (by simp[Gh.put]) λj lf hj=>?_;obtain⟨l1,oc,wz⟩:=C0C hj;rw[HG]at oc;obtain⟨l0,dq,rfl⟩:=Hi.1 oc;obtain⟨u,u1,u2⟩:=dt.get dq;obtain⟨k1,k2⟩:=bR u (HI u1);refine⟨u,?_,k1,k2,C3G (b:=w.heap.size) (n:=zs.length) wz (LRep.step (g:=g) hU (d:=nm) hx (by
   constructor;intro e he;simp[Gh.put,he];intro e he;simp[Gh.put,he]) u2) (by simp[Gh.put]) bZ⟩
  unfold Aak;dsimp only;rw[bZ];simpa using u1
 have h3:=h2.setBx cu aD;refine K9 af (hn _ _ _ _ h ?_);rw[aV]at hd ⊢;exact REL.setO h3 (e:=.one (.ptr nm 0)) ⟨.pt _ _ _,λ_ _ _ he=>by(cases he),λd' o2 he=>by(cases he;exact⟨w.heap.size,zs.length,by simp[Gh.put],.inl ⟨rfl,GO⟩⟩)⟩ rfl (J i) hd;split at h;rename_i ys oN;have bV:LRep E.U w g (opl E s t x).close (a.eval x):=LRep.closed (E4 hr t x).1;obtain⟨c1,c2,c3⟩:=B1S hU oN bV;have af:(Aad a.eval o).run P w=.ok (.value (.pointer (J ⟨w.heap.size,0,O⟩))) (w.alloc (.cells (a.eval x).cells t)):=by
  simp[Aad,ag,Ace,newVar,Aau]
 have bZ:(w.alloc (.cells (a.eval x).cells t)).heap[w.heap.size]?=J (.cells (a.eval x).cells t):=by
  have hp:(w.alloc (.cells (a.eval x).cells t)).heap=w.heap.push (.cells (a.eval x).cells t):=rfl;rw[hp];simp
 have aH:∀(j:Nat) u,(a.eval x).cells[j]?=J u->(w.alloc (.cells (a.eval x).cells t)).cell? ⟨w.heap.size,j,O⟩=J u:=λj u hj=>by
  unfold Aak;dsimp only;rw[bZ];simpa using hj
 cases lD:E.mb i with
 |true=>
  rw[lD]at h;simp only[GD]at h;obtain⟨co,h⟩:=A5 h;have co:0<zs.length:=by simpa [HU]using co
  have h1:=hr.alloc hU (.cells (a.eval x).cells t) 0 (w.alloc (.cells (a.eval x).cells t)) rfl rfl rfl rfl;have ba:B9 g.wm w.heap.size 0 w.heap.size=0:=by simp[B9]
  have hx:Ext w g.wm (w.alloc (.cells (a.eval x).cells t)) (B9 g.wm w.heap.size 0):=by
   refine⟨Lo rfl,λb off ho=>?_,λb=>?_⟩;rcases Hv b w.heap.size with h2|h2;refine HK (a:=⟨b,off,O⟩) ?_;have hp:(w.alloc (.cells (a.eval x).cells t)).heap=w.heap.push (.cells (a.eval x).cells t):=rfl;rw[hp,Hp,GI (by show¬b=w.heap.size;omega)];rw[hr.zero b h2]at ho;omega;unfold B9;by_cases hb:b=w.heap.size;subst hb;rw[GJ rfl,hr.zero _ (GU _)];exact HH _;rw[GI hb];exact GU _
  generalize dP:B8 (J i)=nm at*;have h2:=h1.fresh hU nm (.slice (J ⟨w.heap.size,0,O⟩) 0 zs.length) 1
   ⟨_,0,zs.length,rfl,HH _,.inr ⟨w.heap.size,0,(a.eval x).cells,t,(0,0),rfl,bZ,FK,by(show B9 g.wm w.heap.size 0 w.heap.size=_;rw[ba]),HH _⟩⟩
   (λe b he aP hs fG=>by
    simp only[spare]at hs;rw[GI FK]at hs;cases hs;have:=hr.tip e he;obtain⟨c,e',fz,hc⟩:=SF this fG;have:=(HJ.1 hc).1;omega) (λb hs=>by
    simp only[spare]at hs;rw[GI FK]at hs;cases hs;exact .inl hr.size)
  have aD:mem nm (s.fresh nm).live=Z:=by simp only[St.fresh];rw[mem_cons];exact .inl rfl
  have cu:BoxOk E.U (w.alloc (.cells (a.eval x).cells t)) (({g with wm:=B9 g.wm w.heap.size 0}:Gh).put nm (.slice (J ⟨w.heap.size,0,O⟩) 0 zs.length) 1) nm ys:=by
   refine BoxOk.ex w.heap.size (by simp[Gh.put,c2]) FK (by simp[Gh.put]) λj lf hj=>?_;obtain⟨u,u1,u2,u3,u4⟩:=c3 j lf hj;have fI:lf.close=lf:=D01 hU oN hj;refine⟨u,aH j u u1,u2,u3,?_⟩;have:=LRep.closed (U:=E.U) (w:=w.alloc (.cells (a.eval x).cells t)) (g:=(({g with wm:=B9 g.wm w.heap.size 0}:Gh).put nm (.slice (J ⟨w.heap.size,0,O⟩) 0 zs.length) 1)) (lf:=lf) (v:=u) (u4.1.mono hU hx);rw[fI]at this;exact this
  have h3:=h2.setBx cu aD;refine K9 af (hn _ _ _ _ h ?_);rw[aV]at hd ⊢;exact REL.setO h3 (e:=.one (.ptr nm 0)) ⟨.pt _ _ _,λ_ _ _ he=>by(cases he),λd' o2 he=>by(cases he;exact⟨w.heap.size,zs.length,by simp[Gh.put],.inl ⟨rfl,GO⟩⟩)⟩ rfl (J i) hd
 |false=>
  rw[lD]at h;simp only[GF]at h;split at h;rename_i u y BZ;obtain⟨aw,h⟩:=A5 h;have aw:=(D5 _ _).1 aw;rw[BZ]at oN;obtain⟨_,h9⟩:=A5 (show(bif Aab (E.U.size u) zs.length then J (E.U.cells u y)else O)=J ys from oN);cases h9;have h1:=hr.alloc hU (.cells (a.eval x).cells t) (E.U.size u) (w.alloc (.cells (a.eval x).cells t)) rfl rfl rfl rfl;have hx:Ext w g.wm (w.alloc (.cells (a.eval x).cells t)) (B9 g.wm w.heap.size (E.U.size u)):=by
   refine⟨Lo rfl,λb off ho=>?_,λb=>?_⟩;rcases Hv b w.heap.size with h2|h2;refine HK (a:=⟨b,off,O⟩) ?_;have hp:(w.alloc (.cells (a.eval x).cells t)).heap=w.heap.push (.cells (a.eval x).cells t):=rfl;rw[hp,Hp,GI (by show¬b=w.heap.size;omega)];rw[hr.zero b h2]at ho;omega;unfold B9;by_cases hb:b=w.heap.size;subst hb;rw[GJ rfl,hr.zero _ (GU _)];exact HH _;rw[GI hb];exact GU _
  refine K9 af (hn _ _ _ _ h ?_);refine REL.setO h1 (e:=.one (.elem u y 0)) ⟨?_,λ_ _ _ he=>by(cases he),λ_ _ he=>by(cases he)⟩ rfl _ hd;refine CRep.elem (U:=E.U) u y 0 w.heap.size 0 (λj=>((a.eval x).cells[j]?).getD undef) (by simp[B9]) (λj lf hj=>?_) (λj lf hj=>?_);obtain⟨uu,u1,_,_,u4⟩:=c3 j lf hj;rw[HL];show _=J (((a.eval x).cells[j]?).getD undef);rw[u1];exact aH j uu u1;obtain⟨uu,u1,_,_,u4⟩:=c3 j lf hj;show CRep _ _ _ lf (((a.eval x).cells[j]?).getD undef);rw[u1];exact u4.1.mono hU hx;cases h
 cases h;cases h
def D6t{x:Aae}(ag:o.op=.nilCheck x)(h:A6 E o s k=J r)(hr:Rel E.U B g s a w)(hd:∀i,o.dst=J i->i<a.tmps.size/\B.np<=i)(hn:G2 E B o a k r next):o.wp P a w next Q:=by
 simp only[A6,ag]at h;have bV:=E4 hr 0 x;split at h;rename_i u y off hx;rw[hx]at bV;generalize hv:a.eval x=v at bV;have hc:=bV.1;cases hc with
 |elem _ _ _ b o' cs ba aH anq=>
  exact E8 (e:=.one (.elem u y off)) (v:=.pointer (J ⟨b,o'+off,O⟩)) hr hd hn h bV rfl (by simp[Aad,ag,hv])
 rename_i d off hx;rw[hx]at bV;obtain⟨b,m,hG,hv⟩:=bV.2.2 d off rfl;obtain⟨bv,h⟩:=A5 h;have hv:=hv.at bv;exact E8 (e:=.one (.ptr d off)) hr hd hn h bV rfl (by simp[Aad,ag,hv]);cases h
include hU hZ in
def B9l{t:Aaa}{x y:Aae}(ag:o.op=.store t x y)(h:A6 E o s k=J r)(hr:Rel E.U B g s a w)(hd:∀i,o.dst=J i->i<a.tmps.size/\B.np<=i)(hn:G2 E B o a k r next):o.wp P a w next Q:=by
 simp only[A6,ag]at h;split at h;rename_i d off n qu hx er;have dm:∀(ls ys:List (Leaf Ty den)),J1 s d=J ls->((a.eval y).cells.size=n/\ys.length=n/\∀(j:Nat) y0,ys[j]?=J y0->∃u,(a.eval y).cells[j]?=J u/\u.oneCell'=Z/\u.cells= #[u]/\LRep E.U w g y0 u)->off+n<=ls.length->Aac off 1000000=Z->k (.one .any) (s.set (bxi d) (.bx d (P3 ls off ys)))=J r->o.wp P a w next Q:=by
  intro ls ys bu Ca bw bv h;obtain⟨zs,dJ,Cb⟩:∃zs,E.zr t=J zs/\zs.length=n:=by
   unfold tyN at er;split at er;rename_i zs dJ;exact⟨zs,dJ,Hb er⟩;cases er
  obtain⟨ie,z,e1,e2,e3,e4,e5⟩:=hZ t zs dJ;have bV:=E4 hr 0 x;rw[hx]at bV;obtain⟨cu,aD,Cc⟩:=Ml hr bu;obtain⟨b,nb,hG,hv,co,dh,aQ⟩:=SJ bv bV cu;obtain⟨c1,c2,c3⟩:=Ca;have bc:spare (g.G d)=J b:=by rw[hG];simp only[spare];rw[GI FK]
  obtain⟨a0,len,cap,fb,_,gD⟩:=hr.tip d aD;rw[hG]at fb;cases fb;obtain⟨b',kM,c,e,fz,ha,hb,r1,r2,r3⟩:=gD.resolve_left FK;cases ha;rw[dh]at r1 r2;have ba:g.wm b=0:=by rw[r2]
  obtain⟨s1,⟨c',s2,s3,s4,s5⟩,s6,s7,s8,s9,jR⟩:=Px P b e fz (a.eval y).cells.toList off w c hb (by simp[c1];omega) (λj _ h2=>FK) (λv dE=>by
   obtain⟨j,hj,rfl⟩:=II dE;have oO:j<ys.length:=by simp at hj;omega
   obtain⟨u,u1,u2,_⟩:=c3 j _ (GE oO);have:(a.eval y).cells.toList[j]=u:=by
    have h5:(a.eval y).cells.toList[j]?=J u:=by simpa using u1
    rw[GE hj]at h5;exact Hb h5
   rw[this];exact u2)
  have dg:=s1 ⟨b,off,O⟩ 0 rfl (HH _);obtain⟨ci,zM⟩:=(hr.noBx d).poke hU (d:=d) (b:=b) aD bc (λi l hc=>by
   rw[F2]at hc;by_cases hi:bxi d=i;rw[GJ hi]at hc;cases hc;rw[GI hi]at hc;exact hi (hr.bxl i d l hc).2.symm) ba (w':=C7 w b off (a.eval y).cells.toList) hb s2 s3 s8 s9 jR s6 s7
  obtain⟨m1,m2⟩:=B1R ls off ys FK;have bZ:BoxOk E.U (C7 w b off (a.eval y).cells.toList) g d (P3 ls off ys):=by
   refine⟨b,nb,hG,by rw[m1];exact co,dh,λj lf hj=>?_⟩;rw[m2,c2]at hj;by_cases dj:off<=j/\j<off+n;rw[GJ dj]at hj;obtain⟨u,u1,u2,u3,u4⟩:=c3 _ _ hj;refine⟨u,?_,u2,u3,u4.same hU zM rfl rfl⟩;have:=s5 (j - off) u (by simpa using u1);rw[show off+(j - off)=j from FK]at this;simp[Aak,s2,this];rw[GI dj]at hj;obtain⟨u,u1,u2,u3,u4⟩:=aQ j lf hj;refine⟨u,?_,u2,u3,u4.same hU zM rfl rfl⟩;have h6:=s4 j (by simp[c1];omega);simp only[Aak,hb]at u1;simp only[Aak,s2,h6];exact u1
  have h3:=ci.setBx bZ aD;have eT:∀i,((s.set (bxi d) (.one .any)).set (bxi d) (.bx d (P3 ls off ys))).get i=(s.set (bxi d) (.bx d (P3 ls off ys))).get i:=λi=>by
   rw[F2,F2,F2];by_cases hi:bxi d=i;rw[GJ hi,GJ hi];rw[GI hi,GI hi,GI hi]
  have h4:Rel E.U B g (s.set (bxi d) (.bx d (P3 ls off ys))) a (C7 w b off (a.eval y).cells.toList):=h3.weaken (λi=>.inr (eT i).symm) (λ_ hd=>hd) (λ_ _ _ _ hd=>hd);have aw:(Aaq t).run P w=.ok n w:=by simp[Aaq,Aaj,e1,e2,Cb]
  have af:(Aad a.eval o).run P w=.ok .skip (C7 w b off (a.eval y).cells.toList):=by
   simp[Aad,ag,hv,Instr.storeAt,Aa0,storeVar,aw,c1,dg]
  unfold Abt;rw[af,Oper.upon_skip];have:=hn (.one .any) _ undef _ h (by rw[qu];exact⟨g,h4⟩);rw[qu]at this ⊢;exact this
 split at h;rename_i ys qp;have aK:=Pz hr t y;rw[qp]at aK;obtain⟨vs,hv,dt,bR⟩:=aK;have pU:=dt.length;split at h;rename_i ls bu;obtain⟨hc,h⟩:=A5 h;simp only[Fn]at hc;have Cd:=(D5 _ _).1 hc.1;refine dm ls ys bu ⟨by rw[hv];simp[Aa7];omega,Cd,λj y0 hj=>?_⟩ (Hu hc.2.1) hc.2.2 h;obtain⟨u,u1,u2⟩:=dt.get hj;obtain⟨k1,k2⟩:=bR u (HI u1);exact⟨u,by rw[hv];simpa [Aa7]using u1,k1,k2,u2⟩;cases h;split at h;rename_i ls ys bu oN;obtain⟨bw,h⟩:=A5 h;rw[Fn]at bw;exact dm ls ys bu (B1S hU oN (E4 hr t y)) (Hu bw.1) bw.2 h;cases h;cases h
end
end Go.Aev
end
section
open Go.Lib
namespace Go.Aev
variable {Ty:Type}{den:Ty->Type}
def D3:Nat->St Ty den->List Aam->List (Nat×Nat)
 |_,_,[]=>[]
 |j,s,.tmp t::r=>match s.get t with
  | .one (.sl _ _ (J d))=>bif mem d s.live then(bif Aab d 0 then 0 else j+1,d)::D3 (j+1) (s.kill d) r else D3 (j+1) (s.kill d) r
  |_=>D3 (j+1) s r
 |j,s,.cell _ _::r=>D3 (j+1) s r
def QQ{s:St Ty den}{d e:Nat}:mem e (s.kill d).live=Z↔mem e s.live=Z/\e≠d:=K7 d e s.live
def YG:∀(rs:List Aam)(j:Nat)(s:St Ty den),
  (∀c d,(c,d)∈D3 j s rs->mem d s.live=Z/\((c=0/\d=0)\/(j+1<=c/\d≠0)))/\
  (∀c d c' d',(c,d)∈D3 j s rs->(c',d')∈D3 j s rs->(c=c'↔d=d'))
 |[],j,s=>⟨λc d h=>by simp[D3]at h,λc d c' d' h=>by simp[D3]at h⟩
 | .cell _ _::r,j,s=>by
  obtain⟨h1,h2⟩:=YG r (j+1) s;simp only[D3];exact⟨λc d h=>by obtain⟨k1,k2⟩:=h1 c d h;exact⟨k1,k2.imp id λk3=>⟨FK,k3.2⟩⟩,h2⟩
 | .tmp t::r,j,s=>by
  have skip:∀(s':St Ty den),(∀e,mem e s'.live=Z->mem e s.live=Z)->D3 j s (.tmp t::r)=D3 (j+1) s' r->
    (∀c d,(c,d)∈D3 j s (.tmp t::r)->mem d s.live=Z/\((c=0/\d=0)\/(j+1<=c/\d≠0)))/\(∀c d c' d',(c,d)∈D3 j s (.tmp t::r)->(c',d')∈D3 j s (.tmp t::r)->(c=c'↔d=d')):=by
   intro s' hl he;obtain⟨h1,h2⟩:=YG r (j+1) s';rw[he];exact⟨λc d h=>by obtain⟨k1,k2⟩:=h1 c d h;exact⟨hl d k1,k2.imp id λk3=>⟨FK,k3.2⟩⟩,h2⟩
  cases hg:s.get t with
  |one l=>
   cases l with
   |sl t0 x o=>
    cases o with
    |none=>exact skip s (λ_ h=>h) (by simp only[D3,hg])
    |some d=>
     cases hm:mem d s.live with
     |false=>exact skip (s.kill d) (λ_ h=>(QQ.1 h).1) (by simp only[D3,hg,hm,GF])
     |true=>
      obtain⟨h1,h2⟩:=YG r (j+1) (s.kill d);have he:D3 j s (.tmp t::r)=(bif Aab d 0 then 0 else j+1,d)::D3 (j+1) (s.kill d) r:=by simp only[D3,hg,hm,GD]
      rw[he];have hc:((bif Aab d 0 then 0 else j+1)=0/\d=0)\/(j+1<=(bif Aab d 0 then 0 else j+1)/\d≠0):=by
       by_cases h0:d=0;subst h0;left;exact⟨by simp[G4],rfl⟩;right;rw[I2 h0];exact⟨GN,h0⟩
      have oY:∀c' d',(c',d')∈D3 (j+1) (s.kill d) r->(bif Aab d 0 then 0 else j+1)≠c'/\d≠d':=by
       intro c' d' h';obtain⟨k1,k2⟩:=h1 c' d' h';have k3:=(QQ.1 k1).2;refine⟨?_,IC k3⟩;rcases hc with⟨e1,e2⟩|⟨e1,e2⟩;rw[e1];rcases k2 with⟨f1,f2⟩|⟨f1,f2⟩;exact absurd (f2.trans e2.symm) k3;omega;have e3:(bif Aab d 0 then 0 else j+1)=j+1:=by rw[I2 e2];rfl
       rw[e3];rcases k2 with⟨f1,f2⟩|⟨f1,f2⟩;omega;omega
      refine⟨λc d' h=>?_,λc d1 c' d2 h h'=>?_⟩;simp only[HC,He]at h;rcases h with⟨rfl,rfl⟩|h;exact⟨hm,hc⟩;obtain⟨k1,k2⟩:=h1 c d' h;exact⟨(QQ.1 k1).1,k2.imp id λk3=>⟨FK,k3.2⟩⟩;simp only[HC,He]at h h';rcases h with⟨rfl,rfl⟩|h;rcases h' with⟨rfl,rfl⟩|h';simp;obtain⟨k1,k2⟩:=oY c' d2 h';exact⟨λe=>absurd e k1,λe=>absurd e k2⟩;rcases h' with⟨rfl,rfl⟩|h';obtain⟨k1,k2⟩:=oY c d1 h;exact⟨λe=>absurd e.symm k1,λe=>absurd e.symm k2⟩;exact h2 c d1 c' d2 h h'
   |_=>exact skip s (λ_ h=>h) (by simp only[D3,hg])
  |tup ls=>exact skip s (λ_ h=>h) (by simp only[D3,hg])
  |st ls=>exact skip s (λ_ h=>h) (by simp only[D3,hg])
  |iter c p=>exact skip s (λ_ h=>h) (by simp only[D3,hg])
  |bx d' ls=>exact skip s (λ_ h=>h) (by simp only[D3,hg])
section
variable {U:UO Ty den}{B:Bs}{g:Gh}{s:St Ty den}{a:Act}{w:World}
def PackRep(U:UO Ty den)(w:World)(g:Gh)(N:List (Nat×Nat)):List (Leaf Ty den)->Gw->Prop
 |[],[]=>True
 |l::ls,v::vs=>(CRep U w g.wm l v/\(∀t x c,l=.sl t x (J c)->∃d,(c,d)∈N/\v=g.G d/\U.size t=g.Gs d/\TyB U w t v)/\∀c o,l=.ptr c o->∃d b n,(c,d)∈N/\g.G d=.slice (J ⟨b,0,O⟩) 0 n/\PtrAt U w b n o v)/\PackRep U w g N ls vs
 |_,_=>False
def PackRep.mono{N N':List (Nat×Nat)}(h:∀p∈N,p∈N'):∀{ls:List (Leaf Ty den)}{vs:Gw},PackRep U w g N ls vs->PackRep U w g N' ls vs
 |[],[],_=>trivial
 |_::_,_::_,hp=>⟨⟨hp.1.1,λt x c he=>by(obtain⟨d,h1,h2⟩:=hp.1.2.1 t x c he;exact⟨d,h _ h1,h2⟩),λc o he=>by(obtain⟨d,b,n,h1,h2⟩:=hp.1.2.2 c o he;exact⟨d,b,n,h _ h1,h2⟩)⟩,PackRep.mono h hp.2⟩
 |[],_::_,hp=>hp.elim
 |_::_,[],hp=>hp.elim
def PackRep.append{N:List (Nat×Nat)}:∀{ls cf:List (Leaf Ty den)}{vs ny:Gw},PackRep U w g N ls vs->PackRep U w g N cf ny->PackRep U w g N (ls++cf) (vs++ny)
 |[],_,[],_,_,h=>h
 |_::_,_,_::_,_,hp,h=>⟨hp.1,PackRep.append hp.2 h⟩
 |[],_,_::_,_,hp,_=>hp.elim
 |_::_,_,[],_,hp,_=>hp.elim
structure B6D(a:Act)(f:Aam->Sem Value):Prop where
 tmp:∀t,f (.tmp t)=pure (a.tmps.getD t undef)
 cell:∀t ty,f (.cell t ty)=do Aar ty (<-asAddr (a.tmps.getD t undef))
def C0l{U:UO Ty den}(hU:U.Ok)(hX:Mk U){u:Ty}:∀{n:Nat}{ls:List (Leaf Ty den)}{l:List (den u)},Xx U u n ls=J l->l.length=n/\∀(w:World)(wm:Nat->Nat)(cs:Nat->Value),(∀(j:Nat) lf,ls[j]?=J lf->CRep U w wm lf (cs j))->∀(j:Nat) lf,(flat U u l)[j]?=J lf->CRep U w wm lf (cs j)
 |0,ls,l,h=>by
  simp only[Xx,GX]at h;subst h;exact⟨rfl,λ_ _ _ _ j lf hj=>by simp[flat]at hj⟩
 |n+1,ls,l,h=>by
  simp only[Xx]at h;split at h;rename_i x r hx hr;cases h;obtain⟨h1,h2⟩:=hX u _ x hx;obtain⟨h3,h4⟩:=C0l hU hX hr;refine⟨by simp[h3],λw wm cs hc j lf hj=>?_⟩;have aA:=hU.len u x;rw[show flat U u (x::r)=U.cells u x++flat U u r from rfl]at hj;by_cases bD:j<U.size u;rw[HV FK]at hj;exact h2 w wm cs (λi lf' hi=>by
   rw[Hn]at hi;split at hi;exact hc i lf' hi;cases hi) j lf hj
  rw[Hk FK,aA]at hj;have:=h4 w wm (λi=>cs (U.size u+i)) (λi lf' hi=>hc _ lf' (by rw[IE]at hi;exact hi)) (j - U.size u) lf hj;rw[show U.size u+(j - U.size u)=j from FK]at this;exact this;cases h
def C7i{E:Env Ty den}{P:Aag}(hT:∀t,M4 P E.U t (E.tb t))(hU:E.U.Ok)(hX:Mk E.U)(hr:Rel E.U B g s a w){ty:Aaa}{l l':Leaf Ty den}{v:Value}(hx:LRep E.U w g l v)(h:B4C E s ty l=J l'):
  ∃ad v',v=.pointer (J ad)/\(Aar ty ad).run P w=.ok v' w/\CRep E.U w g.wm l' v'/\∃u z,l'=.agg u z:=by
 unfold B4C at h;split at h;rename_i u pl d off ht;obtain⟨fs,ie,z0,h1,_,h3,h4,_⟩:=OG hT ht;have iP:=B5c (P:=P) h1 w;split at h;rename_i ls bu;obtain⟨bv,h⟩:=A5 h;obtain⟨cu,_,_⟩:=Ml hr bu;obtain⟨b,nb,hG,hv,co,dh,aQ⟩:=SJ bv hx cu;have dm:∀(u':Ty)(z:den u'),E.U.size u'=E.U.size u->(D0 ((ls.drop off).take (E.U.size u))).length=E.U.size u->
   (∀cs:Nat->Value,(∀(j:Nat) lf,(D0 ((ls.drop off).take (E.U.size u)))[j]?=J lf->CRep E.U w g.wm lf (cs j))->∀(j:Nat) lf,(E.U.cells u' z)[j]?=J lf->CRep E.U w g.wm lf (cs j))->
   ∃ad v',v=.pointer (J ad)/\(Aar ty ad).run P w=.ok v' w/\CRep E.U w g.wm (.agg u' z) v':=λu' z aw vB fR=>by
  have aY:∀(j:Nat) lf,(D0 ((ls.drop off).take (E.U.size u)))[j]?=J lf->∃l0,ls[off+j]?=J l0/\lf=l0.close:=λj lf hj=>by
   rw[B3d,Hn,IE]at hj;split at hj;obtain⟨l0,h5,rfl⟩:=Hi.1 hj;exact⟨l0,h5,rfl⟩;cases hj
  have cN:∀(j:Nat) lf,(D0 ((ls.drop off).take (E.U.size u)))[j]?=J lf->w.cell? ⟨b,off+j,O⟩=J ((w.cell? ⟨b,off+j,O⟩).getD undef)/\CRep E.U w g.wm lf ((w.cell? ⟨b,off+j,O⟩).getD undef):=λj lf hj=>by
   obtain⟨l0,h5,rfl⟩:=aY j lf hj;obtain⟨uu,u1,_,_,u4⟩:=aQ _ _ h5;rw[u1];exact⟨rfl,u4.1.close⟩
  have dk:(Aav ⟨b,off,O⟩ (E.U.size u)).run P w=.ok ((Aao (E.U.size u)).map λj=>(w.cell? ⟨b,off+j,O⟩).getD undef).toArray w:=
   Abn w _ _ _ λj hj=>by rw[Hw];exact(cN j _ (GE FK)).1
  refine⟨_,.agg ((Aao (E.U.size u)).map λj=>(w.cell? ⟨b,off+j,O⟩).getD undef).toArray,hv,by simp[Aar,iP,Aaq,Aaj,h3,h4,dk],.agg u' z _ (by simp[aw]) _ (λj lf hj=>?_) (fR _ λj lf hj=>(cN j lf hj).2)⟩;have bD:=G7 hj;rw[hU.len,aw]at bD;rw[HG,Ho bD];rfl
 split at h;rename_i u' _;obtain⟨hs,h⟩:=A5 h;have hs:=(D5 _ _).1 hs;obtain⟨z,hz,rfl⟩:=Hi.1 h;obtain⟨q1,q2⟩:=hX u' _ z hz;obtain⟨ad,v',e1,e2,e3⟩:=dm u' z hs (by rw[q1,hs]) (q2 w g.wm);exact⟨ad,v',e1,e2,e3,u',z,rfl⟩;obtain⟨z,hz,rfl⟩:=Hi.1 h;have sy:=hU.dec _ _ _ hz;obtain⟨ad,v',e1,e2,e3⟩:=dm u z rfl (by rw[<-sy,hU.len]) (λcs hc=>by rw[sy];exact hc);exact⟨ad,v',e1,e2,e3,u,z,rfl⟩;cases h;cases h
def C9w(E:Env Ty den)(d:Nat)(ls:List (Leaf Ty den))(fr:List (Nat×Ent Ty den))(i:Nat):look (VF E d ls fr) i=Pw E d ls (look fr i):=by
 induction fr with
 |nil=>rfl
 |cons p r ih=>
  simp only[VF,look];cases Aab p.1 i with
  |true=>rfl
  |false=>exact ih
def D30{E:Env Ty den}(hU:E.U.Ok)(hX:Mk E.U)(hr:Rel E.U B g s a w){d:Nat}{ls:List (Leaf Ty den)}(bu:J1 s d=J ls):∃g',Rel E.U B g' {fr:=VF E d ls s.fr,live:=rem d s.live} a w:=by
 obtain⟨cu,aD,aY⟩:=Ml hr bu;obtain⟨b,n,hG,⟨dq,vB,_⟩,dh,aQ⟩:=cu;have bc:spare (g.G d)=J b:=by rw[hG];simp only[spare];rw[GI FK]
 obtain⟨a0,len,cap,fb,_,gD⟩:=hr.tip d aD;rw[hG]at fb;cases fb;obtain⟨b',kM,c,e2,fz,ha,hb,r1,r2,r3⟩:=gD.resolve_left FK;cases ha;rw[dh]at r1 r2;have ba:g.wm b=0:=by rw[r2]
 have sx:=(HJ.1 hb).1;have aP:∀k,k≠b->B9 g.wm b ls.length k=g.wm k:=λk hk=>by simp only[B9];rw[GI hk]
 have hx:Ext w g.wm w (B9 g.wm b ls.length):=⟨VI rfl,λ_ _ _=>rfl,λk=>by
  by_cases hk:k=b;subst hk;rw[ba];exact HH _;rw[aP k hk];exact GU _⟩
 have wA:g.off {g with wm:=B9 g.wm b ls.length} d:=⟨λ_ _=>rfl,λ_ _=>rfl⟩;have mo:∀{lf:Leaf Ty den}{v:Value},LRep E.U w g lf v->LRep E.U w {g with wm:=B9 g.wm b ls.length} (Rz E d ls lf) v:=by
  intro lf v h;have dg:=LRep.step hU (g':={g with wm:=B9 g.wm b ls.length}) hx wA h;have iU:LRep E.U w {g with wm:=B9 g.wm b ls.length} .any v:=LRep.any v;cases lf with
  |ptr e off=>
   simp only[Rz];by_cases he:e=d;subst he;rw[G4];simp only[GD];rw[show Aah 1000000000 off=isR (.ptr 0 off:Leaf Ty den)from rfl];cases ho:isR (.ptr 0 off:Leaf Ty den)with
   |false=>exact iU
   |true=>
    simp only[GD];split;rename_i u hu;cases hg:Aab (E.U.size u) (rS off)&&Aah (rN off*rS off) ls.length with
    |false=>exact iU
    |true=>
     simp only[GD];split;rename_i l hl;rw[Fn]at hg;have hs:=(D5 _ _).1 hg.1;have bw:=Hu hg.2;obtain⟨b2,n2,h1,h2⟩:=h.2.2 e off rfl;rw[hG]at h1;cases h1;obtain⟨c2,rfl,gN,fF⟩:=h2.row (Hu ho);obtain⟨k1,k2⟩:=C0l hU hX hl;rw[<-k1]at gN bw ⊢;have cN:∀(j:Nat) lf,(D0 ls)[j]?=J lf->CRep E.U w (B9 g.wm b ls.length) lf ((w.cell? ⟨b,j,O⟩).getD undef):=λj lf hj=>by
      rw[B3d]at hj;obtain⟨l0,h5,rfl⟩:=Hi.1 hj;obtain⟨uu,u1,_,_,u4⟩:=aQ j l0 h5;rw[u1];exact u4.1.close.mono hU hx
     have eK:=Ln hU u l;refine⟨.sl u l O b 0 c2 (λj=>(w.cell? ⟨b,j,O⟩).getD undef) gN (by show _<=B9 g.wm b ls.length b;simp only[B9,GJ];rw[hs];omega) (λj lf hj=>?_) (k2 w _ _ cN),λ_ _ _ he=>by(cases he),λ_ _ he=>by(cases he)⟩;have bD:=G7 hj;rw[eK,hs]at bD;obtain⟨uu,u1,_⟩:=aQ j _ (GE FK);rw[HL,u1];rfl;exact iU
    exact iU
   rw[I2 he];simp only[Leaf.strip,I2 he]at dg;exact dg
  |_=>exact dg
 have sW:∀{xs:List (Leaf Ty den)}{vs:Gw},LsRep E.U w g xs vs->LsRep E.U w {g with wm:=B9 g.wm b ls.length} (xs.map (Rz E d ls)) vs:=by
  intro xs
  induction xs with
  |nil=>
   intro vs h;cases vs with
   |nil=>trivial
   |cons v vs=>exact h.elim
  |cons x xs ih=>
   intro vs h;cases vs with
   |nil=>exact h.elim
   |cons v vs=>exact⟨mo h.1,ih h.2⟩
 have fa:∀i,({fr:=VF E d ls s.fr,live:=rem d s.live}:St Ty den).get i=Pw E d ls (s.get i):=λi=>C9w E d ls s.fr i;have wB:∀e,mem e s.live=Z->e≠d->spare (g.G e)≠J b:=λe he iF h=>hr.disj e d b he aD iF h bc;refine⟨{g with wm:=B9 g.wm b ls.length},{hr with frame:=λk hk hM=>?_,ext:=hr.ext.trans hx,zero:=λk hk=>?_,ent:=λi=>?_,tip:=λe he=>?_,disj:=λe f k he hf=>hr.disj e f k ((K7 d e _).1 he).1 ((K7 d f _).1 hf).1,mine:=λe k he=>hr.mine e k ((K7 d e _).1 he).1,iter:=λi c pos hc=>?_,idis:=λi j c p c' p' cJ h1 h2=>?_,bxl:=λi e xs hc=>?_}⟩
 have Ce:k≠b:=λh=>by
  subst h;rcases hr.mine d k aD bc with h|h;omega;exact hM h
 have:=hr.frame k hk hM;exact⟨this.1,(aP k Ce).trans this.2⟩;exact(aP k FK).trans (hr.zero k hk);rw[fa];have he:=hr.ent i;cases hc:s.get i with
 |one l=>rw[hc]at he;exact mo he
 |tup xs=>rw[hc]at he;obtain⟨vs,h1,h2⟩:=he;exact⟨vs,h1,sW h2⟩
 |st xs=>rw[hc]at he;obtain⟨vs,h1,h2,h3⟩:=he;exact⟨vs,h1,sW h2,h3⟩
 |iter c p=>rw[hc]at he;exact he
 |bx e xs=>
  rw[hc]at he;simp only[Pw];by_cases iF:e=d;subst iF;rw[G4];exact ERep.any _ _ _;rw[I2 iF];obtain⟨b1,n1,k1,k2,k3,k4⟩:=he;refine⟨b1,n1,k1,by simpa using k2,k3,λj lf hj=>?_⟩;rw[HG]at hj;obtain⟨l0,dq,rfl⟩:=Hi.1 hj;obtain⟨u,u1,u2,u3,u4⟩:=k4 j l0 dq;exact⟨u,u1,u2,u3,mo u4⟩
 obtain⟨h1,h2⟩:=(K7 d e _).1 he;obtain⟨a1,l1,c1,hv,bw,gD⟩:=hr.tip e h1;refine⟨a1,l1,c1,hv,bw,?_⟩;by_cases il:c1=0;exact .inl il;obtain⟨b1,o1,c3,e3,vC,ha,ob,q1,q2,q3⟩:=gD.resolve_left il;have sX:b1≠b:=λh=>wB e h1 h2 (by rw[hv,ha];simp[spare,il,h]);exact .inr ⟨b1,o1,c3,e3,vC,ha,ob,q1,(aP b1 sX).trans q2,by show vC.2<=B9 g.wm b ls.length b1;rw[aP b1 sX];exact q3⟩
 rw[fa]at hc;refine hr.iter i c pos ?_;cases hs:s.get i with
 |iter c' p'=>rw[hs]at hc;exact hc
 |bx e xs=>rw[hs]at hc;simp only[Pw]at hc;cases hb:Aab e d<;>rw[hb]at hc<;>cases hc
 |_=>rw[hs]at hc;cases hc
 have bm:∀{i c p},Pw E d ls (s.get i)=.iter c p->s.get i=.iter c p:=λ{i c p} hc=>by
  cases hs:s.get i with
  |iter c' p'=>rw[hs]at hc;exact hc
  |bx e xs=>rw[hs]at hc;simp only[Pw]at hc;cases hb:Aab e d<;>rw[hb]at hc<;>cases hc
  |_=>rw[hs]at hc;cases hc
 rw[fa]at h1 h2;exact hr.idis i j c p c' p' cJ (bm h1) (bm h2);rw[fa]at hc;cases hs:s.get i with
 |bx e' mc=>
  rw[hs]at hc;simp only[Pw]at hc;by_cases iF:e'=d;subst iF;rw[G4]at hc;cases hc;rw[I2 iF]at hc;cases hc;obtain⟨h1,h2⟩:=hr.bxl i _ mc hs;exact⟨(K7 d _ _).2 ⟨h1,iF⟩,h2⟩
 |_=>rw[hs]at hc;cases hc
def B4P{E:Env Ty den}(hU:E.U.Ok)(hX:Mk E.U):∀(ds:Gv)(s:St Ty den)(g:Gh),Rel E.U B g s a w->∃g',Rel E.U B g' (Xy E ds s) a w
 |[],s,g,hr=>⟨g,hr⟩
 |d::ds,s,g,hr=>by
  simp only[Xy];split;rename_i ls bu;obtain⟨g',h⟩:=D30 hU hX hr bu;exact B4P hU hX ds _ g' h;exact B4P hU hX ds s g hr
def B0D{E:Env Ty den}{P:Aag}(hT:∀t,M4 P E.U t (E.tb t))(hU:E.U.Ok)(hX:Mk E.U):∀(rs:List Aam)(j:Nat)(s:St Ty den)(ls:List (Leaf Ty den)),X4 E j s rs=J ls->Rel E.U B g s a w->
  ∃vs,PackRep E.U w g (D3 j s rs) ls vs/\(∀f,B6D a f->(rs.mapM f).run P w=.ok vs w)/\Rel E.U B g (I1 s rs) a w
 |[],j,s,ls,h,hr=>by
  simp only[X4,GX]at h;subst h;exact⟨[],trivial,λf _=>rfl,hr⟩
 | .cell t ty::r,j,s,ls,h,hr=>by
  simp only[X4]at h;split at h;rename_i l hg;split at h;rename_i l' cf dX wC;cases h;have aK:=hr.ent t;rw[hg]at aK;obtain⟨ad,v',e1,e2,e3,u,z,rfl⟩:=C7i (P:=P) hT hU hX hr aK dX;obtain⟨vs,h1,h2,h3⟩:=B0D hT hU hX r (j+1) s cf wC hr;refine⟨v'::vs,⟨⟨e3,λ_ _ _ he=>by(cases he),λ_ _ he=>by(cases he)⟩,h1⟩,λf hf=>?_,h3⟩;rw[JY,hf.cell,e1];have e4:(Aar ty ad).run P w=.ok v' w:=e2;simp[asAddr,e4,h2 f hf];cases h;cases h
 | .tmp t::r,j,s,ls,h,hr=>by
  simp only[X4]at h;have aK:=hr.ent t;cases hg:s.get t with
  |tup l=>rw[hg]at h;cases h
  |st l=>rw[hg]at h;cases h
  |iter c p=>rw[hg]at h;cases h
  |bx d' ls=>rw[hg]at h;cases h
  |one l=>
   rw[hg]at h aK;dsimp only at h;have bQ:∀(s':St Ty den)(cf:List (Leaf Ty den))(l':Leaf Ty den),Rel E.U B g s' a w->X4 E (j+1) s' r=J cf->ls=l'::cf->(∀p∈D3 (j+1) s' r,p∈D3 j s (.tmp t::r))->I1 s (.tmp t::r)=I1 s' r->
     (CRep E.U w g.wm l' (a.tmps.getD t undef)/\(∀t0 x c,l'=.sl t0 x (J c)->∃d,(c,d)∈D3 j s (.tmp t::r)/\a.tmps.getD t undef=g.G d/\E.U.size t0=g.Gs d/\TyB E.U w t0 (a.tmps.getD t undef))/\∀d o,l'≠ .ptr d o)->
     ∃vs,PackRep E.U w g (D3 j s (.tmp t::r)) ls vs/\(∀f,B6D a f->((ResultVar.tmp t::r).mapM f).run P w=.ok vs w)/\Rel E.U B g (I1 s (.tmp t::r)) a w:=by
    intro s' cf l' bU hp he dx hS dX;obtain⟨vs,h1,h2,h3⟩:=B0D hT hU hX r (j+1) s' cf hp bU;subst he;refine⟨a.tmps.getD t undef::vs,⟨⟨dX.1,dX.2.1,λc o he=>absurd he (dX.2.2 c o)⟩,h1.mono dx⟩,λf hf=>?_,by rw[hS];exact h3⟩;rw[JY,hf.tmp];simp[h2 f hf]
   cases l with
   |sl t0 x o=>
    cases o with
    |none=>
     cases hp:X4 E (j+1) s r with
     |none=>rw[hp]at h;cases h
     |some cf=>
      rw[hp]at h;simp only[IJ,GX]at h;exact bQ s cf _ hr hp h.symm (λp hp=>by simp only[D3,hg];exact hp) (by simp only[I1,hg]) ⟨aK.1,λ_ _ _ he=>by(simp[VE]at he),λ_ _ he=>by(cases he)⟩
    |some d=>
     dsimp only at h;cases hp:X4 E (j+1) (s.kill d) r with
     |none=>rw[hp]at h;cases h
     |some cf=>
      rw[hp]at h;simp only[IJ,GX]at h;cases hm:mem d s.live with
      |false=>
       refine bQ (s.kill d) cf _ (hr.kill hU d) hp h.symm (λp hp=>by simp only[D3,hg,hm,GF];exact hp) (by simp only[I1,hg]) ?_;simp only[VE,hm,GF];exact⟨aK.1.own O,λ_ _ _ he=>by(simp at he),λ_ _ he=>by(cases he)⟩
      |true=>
       refine bQ (s.kill d) cf _ (hr.kill hU d) hp h.symm (λp hp=>by simp only[D3,hg,hm,GD];exact Ha _ hp) (by simp only[I1,hg]) ?_;simp only[VE,hm,GD];refine⟨aK.1.own _,λt1 x1 c he=>?_,λ_ _ he=>by(cases he)⟩;simp only[Leaf.sl.injEq,GX]at he;obtain⟨rfl,_,rfl⟩:=he;exact⟨d,by simp only[D3,hg,hm,GD];exact HO,aK.2.1 _ _ d rfl⟩
   |ptr d0 o0=>
    cases hp:X4 E (j+1) s r with
    |none=>rw[hp]at h;cases h
    |some cf=>
     rw[hp]at h;simp only[IJ,GX]at h;exact bQ s cf _ hr hp h.symm (λp hp=>by simp only[D3,hg];exact hp) (by simp only[I1,hg]) ⟨.any _,λ_ _ _ he=>by(simp[VE]at he),λ_ _ he=>by(cases he)⟩
   |_=>
    cases hp:X4 E (j+1) s r with
    |none=>rw[hp]at h;cases h
    |some cf=>
     rw[hp]at h;simp only[IJ,GX]at h;exact bQ s cf _ hr hp h.symm (λp hp=>by simp only[D3,hg];exact hp) (by simp only[I1,hg]) ⟨aK.1,λ_ _ _ he=>by(simp[VE]at he),λ_ _ he=>by(cases he)⟩
def R0(vs:Gw):Value:=if h:vs.length=1 then vs[0]else .tuple vs.toArray
def VS(P:Aag)(fn:Func)(a:Act)(w:World)(rs:List Aam)(nA:fn.results.toList=rs){vs:Gw}(ht:∀f,B6D a f->(rs.mapM f).run P w=.ok vs w):
  (Abc fn a.tmps).run P w=.ok (R0 vs) w:=by
 have h1:fn.results=rs.toArray:=by rw[<-nA]
 unfold Abc;rw[h1,List.mapM_toArray];simp only[Ab3,Sem.run_map];rw[ht _ ⟨λ_=>rfl,λ_ _=>rfl⟩];simp[R0]
def PackRep.length{N:List (Nat×Nat)}:∀{ls:List (Leaf Ty den)}{vs:Gw},PackRep U w g N ls vs->ls.length=vs.length
 |[],[],_=>rfl
 |_::_,_::_,h=>by simp[PackRep.length h.2]
 |[],_::_,hp=>hp.elim
 |_::_,[],hp=>hp.elim
def K3(g:Gh)(N:List (Nat×Nat)):Gh:=
 {wm:=g.wm,ib:=g.ib,G:=λc=>match N.find? (λp=>p.1==c)with|J p=>g.G p.2|O=>.bool V,Gs:=λc=>match N.find? (λp=>p.1==c)with|J p=>g.Gs p.2|O=>0}
def SN{g:Gh}{N:List (Nat×Nat)}(hN:∀c d c' d',(c,d)∈N->(c',d')∈N->(c=c'↔d=d')){c d:Nat}(h:(c,d)∈N):(K3 g N).G c=g.G d/\(K3 g N).Gs c=g.Gs d:=by
 have hf:∃p,N.find? (λp=>p.1==c)=J p:=by
  cases hf:N.find? (λp=>p.1==c)with
  |some p=>exact⟨p,rfl⟩
  |none=>
   have:=List.find?_eq_none.1 hf (c,d) h;simp at this
 obtain⟨p,hp⟩:=hf;have h1:=List.mem_of_find?_eq_some hp;have h2:p.1=c:=by simpa using List.find?_some hp
 have h3:p.2=d:=(hN p.1 p.2 c d h1 h).1 h2;simp only[K3,hp,h3,and_self]
def PackRep.out{N:List (Nat×Nat)}(hN:∀c d c' d',(c,d)∈N->(c',d')∈N->(c=c'↔d=d')):∀{ls:List (Leaf Ty den)}{vs:Gw},PackRep U w g N ls vs->LsRep U w (K3 g N) ls vs
 |[],[],_=>trivial
 |_::_,_::_,h=>⟨⟨h.1.1,λt x c he=>by
  obtain⟨d,h1,h2,h3,h4⟩:=h.1.2.1 t x c he;obtain⟨e1,e2⟩:=SN (g:=g) hN h1;exact⟨h2.trans e1.symm,h3.trans e2.symm,h4⟩,λc o he=>by
  obtain⟨d,b,n,h1,h2,h3⟩:=h.1.2.2 c o he;obtain⟨e1,e2⟩:=SN (g:=g) hN h1;exact⟨b,n,e1.trans h2,h3⟩⟩,PackRep.out hN h.2⟩
 |[],_::_,hp=>hp.elim
 |_::_,[],hp=>hp.elim
def PackRep.names{N:List (Nat×Nat)}:∀{ls:List (Leaf Ty den)}{vs:Gw},PackRep U w g N ls vs->∀lf∈ls,∀c,lf.has c=Z->∃d,(c,d)∈N
 |_::_,_::_,h,lf,hl,c,hc=>by
  simp only[HC]at hl;rcases hl with rfl|hl;rcases (Leaf.has_iff c _).1 hc with⟨t,x,he⟩|⟨o,he⟩;obtain⟨d,h1,_⟩:=h.1.2.1 t x c he;exact⟨d,h1⟩;obtain⟨d,_,_,h1,_⟩:=h.1.2.2 c o he;exact⟨d,h1⟩;exact PackRep.names h.2 lf hl c hc
 |[],_::_,hp,_,_,_,_=>hp.elim
 |_::_,[],hp,_,_,_,_=>hp.elim
 |[],[],_,lf,hl,_,_=>by simp at hl
def LsRep.head{l:Leaf Ty den}:∀{vs:Gw}(h:LsRep U w g [l] vs)(hl:0<vs.length),LRep U w g l vs[0]
 |_::_,h,_=>h.1
def B7s{N:List (Nat×Nat)}(hr:Rel U B g s a w)(hN:∀c d c' d',(c,d)∈N->(c',d')∈N->(c=c'↔d=d'))(hl:∀c d,(c,d)∈N->mem d s.live=Z){ls:List (Leaf Ty den)}{vs:Gw}(h1:PackRep U w g N ls vs)
  {r:Ent Ty den}{v:Value}(io:∀c,r.has c=Z↔∃lf∈ls,lf.has c=Z)(vD:r.isIter=V)(anq:∀g',LsRep U w g' ls vs->ERep U w g' r v):Post U B (K3 g N) r v w:=by
 have dP:∀c,r.has c=Z->∃d,(c,d)∈N/\mem d s.live=Z/\(K3 g N).G c=g.G d/\(K3 g N).Gs c=g.Gs d:=λc hc=>by
  obtain⟨lf,dX,ej⟩:=(io c).1 hc;obtain⟨d,hd⟩:=h1.names lf dX c ej;obtain⟨e1,e2⟩:=SN (g:=g) hN hd;exact⟨d,hd,hl c d hd,e1,e2⟩
 refine{os:=hr.os,tape:=hr.tape,output:=hr.output,size:=hr.size,frame:=hr.frame,ext:=hr.ext,zero:=hr.zero,rep:=anq _ (h1.out hN),nit:=vD,tip:=λc hc=>?_,disj:=λc c' b hc cT aP hs=>?_,mine:=λc b hc hs=>?_};obtain⟨d,_,hl,e1,e2⟩:=dP c hc;rw[e1,e2];exact hr.tip d hl;obtain⟨d,hd,hl,e1,_⟩:=dP c hc;obtain⟨d',ek,dX,wD,_⟩:=dP c' cT;rw[e1]at hs;rw[wD];exact hr.disj d d' b hl dX (λe=>aP ((hN c d c' d' hd ek).2 e)) hs;obtain⟨d,hd,hl,e1,_⟩:=dP c hc;rw[e1]at hs;exact hr.mine d b hl hs
variable {E:Env Ty den}{P:Aag}
def D3A(hT:∀t,M4 P E.U t (E.tb t))(hU:E.U.Ok)(hX:Mk E.U){fn:Func}{r:Ent Ty den}(h:B24 E fn.results.toList s=J r)(hr:Rel E.U B g s a w):
  ∃v,(Abc fn a.tmps).run P w=.ok v w/\∃g',Post E.U B g' r v w:=by
 obtain⟨g0,hr⟩:=B4P hU hX E.fzs s g hr;unfold B24 at h;dsimp only at h;generalize Xy E E.fzs s=s at h hr;cases hp:X4 E 0 s fn.results.toList with
 |none=>rw[hp]at h;cases h
 |some ls=>
  rw[hp]at h;obtain⟨vs,h1,h2,_⟩:=B0D (P:=P) hT hU hX fn.results.toList 0 s ls hp hr;obtain⟨zQ,rO⟩:=YG fn.results.toList 0 s;have af:=VS P fn a w fn.results.toList rfl h2;have aA:=h1.length;unfold R0 at af;have mq:∀(hl:ls.length≠1),J (Ent.tup ls)=J r->∃v,(Abc fn a.tmps).run P w=.ok v w/\∃g',Post E.U B g' r v w:=λhl he=>by
   cases he;rw[dif_neg FK]at af;refine⟨_,af,_,B7s hr rO (λc d h=>(zQ c d h).1) h1 (λc=>?_) rfl (λg' sY=>⟨_,rfl,sY⟩)⟩;simp[Ent.has,Hm]
  match ls,h,h1,aA,mq,hp with
  |[],h,_,_,mq,_=>exact mq GN h
  |[l],h,h1,aA,_,hp=>
   simp only[GX]at h;subst h;rw[dif_pos (by simpa using aA.symm)]at af;refine⟨_,af,_,B7s hr rO (λc d h=>(zQ c d h).1) h1 (λc=>by simp[Ent.has]) rfl (λg' sY=>?_)⟩;exact LsRep.head sY _
  |l::l2::cf,h,_,_,mq,_=>exact mq GN h
end
end Go.Aev
end
