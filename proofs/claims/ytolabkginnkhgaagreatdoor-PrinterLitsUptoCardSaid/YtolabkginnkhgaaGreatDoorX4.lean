/- Proved here: lemmas that the claim's text uses. Conditions: those that each lemma states. -/
import Derived.Test.YtolabkginnkhgaaGreatDoorX3
set_option maxRecDepth 100000
set_option linter.unusedVariables false
set_option linter.unusedSimpArgs false
open Go renaming wpList_plain→Ai,wpList_nil→Be,storeCells→Ch,loadVar→Cq,calls_of_wp→Cr
open Go.Proofs.Tryz renaming prog→Ba,f41→Bq,f99→Ci,f7→Do,f17→Dp,f14→Dq,call9→Ec,call8→Ed,call45→Ee,call40→Ef,call12→Eg,call11→Eh
open List renaming length_append→Bb,length_cons→Bj,mem_singleton→Bm,getElem?_eq_getElem→Bn,mem_cons→Bp,append_assoc→Bu,not_mem_nil→Bw,length_nil→Bx,replicate→By,mem_cons_self→Bz,length→Ca,all_eq_true→Cj,mem_map→Cm,mem_cons_of_mem→Cn,drop_length→Co,drop_eq_getElem_cons→Cp,getElem_mem→Cs,drop_zero→Ct,append_nil→Cv,nil_append→Cx,mem_append→Cy,map_cons→Cz,getElem?_append_right→Da,length_singleton→Di,length_replicate→Dj,getElem?_eq_some_iff→Dk,getElem?_append_left→Dl,all_cons→Dm,mem_reverse→Ds,mem_of_mem_drop→Du,length_map→Dv,dropWhile_cons_of_neg→Dw,any_eq_true→Dx,take_zero→El,takeWhile_append_dropWhile→Em,reverse_reverse→En,map_congr_left→Eo,map_append→Ep,flatten_cons→Er,flatMap_cons→Es,eq_nil_of_length_eq_zero→Et,drop_eq_nil_of_le→Eu,dropWhile_cons_of_pos→Ev,dropWhile_append_of_pos→Ew,cons_append→Ey,append_inj→Ez,all_append→Fa
open Nat renaming le_refl→Bd,zero_add→Bf,ble_eq→Dh,add_sub_cancel_left→Dr,zero_le→Ei,lt_or_ge→Ej,lt_of_lt_of_le→Ek
open Option.some renaming injEq→Bg,inj→Cw
open Go.IntKind renaming wrap→Bh
open Prod.mk renaming injEq→Bi,inj→Dg
open Bool renaming and_eq_true→Bl,not_true→Br,not_false→Bt,true_and→Cb,true_or→Cc,or_true→Cd,or_false→Ce,false_or→Cf,false_and→Cg,and_true→Ck,and_false→Cl,or_eq_true→Dc,not_eq_true'→Ea
open Go.Value renaming int→Bo,slice→Eb
open List.cons renaming injEq→Cu
open Int renaming le_refl→Db
open Go.World renaming cell?→Dd
open Go.Value.agg renaming injEq→De
open UInt8 renaming toNat→Df
open Array renaming toList→Dn,replicate→Fb
open Go.Lib renaming repeatL→Dy
open Go.Builtin renaming lenOf→Dz
namespace Go.Aev
open Go.Proofs
def C5(v:LitT):List Value:=[.int .i64 v.kind,D5 v.text,.bool v.block,.slice none 0 0,.slice none 0 0,.int .i64 v.pos.line,.int .i64 v.pos.col]
structure OneI(w0:World)(m0:Nat→Nat)(w:World)(m ρ:Nat→Nat)(cb:Nat)(c:CurT)(ax:Value)(bz bt bv:Nat)(t:A1)(us:List Value):Prop where
 sys:Sys w0 m0 (fun b=>b=cb) w m ρ
 cur:CurB w m cb c ax
 cr:ρ cb=7
 z:Bk w bz (C5 F9)
 zr:ρ bz=1
 t:Bk w bt (L1 t)
 tr:ρ bt=2
 v:Bk w bv us
 vr:ρ bv=3
section
variable {w0 w w':World}{m0 m m' ρ:Nat→Nat}{cb:Nat}{c c':CurT}{ax cN:Value}{bz bt bv:Nat}{t:A1}{us:List Value}
theorem OneI.z0(h:OneI w0 m0 w m ρ cb c ax bz bt bv t us):∀ b,w.heap.size≤b→m b=0:=h.sys.z
theorem OneI.nez(h:OneI w0 m0 w m ρ cb c ax bz bt bv t us):bz≠cb:=fun e=>by have:=h.zr;rw[e,h.cr]at this;cases this
theorem OneI.net(h:OneI w0 m0 w m ρ cb c ax bz bt bv t us):bt≠cb:=fun e=>by have:=h.tr;rw[e,h.cr]at this;cases this
theorem OneI.nev(h:OneI w0 m0 w m ρ cb c ax bz bt bv t us):bv≠cb:=fun e=>by have:=h.vr;rw[e,h.cr]at this;cases this
theorem OneI.stepC(h:OneI w0 m0 w m ρ cb c ax bz bt bv t us)(k:KM w m w' m' (fun b=>b=cb))(hc:CurB w' m' cb c' cN):OneI w0 m0 w' m' (A7 ρ w.heap.size 0) cb c' cN bz bt bv t us:=
 ⟨h.sys.step k (fun b _ hs=>by rw[hs,h.cr];decide) (fun b _ hs=>by rw[hs];exact hc.mz) 0 (fun h=>absurd rfl h),hc,by rw[A5 h.cur.bk.lt];exact h.cr,k.bk h.z h.nez,by rw[A5 h.z.lt];exact h.zr,k.bk h.t h.net,by rw[A5 h.t.lt];exact h.tr,k.bk h.v h.nev,by rw[A5 h.v.lt];exact h.vr⟩
theorem OneI.stepN(h:OneI w0 m0 w m ρ cb c ax bz bt bv t us)(k:KM w m w' m (fun _=>False))(r:Nat):OneI w0 m0 w' m (A7 ρ w.heap.size r) cb c ax bz bt bv t us:=
 ⟨h.sys.stepM k (fun _ _ h=>h.elim) r,h.cur.keep k (fun h=>h),by rw[A5 h.cur.bk.lt];exact h.cr,k.bk h.z (fun h=>h),by rw[A5 h.z.lt];exact h.zr,k.bk h.t (fun h=>h),by rw[A5 h.t.lt];exact h.tr,k.bk h.v (fun h=>h),by rw[A5 h.v.lt];exact h.vr⟩
theorem OneI.setV(h:OneI w0 m0 w m ρ cb c ax bz bt bv t us){off:Nat}{vs:List Value}(aQ:off+vs.length≤us.length)(aF:∀ v∈vs,v.oneCell'=true):
  (Ch ⟨bv,off,none⟩ vs).run Ba w=.ok () (C3 w bv off vs)∧OneI w0 m0 (C3 w bv off vs) m ρ cb c ax bz bt bv t (L0 us off vs):=by
 obtain⟨q1,q2,q3⟩:=h.v.store (m:=m) Ba aQ aF (h.sys.zr bv (by rw[h.vr];decide)) h.z0;refine⟨q1,h.sys.stay q3 (fun b _ hs=>by rw[hs,h.vr];decide),h.cur.keep q3 h.nev.symm,h.cr,q3.bk h.z fun e=>?_,h.zr,q3.bk h.t fun e=>?_,h.tr,q2,h.vr⟩
 ·have:=h.zr;rw[e,h.vr]at this;cases this
 ·have:=h.tr;rw[e,h.vr]at this;cases this
theorem OneI.fin(h:OneI w0 m0 w m ρ cb c ax bz bt bv t us){vs:List Value}(hl:vs.length=7)(aF:∀ v∈vs,v.oneCell'=true):
  (Ch ⟨bz,0,none⟩ vs).run Ba w=.ok () (C3 w bz 0 vs)∧Bk (C3 w bz 0 vs) bz vs∧CurB (C3 w bz 0 vs) m cb c ax∧KM w0 m0 (C3 w bz 0 vs) m (fun b=>b=cb):=by
 obtain⟨q1,q2,q3⟩:=h.z.store (m:=m) Ba (off:=0) (vs:=vs) (by rw[hl];decide) aF (h.sys.zr bz (by rw[h.zr];decide)) h.z0;refine⟨q1,?_,h.cur.keep q3 h.nez.symm,(h.sys.stay q3 (fun b _ hs=>by rw[hs,h.zr];decide)).km⟩;have:L0 (C5 F9) 0 vs=vs:=by
  unfold L0;rw[El,Cx,Bf,hl];simp[C5]
 rw[this]at q2;exact q2
theorem OneI.setAt(h:OneI w0 m0 w m ρ cb c ax bz bt bv t us)(n:Int):
  (Ch ⟨cb,0+1,none⟩ [.int .i64 n]).run Ba w=.ok () (C3 w cb (0+1) [.int .i64 n])∧OneI w0 m0 (C3 w cb (0+1) [.int .i64 n]) m ρ cb {c with at_:=n} ax bz bt bv t us:=by
 obtain⟨q1,q2,q3⟩:=h.cur.bk.store (m:=m) Ba (off:=0+1) (vs:=[.int .i64 n]) (show 0+1+1≤5 by decide) (fun v hv=>by rcases Bm.1 hv with rfl;rfl) h.cur.mz h.z0;exact⟨q1,h.sys.stay q3 (fun b _ hs=>by rw[hs,h.cr];decide),⟨q2,h.cur.tk.mono u6_ok q3.ext,h.cur.mz⟩,h.cr,q3.bk h.z h.nez,h.zr,q3.bk h.t h.net,h.tr,q3.bk h.v h.nev,h.vr⟩
end
theorem A0C(v:LitT):∀ u∈C5 v,u.oneCell'=true:=fun u hu=>by
 simp only[C5,Bp,Bw,or_false]at hu;rcases hu with rfl|rfl|rfl|rfl|rfl|rfl|rfl<;>rfl
def A4A(w0:World)(m0:Nat→Nat)(cb:Nat)(v:LitT)(c:CurT)(Q:Exit→Act→World→Prop):Prop:=
 ∀ a w m ax bz,Tm a 154 [(4,.pointer (some ⟨bz,0,none⟩))]→Bk w bz (C5 v)→KM w0 m0 w m (fun b=>b=cb)→CurB w m cb c ax→Q .ret a w
theorem B6A{w:World}{b:Nat}{t:A1}(h:Bk w b (L1 t)):∀(j:Nat) u,(J5 t.pos)[j]?=some u→w.cell? ⟨b,0+1+j,none⟩=some u:=fun j u hj=>h.cell (j:=0+1+j) (u:=u) (by match j,hj with|0,hj=>exact hj|1,hj=>exact hj)
theorem D0Q{α:Type}{l:List α}{i:Nat}{x:α}(h:l[i]?=some x):i<l.length:=(Dk.1 h).1
theorem A5q{n:Nat}{vs:List Value}(hn:vs.length≤n){fr:List (Nat×Value)}(h:∀ i v,N9 fr i=some v→vs[i]?=some v):Tm {tmps:=vs.toArray++Fb (n - vs.toArray.size) undef,defers:=[]} n fr:=by
 refine⟨by simp;omega,rfl,fun i v hv=>?_⟩;have h1:=h i v hv;have h2:=(Dk.1 h1).1;rw[Array.getD_eq_getD_getElem?,Array.getElem?_append_left (by simpa using h2)];simp[h1]
theorem C4t{w0:World}{m0:Nat→Nat}{cb bz bt bv:Nat}{ae:Bool}{c c0:CurT}{ax:Value}{t:A1}{v0:LitT}{Q:Exit→Act→World→Prop}{a:Act}{w:World}{m ρ:Nat→Nat}(hi:OneI w0 m0 w m ρ cb c ax bz bt bv t (C5 v0))(tm:Tm a 154 [(0,.pointer (some ⟨cb,0,none⟩)),(1,.bool ae),(4,.pointer (some ⟨bz,0,none⟩)),(5,.pointer (some ⟨bt,0,none⟩)),(6,.pointer (some ⟨bv,0,none⟩))])(hQ:A4A w0 m0 cb v0 c.next Q):(A0 Ci [1,1,1,1,1]).wp Ba Q a w:=by
 refine wsq rfl ?_;obtain⟨q1,aT⟩:=hi.setAt (Bh .i64 (c.at_+1));refine A6 33 8 rfl rfl ?_;refine Pm tm fun a tm=>?_;refine Pv tm (A1I tm) fun a tm=>?_;refine Pv tm (C1 tm A6A) fun a tm=>?_;refine Pv tm (D9 tm pl3 rfl rfl (hi.cur.bk.cell rfl)) fun a tm=>?_;refine Pv tm (A1e tm) fun a tm=>?_;refine Pv tm (A1I tm) fun a tm=>?_;refine Pv tm (C1 tm A6A) fun a tm=>?_;refine Ps tm tz3 q1 ?_;refine Wn ?_;refine wsq rfl ?_;obtain⟨q1,q2,q3,q4⟩:=aT.fin (vs:=C5 v0) rfl (A0C v0);refine A6 34 2 rfl rfl ?_;refine Pv tm (I9 tm T4 D8 rfl rfl (us:=C5 v0) rfl (fun j u hj=>by rw[Bf j];exact aT.v.cell hj)) fun a tm=>?_;refine Ps tm D8 q1 ?_;refine Wn ?_;exact P5 rfl (hQ _ _ _ _ _ (tm.sub ⟨rfl,trivial⟩) q2 q4 q3)
theorem B7Y{I:Inv}(hb:HB I){w0:World}{m0:Nat→Nat}{cb bz bt bv:Nat}{ae:Bool}{c c0:CurT}{ax:Value}{t:A1}{v0:LitT}{Q:Exit→Act→World→Prop}{a:Act}{w:World}{m ρ:Nat→Nat}(hI:∀ w m,Ext w0 m0 w m→I w m)(hi:OneI w0 m0 w m ρ cb c ax bz bt bv t (C5 (.mk 0 t.text false [] [] t.pos)))(tm:Tm a 154 [(0,.pointer (some ⟨cb,0,none⟩)),(1,.bool ae),(4,.pointer (some ⟨bz,0,none⟩)),(5,.pointer (some ⟨bt,0,none⟩)),(6,.pointer (some ⟨bv,0,none⟩))])
  (hP:(bif okB [.bool] G1 (f103 t.text c)then some (LitT.mk (bif t.text==[123]then 9 else 8) [] false [] [] t.pos,J9 (f103 t.text c))else none)=some (v0,c0))(hQ:A4A w0 m0 cb v0 c0 Q):(A0 Ci [1,1,1,1,0,0,1,1,1,1,1,1,1,1,1,1,1,1,1,1,1,0]).wp Ba Q a w:=by
 cases cK:okB [.bool] G1 (f103 t.text c)with
 |false=>rw[cK]at hP;cases hP
 |true=>
 rw[cK,cond_true]at hP;simp only[Bg,Bi]at hP;obtain⟨rfl,rfl⟩:=hP;refine wsq rfl ?_;refine A6 27 4 rfl rfl ?_;refine Pm tm fun a tm=>?_;refine Pv tm (C1 tm A2e) fun a tm=>?_;refine Pv tm (D9 tm pl9 rfl rfl (hi.t.cell rfl)) fun a tm=>?_;refine Ai rfl fun K hK=>H6 tm rfl rfl rfl (B3f hb).enter rfl (S4 tm rfl rfl rfl) (Y7 (B3f hb) (ls:=[.str t.text]) (vs:=[D5 t.text]) (ks:=[.bool]) (F:=f103 t.text c) rfl cK (hI _ _ hi.sys.km.ext) hi.z0 ⟨.str _,trivial⟩ rfl hi.cur) ?_;rintro e w1 ⟨m1,rv,fe,rfl,k1,c1,e1⟩;have hi:=hi.stepC k1 c1;obtain⟨v1,rfl,e2⟩:∃ v1,rv=[v1]∧CRep U6 w1 m1 (.bool (lB (gB (f103 t.text c) 0))) v1:=by
  match rv,e1 with
  |[x],⟨e2,_⟩=>exact⟨x,rfl,e2⟩
 refine⟨_,rfl,fun a tm=>hK _ _ ?_⟩;refine Be ?_;have tm:=tm.keep [0,1,4,5,6];show(A0 _ _).wp _ _ _ _;refine wsq rfl ?_;refine A6 28 2 rfl rfl ?_;refine Pv tm (C1 tm V1) fun a tm=>?_;obtain⟨q1,hi⟩:=hi.setV (off:=0+0) (vs:=[.int .i64 8]) (show 0+0+1≤7 by decide) (fun v hv=>by rcases Bm.1 hv with rfl;rfl);refine Ps tm A1p q1 ?_;refine Wn ?_;refine wsq rfl ?_;refine A6 29 2 rfl rfl ?_;refine Pv tm (C1 tm A9E) fun a tm=>?_;obtain⟨q1,hi⟩:=hi.setV (off:=0+1) (vs:=[D5 []]) (show 0+1+1≤7 by decide) (fun v hv=>by rcases Bm.1 hv with rfl;rfl);refine Ps tm tz9 q1 ?_;refine Wn ?_;refine wsq rfl ?_;refine wsq rfl ?_;refine A6 30 3 rfl rfl ?_;refine Pv tm (C1 tm A2e) fun a tm=>?_;refine Pv tm (D9 tm pl9 rfl rfl (hi.t.cell rfl)) fun a tm=>?_;refine Pv tm (T7 tm rfl (i:=t.text) (j:=[123]) rfl rfl) fun a tm=>?_;refine Wn ?_;refine wcn tm rfl _ rfl ?_;have tm:=tm.keep [0,1,4,5,6];cases h9:t.text==[123]with
 |true=>
  rw[if_pos rfl];rw[h9]at hQ;refine A6 31 2 rfl rfl ?_;refine Pv tm (C1 tm V1) fun a tm=>?_;obtain⟨q1,hi⟩:=hi.setV (off:=0+0) (vs:=[.int .i64 9]) (show 0+0+1≤7 by decide) (fun v hv=>by rcases Bm.1 hv with rfl;rfl);refine Ps tm A1p q1 ?_;refine Wn ?_;refine wsq rfl ?_;obtain⟨r1,r2,r3,r4⟩:=hi.fin (vs:=C5 (.mk 9 [] false [] [] t.pos)) rfl (A0C _);refine A6 32 2 rfl rfl ?_;refine Pv tm (I9 tm T4 D8 rfl rfl (us:=C5 (.mk 9 [] false [] [] t.pos)) rfl (fun j u hj=>by rw[Bf j];exact hi.v.cell hj)) fun a tm=>?_;refine Ai rfl fun K hK=>G9 tm D8 rfl rfl rfl rfl (us:=C5 (.mk 9 [] false [] [] t.pos)) rfl rfl r1 (hK _ _ ?_);refine Wn ?_;exact P5 rfl (hQ _ _ _ _ _ (tm.sub ⟨rfl,trivial⟩) r2 r4 r3)
 |false=>
  rw[if_neg (by simp)];rw[h9]at hQ;refine K4 rfl ?_;show(A0 _ _).wp _ _ _ _;refine wsq rfl ?_;obtain⟨r1,r2,r3,r4⟩:=hi.fin (vs:=C5 (.mk 8 [] false [] [] t.pos)) rfl (A0C _);refine A6 32 2 rfl rfl ?_;refine Pv tm (I9 tm T4 D8 rfl rfl (us:=C5 (.mk 8 [] false [] [] t.pos)) rfl (fun j u hj=>by rw[Bf j];exact hi.v.cell hj)) fun a tm=>?_;refine Ai rfl fun K hK=>G9 tm D8 rfl rfl rfl rfl (us:=C5 (.mk 8 [] false [] [] t.pos)) rfl rfl r1 (hK _ _ ?_);refine Wn ?_;exact P5 rfl (hQ _ _ _ _ _ (tm.sub ⟨rfl,trivial⟩) r2 r4 r3)
theorem B3T{I:Inv}(hb:HB I){w0:World}{m0:Nat→Nat}{cb bz bt bv:Nat}{ae:Bool}{c c0:CurT}{ax:Value}{t:A1}{v0:LitT}{Q:Exit→Act→World→Prop}{a:Act}{w:World}{m ρ:Nat→Nat}(hI:∀ w m,Ext w0 m0 w m→I w m)(hi:OneI w0 m0 w m ρ cb c ax bz bt bv t (C5 (.mk 0 t.text false [] [] t.pos)))(tm:Tm a 154 [(0,.pointer (some ⟨cb,0,none⟩)),(1,.bool ae),(4,.pointer (some ⟨bz,0,none⟩)),(5,.pointer (some ⟨bt,0,none⟩)),(6,.pointer (some ⟨bv,0,none⟩))])
  (hP:(bif X2 t then
     bif okB [.bool] G1 (f103 t.text c)then some (.mk (bif t.text==[123]then 9 else 8) [] false [] [] t.pos,J9 (f103 t.text c))else none
    else
     bif okB [] G1 (f100 70 c)then some (F9,J9 (f100 70 c))else none)=some (v0,c0)) (hQ:A4A w0 m0 cb v0 c0 Q):(A0 Ci [1,1,1,1,0,0,1,1,1,1,1,1,1,1,1,1,1,1,1,1]).wp Ba Q a w:=by
 refine wsq rfl ?_;refine A6 26 14 rfl rfl ?_;refine Pv tm (C1 tm A0e) fun a tm=>?_;refine Pv tm (D9 tm A0f rfl rfl (hi.t.cell rfl)) fun a tm=>?_;refine Pv tm (N6 tm) fun a tm=>?_;refine Pm tm fun a tm=>?_;cases h2:t.kind==2 with
 |false=>
  rw[h2]at tm;refine F1 tm (j:=3) (g:=125) (d:=126) (b:=false) rfl rfl rfl rfl rfl rfl rfl fun a tm=>?_;refine F1 tm (j:=3) (g:=125) (d:=127) (b:=false) rfl rfl rfl rfl rfl rfl rfl fun a tm=>?_;refine F1 tm (j:=3) (g:=125) (d:=128) (b:=false) rfl rfl rfl rfl rfl rfl rfl fun a tm=>?_;refine F1 tm (j:=3) (g:=125) (d:=129) (b:=false) rfl rfl rfl rfl rfl rfl rfl fun a tm=>?_;refine A4S tm (j:=7) (g:=129) (d:=130) rfl rfl rfl rfl rfl rfl fun a tm=>?_;refine A4S tm (j:=7) (g:=129) (d:=131) rfl rfl rfl rfl rfl rfl fun a tm=>?_;refine A4S tm (j:=7) (g:=129) (d:=132) rfl rfl rfl rfl rfl rfl fun a tm=>?_;refine F1 tm (j:=3) (g:=125) (d:=133) (b:=false) rfl rfl rfl rfl rfl rfl rfl fun a tm=>?_;refine Pv tm (A0b tm) fun a tm=>?_;refine Pa tm fun a tm=>?_;refine Wn ?_;refine wcn tm rfl _ rfl ?_;have tm:=tm.keep [0,1,4,5,6];rw[if_neg (by simp)];rw[show X2 t=false by unfold X2;rw[h2];rfl,cond_false]at hP;cases cK:okB [] G1 (f100 70 c)with
  |false=>rw[cK]at hP;cases hP
  |true=>
  rw[cK,cond_true]at hP;simp only[Bg,Bi]at hP;obtain⟨rfl,rfl⟩:=hP;refine wsq rfl ?_;refine A6 5 2 rfl rfl ?_;refine Pm tm fun a tm=>?_;refine Ai rfl fun K hK=>H6 tm rfl rfl rfl (A2k hb).enter rfl (S4 tm rfl rfl rfl) (Y7 (A2k hb) (ls:=[.int .i64 70]) (vs:=[.int .i64 70]) (ks:=[]) (F:=f100 70 c) rfl cK (hI _ _ hi.sys.km.ext) hi.z0 ⟨.int _ _,trivial⟩ rfl hi.cur) ?_;rintro e w1 ⟨m1,rv,fe,rfl,k1,c1,e1⟩;have hi:=hi.stepC k1 c1;refine⟨_,rfl,fun a tm=>hK _ _ ?_⟩;refine Wn ?_;refine wsq rfl ?_;obtain⟨r1,r2,r3,r4⟩:=hi.fin (vs:=C5 F9) rfl (A0C _);refine A6 6 2 rfl rfl ?_;refine Pv tm (X8 tm rfl rfl (cs:=(C5 F9).toArray) (by kernel_rfl)) fun a tm=>?_;refine Ai rfl fun K hK=>G9 tm D8 rfl rfl rfl rfl (us:=C5 F9) rfl rfl r1 (hK _ _ ?_);refine Wn ?_;exact P5 rfl (hQ _ _ _ _ _ (tm.sub ⟨rfl,trivial⟩) r2 r4 r3)
 |true=>
  rw[h2]at tm;refine Pg tm 3 125 (C1 tm A2e) fun a tm=>?_;refine Pg tm 3 125 (D9 tm pl9 rfl rfl (hi.t.cell rfl)) fun a tm=>?_;refine Pg tm 3 125 (T7 tm rfl (i:=t.text) (j:=[91]) rfl rfl) fun a tm=>?_;refine Pg tm 3 125 (Q9 tm) fun a tm=>?_;cases h8:t.text==[91]with
  |true=>
   rw[h8]at tm;refine F1 tm (j:=7) (g:=129) (d:=130) (b:=true) rfl rfl rfl rfl rfl rfl rfl fun a tm=>?_;refine F1 tm (j:=7) (g:=129) (d:=131) (b:=true) rfl rfl rfl rfl rfl rfl rfl fun a tm=>?_;refine F1 tm (j:=7) (g:=129) (d:=132) (b:=true) rfl rfl rfl rfl rfl rfl rfl fun a tm=>?_;refine Pg tm 3 125 (Q2 tm) fun a tm=>?_;refine Pv tm (Q2 tm) fun a tm=>?_;refine Pa tm fun a tm=>?_;refine Wn ?_;refine wcn tm rfl _ rfl ?_;have tm:=tm.keep [0,1,4,5,6];rw[show X2 t=true by unfold X2;rw[h2,h8];rfl,cond_true]at hP;rw[if_pos rfl];exact B7Y hb hI hi tm hP hQ
  |false=>
   rw[h8]at tm;refine Pg tm 7 129 (C1 tm A2e) fun a tm=>?_;refine Pg tm 7 129 (D9 tm pl9 rfl rfl (hi.t.cell rfl)) fun a tm=>?_;refine Pg tm 7 129 (T7 tm rfl (i:=t.text) (j:=[123]) rfl rfl) fun a tm=>?_;refine Pg tm 3 125 (A0b tm) fun a tm=>?_;refine Pv tm (Q2 tm) fun a tm=>?_;refine Pa tm fun a tm=>?_;refine Wn ?_;refine wcn tm rfl _ rfl ?_;have tm:=tm.keep [0,1,4,5,6];cases h9:t.text==[123]with
   |true=>
    rw[show X2 t=true by unfold X2;rw[h2,h8,h9];rfl,cond_true]at hP;rw[if_pos rfl];exact B7Y hb hI hi tm hP hQ
   |false=>
    rw[if_neg (by simp)];rw[show X2 t=false by unfold X2;rw[h2,h8,h9];rfl,cond_false]at hP;cases cK:okB [] G1 (f100 70 c)with
    |false=>rw[cK]at hP;cases hP
    |true=>
    rw[cK,cond_true]at hP;simp only[Bg,Bi]at hP;obtain⟨rfl,rfl⟩:=hP;refine wsq rfl ?_;refine A6 5 2 rfl rfl ?_;refine Pm tm fun a tm=>?_;refine Ai rfl fun K hK=>H6 tm rfl rfl rfl (A2k hb).enter rfl (S4 tm rfl rfl rfl) (Y7 (A2k hb) (ls:=[.int .i64 70]) (vs:=[.int .i64 70]) (ks:=[]) (F:=f100 70 c) rfl cK (hI _ _ hi.sys.km.ext) hi.z0 ⟨.int _ _,trivial⟩ rfl hi.cur) ?_;rintro e w1 ⟨m1,rv,fe,rfl,k1,c1,e1⟩;have hi:=hi.stepC k1 c1;refine⟨_,rfl,fun a tm=>hK _ _ ?_⟩;refine Wn ?_;refine wsq rfl ?_;obtain⟨r1,r2,r3,r4⟩:=hi.fin (vs:=C5 F9) rfl (A0C _);refine A6 6 2 rfl rfl ?_;refine Pv tm (X8 tm rfl rfl (cs:=(C5 F9).toArray) (by kernel_rfl)) fun a tm=>?_;refine Ai rfl fun K hK=>G9 tm D8 rfl rfl rfl rfl (us:=C5 F9) rfl rfl r1 (hK _ _ ?_);refine Wn ?_;exact P5 rfl (hQ _ _ _ _ _ (tm.sub ⟨rfl,trivial⟩) r2 r4 r3)
theorem C4G{I:Inv}(hb:HB I){w0:World}{m0:Nat→Nat}{cb bz bt bv:Nat}{ae:Bool}{c c0:CurT}{ax:Value}{t:A1}{v0:LitT}{Q:Exit→Act→World→Prop}{a:Act}{w:World}{m ρ:Nat→Nat}(hI:∀ w m,Ext w0 m0 w m→I w m)(hi:OneI w0 m0 w m ρ cb c ax bz bt bv t (C5 (.mk 0 t.text false [] [] t.pos)))(tm:Tm a 154 [(0,.pointer (some ⟨cb,0,none⟩)),(1,.bool ae),(4,.pointer (some ⟨bz,0,none⟩)),(5,.pointer (some ⟨bt,0,none⟩)),(6,.pointer (some ⟨bv,0,none⟩))])
  (hP:(bif A0g t ae then
     bif okB [.agg .named,.bool] G1 (f97 c.next)then some (.mk 1 (M9 (gB (f97 c.next) 0)).name false [] [] t.pos,J9 (f97 c.next))else none
    else bif X2 t then
     bif okB [.bool] G1 (f103 t.text c)then some (.mk (bif t.text==[123]then 9 else 8) [] false [] [] t.pos,J9 (f103 t.text c))else none
    else
     bif okB [] G1 (f100 70 c)then some (F9,J9 (f100 70 c))else none)=some (v0,c0)) (hQ:A4A w0 m0 cb v0 c0 Q):(A0 Ci [1,1,1,1,0,0,1,1,1,1,1,1,1,1,1,1,1,1]).wp Ba Q a w:=by
 refine wsq rfl ?_;refine A6 22 13 rfl rfl ?_;refine Pv tm (C1 tm A0e) fun a tm=>?_;refine Pv tm (D9 tm A0f rfl rfl (hi.t.cell rfl)) fun a tm=>?_;refine Pv tm (N6 tm) fun a tm=>?_;refine Pm tm fun a tm=>?_;cases h2:t.kind==2 with
 |false=>
  rw[h2]at tm;refine F1 tm (j:=3) (g:=95) (d:=96) (b:=false) rfl rfl rfl rfl rfl rfl rfl fun a tm=>?_;refine F1 tm (j:=3) (g:=95) (d:=97) (b:=false) rfl rfl rfl rfl rfl rfl rfl fun a tm=>?_;refine F1 tm (j:=3) (g:=95) (d:=98) (b:=false) rfl rfl rfl rfl rfl rfl rfl fun a tm=>?_;refine Pv tm (A0b tm) fun a tm=>?_;refine Pm tm fun a tm=>?_;refine F1 tm (j:=8) (g:=100) (d:=101) (b:=false) rfl rfl rfl rfl rfl rfl rfl fun a tm=>?_;refine F1 tm (j:=8) (g:=100) (d:=102) (b:=false) rfl rfl rfl rfl rfl rfl rfl fun a tm=>?_;refine Pv tm (A0b tm) fun a tm=>?_;refine Pa tm fun a tm=>?_;refine Wn ?_;refine wcn tm rfl _ rfl ?_;rw[if_neg (by simp)];rw[show A0g t ae=false by unfold A0g;rw[h2];rfl,cond_false]at hP;exact B3T hb hI hi (tm.sub ⟨rfl,rfl,rfl,rfl,rfl,trivial⟩) hP hQ
 |true=>
  rw[h2]at tm;refine Pg tm 3 95 (C1 tm A2e) fun a tm=>?_;refine Pg tm 3 95 (D9 tm pl9 rfl rfl (hi.t.cell rfl)) fun a tm=>?_;refine Pg tm 3 95 (T7 tm rfl (i:=t.text) (j:=[36]) rfl rfl) fun a tm=>?_;refine Pv tm (Q2 tm) fun a tm=>?_;refine Pm tm fun a tm=>?_;cases hd:t.text==[36]with
  |false=>
   rw[hd]at tm;refine F1 tm (j:=8) (g:=100) (d:=101) (b:=false) rfl rfl rfl rfl rfl rfl rfl fun a tm=>?_;refine F1 tm (j:=8) (g:=100) (d:=102) (b:=false) rfl rfl rfl rfl rfl rfl rfl fun a tm=>?_;refine Pv tm (A0b tm) fun a tm=>?_;refine Pa tm fun a tm=>?_;refine Wn ?_;refine wcn tm rfl _ rfl ?_;rw[if_neg (by simp)];rw[show A0g t ae=false by unfold A0g;rw[h2,hd];rfl,cond_false]at hP;exact B3T hb hI hi (tm.sub ⟨rfl,rfl,rfl,rfl,rfl,trivial⟩) hP hQ
  |true=>
   rw[hd]at tm;refine Pg tm 8 100 (Q9 tm) fun a tm=>?_;refine Pg tm 8 100 (A5M tm) fun a tm=>?_;refine Pv tm (Q2 tm) fun a tm=>?_;refine Pa tm fun a tm=>?_;refine Wn ?_;refine wcn tm rfl _ rfl ?_;cases hc:ae with
   |true=>
    rw[if_neg (by simp)];rw[hc]at hP tm;rw[show A0g t true=false by unfold A0g;simp,cond_false]at hP;exact B3T hb hI hi (tm.sub ⟨rfl,rfl,rfl,rfl,rfl,trivial⟩) hP hQ
   |false=>
    rw[if_pos (by rfl)];rw[hc]at hP tm;rw[show A0g t false=true by unfold A0g;rw[h2,hd];rfl,cond_true]at hP;have tm:=tm.keep [0,1,4,5,6];cases cK:okB [.agg .named,.bool] G1 (f97 c.next)with
    |false=>rw[cK]at hP;cases hP
    |true=>
    rw[cK,cond_true]at hP;simp only[Bg,Bi]at hP;obtain⟨rfl,rfl⟩:=hP;refine wsq rfl ?_;obtain⟨q1,aT⟩:=hi.setAt (Bh .i64 (c.at_+1));refine A6 23 8 rfl rfl ?_;refine Pm tm fun a tm=>?_;refine Pv tm (A1I tm) fun a tm=>?_;refine Pv tm (C1 tm A6A) fun a tm=>?_;refine Pv tm (D9 tm pl3 rfl rfl (hi.cur.bk.cell rfl)) fun a tm=>?_;refine Pv tm (A1e tm) fun a tm=>?_;refine Pv tm (A1I tm) fun a tm=>?_;refine Pv tm (C1 tm A6A) fun a tm=>?_;refine Ps tm tz3 q1 ?_;refine Be ?_;have hi:=aT;clear aT;show(A0 _ _).wp _ _ _ _;refine wsq rfl ?_;refine A6 24 8 rfl rfl ?_;refine Pm tm fun a tm=>?_;refine Ai rfl fun K hK=>H6 tm rfl rfl rfl (A6h hb).enter rfl (S4 tm rfl rfl rfl) (Y7 (A6h hb) (ls:=[.sl .str [] none]) (vs:=[.slice none 0 0]) (ks:=[.agg .named,.bool]) (F:=f97 c.next) rfl cK (hI _ _ hi.sys.km.ext) hi.z0 ⟨.nil _ _ _ _,trivial⟩ rfl hi.cur) ?_;rintro e w1 ⟨m1,rv,fe,rfl,k1,c1,e1⟩;have hi:=hi.stepC k1 c1;obtain⟨v1,v2,rfl,e2,e3⟩:∃ v1 v2,rv=[v1,v2]∧CRep U6 w1 m1 (.agg .named (M9 (gB (f97 c.next) 0))) v1∧CRep U6 w1 m1 (.bool (lB (gB (f97 c.next) 1))) v2:=by
     match rv,e1 with
     |[x,y],⟨e2,e3,_⟩=>exact⟨x,y,rfl,e2,e3⟩
    obtain rfl:=CRep.bool_inv e3;obtain⟨vn,rfl,e4⟩:=A4h e2;obtain rfl:=A8f e4 (us:=[D5 (M9 (gB (f97 c.next) 0)).name,.int .i64 (M9 (gB (f97 c.next) 0)).pos.line,.int .i64 (M9 (gB (f97 c.next) 0)).pos.col]) rfl;generalize (M9 (gB (f97 c.next) 0))=nm at*;refine⟨_,rfl,fun a tm=>hK _ _ ?_⟩;refine Pm tm fun a tm=>?_;refine Pv tm (O9 tm rfl rfl (vs:=[_,_])) fun a tm=>?_;refine Pv tm (O9 tm rfl rfl (vs:=[_,_])) fun a tm=>?_;refine Ai rfl fun K hK=>K8 tm A9U rfl rfl rfl fun a tm=>hK _ _ ?_;have dU:=G7 w1 m1 (.cells [.string ⟨[].toArray⟩,.int .i64 0,.int .i64 0].toArray 83) hi.z0;have hi:=hi.stepN dU 4;have p8:Bk (w1.alloc (.cells [.string ⟨[].toArray⟩,.int .i64 0,.int .i64 0].toArray 83)) w1.heap.size _:=K1;have eJ:∀ ρ:Nat→Nat,A7 ρ w1.heap.size 4 w1.heap.size=4:=fun ρ=>H1 (Bd _);generalize sf:w1.heap.size=bn at hi p8 eJ tm;obtain⟨q1,q2,q3⟩:=p8.store (m:=m1) Ba (off:=0) (vs:=[D5 nm.name,.int .i64 nm.pos.line,.int .i64 nm.pos.col]) (show 0+3≤3 by decide) (fun v hv=>by simp only[Bp,Bw,or_false]at hv;rcases hv with rfl|rfl|rfl<;>rfl) (hi.sys.zr bn (by rw[eJ _];decide)) hi.z0;refine Ps tm A9U q1 ?_;refine Pa tm fun a tm=>?_;refine Be ?_;have sg:∀{ρ:Nat→Nat}{b r:Nat},A7 ρ bn 4 b=r→r≠4→¬b=bn:=fun{ρ b r} h1 h2 e=>by rw[e,eJ ρ]at h1;exact h2 h1.symm
    have hi:OneI w0 m0 _ m1 _ cb _ _ bz bt bv t _:=⟨hi.sys.stay q3 (fun b _ hs=>by rw[hs,eJ _];decide),hi.cur.keep q3 (sg hi.cr (by decide)),hi.cr,q3.bk hi.z (sg hi.zr (by decide)),hi.zr,q3.bk hi.t (sg hi.tr (by decide)),hi.tr,q3.bk hi.v (sg hi.vr (by decide)),hi.vr⟩;show(A0 _ _).wp _ _ _ _;refine wsq rfl ?_;obtain⟨r1,r2,r3,r4⟩:=hi.fin (vs:=C5 (.mk 1 nm.name false [] [] t.pos)) rfl (A0C _);refine A6 25 6 rfl rfl ?_;refine Pv tm (C1 tm B8W) fun a tm=>?_;refine Pv tm (D9 tm pl9 rfl rfl (q2.cell rfl)) fun a tm=>?_;refine Pv tm (C1 tm A6w) fun a tm=>?_;refine Pv tm (I9 tm A3s A0k rfl rfl (us:=J5 t.pos) rfl (B6A hi.t)) fun a tm=>?_;refine Pv tm (D1d tm rfl rfl rfl rfl rfl (cs:=(C5 (.mk 1 nm.name false [] [] t.pos)).toArray) (by kernel_rfl)) fun a tm=>?_;refine Ai rfl fun K hK=>G9 tm D8 rfl rfl rfl rfl (us:=C5 (.mk 1 nm.name false [] [] t.pos)) rfl rfl r1 (hK _ _ ?_);refine Wn ?_;exact P5 rfl (hQ _ _ _ _ _ (tm.sub ⟨rfl,trivial⟩) r2 r4 r3)
theorem C5C{I:Inv}(hb:HB I){w0:World}{m0:Nat→Nat}{cb bz bt bv:Nat}{ae:Bool}{c c0:CurT}{ax:Value}{t:A1}{v0:LitT}{Q:Exit→Act→World→Prop}{a:Act}{w:World}{m ρ:Nat→Nat}(hI:∀ w m,Ext w0 m0 w m→I w m)(hi:OneI w0 m0 w m ρ cb c ax bz bt bv t (C5 (.mk 0 t.text false [] [] t.pos)))(tm:Tm a 154 [(0,.pointer (some ⟨cb,0,none⟩)),(1,.bool ae),(4,.pointer (some ⟨bz,0,none⟩)),(5,.pointer (some ⟨bt,0,none⟩)),(6,.pointer (some ⟨bv,0,none⟩))])
  (hP:(match W7 t with|some v=>some (v,c.next)|none=>(bif A0g t ae then
     bif okB [.agg .named,.bool] G1 (f97 c.next)then some (.mk 1 (M9 (gB (f97 c.next) 0)).name false [] [] t.pos,J9 (f97 c.next))else none
    else bif X2 t then
     bif okB [.bool] G1 (f103 t.text c)then some (.mk (bif t.text==[123]then 9 else 8) [] false [] [] t.pos,J9 (f103 t.text c))else none
    else
     bif okB [] G1 (f100 70 c)then some (F9,J9 (f100 70 c))else none))=some (v0,c0))
  (hk:∀ a w m ρ,c0=c.next→Tm a 154 [(0,.pointer (some ⟨cb,0,none⟩)),(1,.bool ae),(4,.pointer (some ⟨bz,0,none⟩)),(5,.pointer (some ⟨bt,0,none⟩)),(6,.pointer (some ⟨bv,0,none⟩))]→OneI w0 m0 w m ρ cb c ax bz bt bv t (C5 v0)→Q .normal a w)(hQ:A4A w0 m0 cb v0 c0 Q):(A0 Ci [1,1,1,1,0,0]).wp Ba Q a w:=by
 refine wsq rfl ?_;refine A6 7 4 rfl rfl ?_;refine Pv tm (C1 tm A0e) fun a tm=>?_;refine Pv tm (D9 tm A0f rfl rfl (hi.t.cell rfl)) fun a tm=>?_;refine Pv tm (N6 tm) fun a tm=>?_;refine Pa tm fun a tm=>?_;refine Wn ?_;refine wcn tm rfl _ rfl ?_;have tm:=tm.keep [0,1,4,5,6];cases h4:t.kind==4 with
 |true=>
  rw[if_pos rfl];refine A6 8 2 rfl rfl ?_;refine Pv tm (C1 tm V1) fun a tm=>?_;obtain⟨q1,hi⟩:=hi.setV (off:=0+0) (vs:=[.int .i64 2]) (show 0+0+1≤7 by decide) (fun v hv=>by rcases Bm.1 hv with rfl;rfl);refine Ps tm A1p q1 ?_;refine Be ?_;simp only[W7,h4,Ck,Cl,Cb,Cg,Cd,Ce,Cc,Cf,cond_true,cond_false,Bg,Bi]at hP;obtain⟨rfl,rfl⟩:=hP;exact hk _ _ _ _ rfl (tm.sub ⟨rfl,rfl,rfl,rfl,rfl,trivial⟩) hi
 |false=>
  rw[if_neg (by simp)];refine wsq rfl ?_;refine A6 9 4 rfl rfl ?_;refine Pv tm (C1 tm A0e) fun a tm=>?_;refine Pv tm (D9 tm A0f rfl rfl (hi.t.cell rfl)) fun a tm=>?_;refine Pv tm (N6 tm) fun a tm=>?_;refine Pa tm fun a tm=>?_;refine Wn ?_;refine wcn tm rfl _ rfl ?_;have tm:=tm.keep [0,1,4,5,6];cases h5:t.kind==5 with
  |true=>
   rw[if_pos rfl];refine A6 10 2 rfl rfl ?_;refine Pv tm (C1 tm V1) fun a tm=>?_;obtain⟨q1,hi⟩:=hi.setV (off:=0+0) (vs:=[.int .i64 3]) (show 0+0+1≤7 by decide) (fun v hv=>by rcases Bm.1 hv with rfl;rfl);refine Ps tm A1p q1 ?_;refine Be ?_;simp only[W7,h4,h5,Ck,Cl,Cb,Cg,Cd,Ce,Cc,Cf,cond_true,cond_false,Bg,Bi]at hP;obtain⟨rfl,rfl⟩:=hP;exact hk _ _ _ _ rfl (tm.sub ⟨rfl,rfl,rfl,rfl,rfl,trivial⟩) hi
  |false=>
   rw[if_neg (by simp)];refine wsq rfl ?_;refine A6 11 9 rfl rfl ?_;refine Pv tm (C1 tm A0e) fun a tm=>?_;refine Pv tm (D9 tm A0f rfl rfl (hi.t.cell rfl)) fun a tm=>?_;refine Pv tm (N6 tm) fun a tm=>?_;refine Pm tm fun a tm=>?_;cases h6:t.kind==6 with
   |true=>
    rw[h6]at tm;refine F1 tm (j:=3) (g:=47) (d:=48) (b:=true) rfl rfl rfl rfl rfl rfl rfl fun a tm=>?_;refine F1 tm (j:=3) (g:=47) (d:=49) (b:=true) rfl rfl rfl rfl rfl rfl rfl fun a tm=>?_;refine F1 tm (j:=3) (g:=47) (d:=50) (b:=true) rfl rfl rfl rfl rfl rfl rfl fun a tm=>?_;refine Pv tm (Q2 tm) fun a tm=>?_;refine Pa tm fun a tm=>?_;refine Wn ?_;refine wcn tm rfl _ rfl ?_;have tm:=tm.keep [0,1,4,5,6];rw[if_pos rfl];refine wsq rfl ?_;refine A6 12 2 rfl rfl ?_;refine Pv tm (C1 tm V1) fun a tm=>?_;obtain⟨q1,hi⟩:=hi.setV (off:=0+0) (vs:=[.int .i64 4]) (show 0+0+1≤7 by decide) (fun v hv=>by rcases Bm.1 hv with rfl;rfl);refine Ps tm A1p q1 ?_;refine Wn ?_;refine wsq rfl ?_;refine A6 13 4 rfl rfl ?_;refine Pv tm (C1 tm B59) fun a tm=>?_;refine Pv tm (D9 tm pl9 rfl rfl (hi.t.cell rfl)) fun a tm=>?_;refine Pv tm (C1 tm A9E) fun a tm=>?_;obtain⟨q1,hi⟩:=hi.setV (off:=0+1) (vs:=[D5 t.value]) (show 0+1+1≤7 by decide) (fun v hv=>by rcases Bm.1 hv with rfl;rfl);refine Ps tm tz9 q1 ?_;refine Wn ?_;refine A6 14 5 rfl rfl ?_;refine Pv tm (C1 tm A0e) fun a tm=>?_;refine Pv tm (D9 tm A0f rfl rfl (hi.t.cell rfl)) fun a tm=>?_;refine Pv tm (N6 tm) fun a tm=>?_;refine Pv tm (C1 tm B7x) fun a tm=>?_;obtain⟨q1,hi⟩:=hi.setV (off:=0+2) (vs:=[.bool (t.kind==7)]) (show 0+2+1≤7 by decide) (fun v hv=>by rcases Bm.1 hv with rfl;rfl);refine Ps tm tz4 q1 ?_;refine Be ?_;simp only[W7,h4,h5,h6,Ck,Cl,Cb,Cg,Cd,Ce,Cc,Cf,cond_true,cond_false,Bg,Bi]at hP;obtain⟨rfl,rfl⟩:=hP;exact hk _ _ _ _ rfl (tm.sub ⟨rfl,rfl,rfl,rfl,rfl,trivial⟩) hi
   |false=>
    rw[h6]at tm;refine Pg tm 3 47 (C1 tm A0e) fun a tm=>?_;refine Pg tm 3 47 (D9 tm A0f rfl rfl (hi.t.cell rfl)) fun a tm=>?_;refine Pg tm 3 47 (N6 tm) fun a tm=>?_;refine Pv tm (A0b tm) fun a tm=>?_;refine Pa tm fun a tm=>?_;refine Wn ?_;refine wcn tm rfl _ rfl ?_;have tm:=tm.keep [0,1,4,5,6];cases h7:t.kind==7 with
    |true=>
     rw[if_pos rfl];refine wsq rfl ?_;refine A6 12 2 rfl rfl ?_;refine Pv tm (C1 tm V1) fun a tm=>?_;obtain⟨q1,hi⟩:=hi.setV (off:=0+0) (vs:=[.int .i64 4]) (show 0+0+1≤7 by decide) (fun v hv=>by rcases Bm.1 hv with rfl;rfl);refine Ps tm A1p q1 ?_;refine Wn ?_;refine wsq rfl ?_;refine A6 13 4 rfl rfl ?_;refine Pv tm (C1 tm B59) fun a tm=>?_;refine Pv tm (D9 tm pl9 rfl rfl (hi.t.cell rfl)) fun a tm=>?_;refine Pv tm (C1 tm A9E) fun a tm=>?_;obtain⟨q1,hi⟩:=hi.setV (off:=0+1) (vs:=[D5 t.value]) (show 0+1+1≤7 by decide) (fun v hv=>by rcases Bm.1 hv with rfl;rfl);refine Ps tm tz9 q1 ?_;refine Wn ?_;refine A6 14 5 rfl rfl ?_;refine Pv tm (C1 tm A0e) fun a tm=>?_;refine Pv tm (D9 tm A0f rfl rfl (hi.t.cell rfl)) fun a tm=>?_;refine Pv tm (N6 tm) fun a tm=>?_;refine Pv tm (C1 tm B7x) fun a tm=>?_;obtain⟨q1,hi⟩:=hi.setV (off:=0+2) (vs:=[.bool (t.kind==7)]) (show 0+2+1≤7 by decide) (fun v hv=>by rcases Bm.1 hv with rfl;rfl);refine Ps tm tz4 q1 ?_;refine Be ?_;rw[h7]at hi ⊢;simp only[W7,h4,h5,h6,h7,Ck,Cl,Cb,Cg,Cd,Ce,Cc,Cf,cond_true,cond_false,Bg,Bi]at hP;obtain⟨rfl,rfl⟩:=hP;exact hk _ _ _ _ rfl (tm.sub ⟨rfl,rfl,rfl,rfl,rfl,trivial⟩) hi
    |false=>
     rw[if_neg (by simp)];refine wsq rfl ?_;refine A6 15 14 rfl rfl ?_;refine Pv tm (C1 tm A0e) fun a tm=>?_;refine Pv tm (D9 tm A0f rfl rfl (hi.t.cell rfl)) fun a tm=>?_;refine Pv tm (N6 tm) fun a tm=>?_;refine Pm tm fun a tm=>?_;cases h3:t.kind==3 with
     |false=>
      rw[h3]at tm;refine F1 tm (j:=3) (g:=64) (d:=65) (b:=false) rfl rfl rfl rfl rfl rfl rfl fun a tm=>?_;refine F1 tm (j:=3) (g:=64) (d:=66) (b:=false) rfl rfl rfl rfl rfl rfl rfl fun a tm=>?_;refine F1 tm (j:=3) (g:=64) (d:=67) (b:=false) rfl rfl rfl rfl rfl rfl rfl fun a tm=>?_;refine F1 tm (j:=3) (g:=64) (d:=68) (b:=false) rfl rfl rfl rfl rfl rfl rfl fun a tm=>?_;refine A4S tm (j:=7) (g:=68) (d:=69) rfl rfl rfl rfl rfl rfl fun a tm=>?_;refine A4S tm (j:=7) (g:=68) (d:=70) rfl rfl rfl rfl rfl rfl fun a tm=>?_;refine A4S tm (j:=7) (g:=68) (d:=71) rfl rfl rfl rfl rfl rfl fun a tm=>?_;refine F1 tm (j:=3) (g:=64) (d:=72) (b:=false) rfl rfl rfl rfl rfl rfl rfl fun a tm=>?_;refine Pv tm (A0b tm) fun a tm=>?_;refine Pa tm fun a tm=>?_;refine Wn ?_;refine wcn tm rfl _ rfl ?_;have tm:=tm.keep [0,1,4,5,6];rw[if_neg (by simp)]
      skip
      refine wsq rfl ?_;refine A6 17 9 rfl rfl ?_;refine Pv tm (C1 tm A0e) fun a tm=>?_;refine Pv tm (D9 tm A0f rfl rfl (hi.t.cell rfl)) fun a tm=>?_;refine Pv tm (N6 tm) fun a tm=>?_;refine Pm tm fun a tm=>?_;rw[h3]at tm;refine F1 tm (j:=3) (g:=79) (d:=80) (b:=false) rfl rfl rfl rfl rfl rfl rfl fun a tm=>?_;refine F1 tm (j:=3) (g:=79) (d:=81) (b:=false) rfl rfl rfl rfl rfl rfl rfl fun a tm=>?_;refine F1 tm (j:=3) (g:=79) (d:=82) (b:=false) rfl rfl rfl rfl rfl rfl rfl fun a tm=>?_;refine Pv tm (A0b tm) fun a tm=>?_;refine Pa tm fun a tm=>?_;refine Wn ?_;refine wcn tm rfl _ rfl ?_;have tm:=tm.keep [0,1,4,5,6];rw[if_neg (by simp)];refine wsq rfl ?_;refine A6 20 4 rfl rfl ?_;refine Pv tm (C1 tm A0e) fun a tm=>?_;refine Pv tm (D9 tm A0f rfl rfl (hi.t.cell rfl)) fun a tm=>?_;refine Pv tm (N6 tm) fun a tm=>?_;refine Pa tm fun a tm=>?_;refine Wn ?_;refine wcn tm rfl _ rfl ?_;have tm:=tm.keep [0,1,4,5,6];rw[if_neg (by rw[h3];simp)];simp only[W7,h3,h4,h5,h6,h7,Cg,Ce,cond_false]at hP;exact C4G hb hI hi tm hP hQ
     |true=>
      rw[h3]at tm;refine Pg tm 3 64 (C1 tm A2e) fun a tm=>?_;refine Pg tm 3 64 (D9 tm pl9 rfl rfl (hi.t.cell rfl)) fun a tm=>?_;refine Pg tm 3 64 (T7 tm rfl (i:=t.text) (j:=[116,114,117,101]) rfl rfl) fun a tm=>?_;refine Pg tm 3 64 (Q9 tm) fun a tm=>?_;cases h8:t.text==[116,114,117,101]with
      |true=>
       rw[h8]at tm;refine F1 tm (j:=7) (g:=68) (d:=69) (b:=true) rfl rfl rfl rfl rfl rfl rfl fun a tm=>?_;refine F1 tm (j:=7) (g:=68) (d:=70) (b:=true) rfl rfl rfl rfl rfl rfl rfl fun a tm=>?_;refine F1 tm (j:=7) (g:=68) (d:=71) (b:=true) rfl rfl rfl rfl rfl rfl rfl fun a tm=>?_;refine Pg tm 3 64 (Q2 tm) fun a tm=>?_;refine Pv tm (Q2 tm) fun a tm=>?_;refine Pa tm fun a tm=>?_;refine Wn ?_;refine wcn tm rfl _ rfl ?_;have tm:=tm.keep [0,1,4,5,6];rw[if_pos rfl];refine A6 16 2 rfl rfl ?_;refine Pv tm (C1 tm V1) fun a tm=>?_;obtain⟨q1,hi⟩:=hi.setV (off:=0+0) (vs:=[.int .i64 5]) (show 0+0+1≤7 by decide) (fun v hv=>by rcases Bm.1 hv with rfl;rfl);refine Ps tm A1p q1 ?_;refine Be ?_;simp only[W7,h4,h5,h6,h7,h3,h8,Ck,Cl,Cb,Cg,Cd,Ce,Cc,Cf,cond_true,cond_false,Bg,Bi]at hP;obtain⟨rfl,rfl⟩:=hP;exact hk _ _ _ _ rfl (tm.sub ⟨rfl,rfl,rfl,rfl,rfl,trivial⟩) hi
      |false=>
       rw[h8]at tm;refine Pg tm 7 68 (C1 tm A2e) fun a tm=>?_;refine Pg tm 7 68 (D9 tm pl9 rfl rfl (hi.t.cell rfl)) fun a tm=>?_;refine Pg tm 7 68 (T7 tm rfl (i:=t.text) (j:=[102,97,108,115,101]) rfl rfl) fun a tm=>?_;refine Pg tm 3 64 (A0b tm) fun a tm=>?_;refine Pv tm (Q2 tm) fun a tm=>?_;refine Pa tm fun a tm=>?_;refine Wn ?_;refine wcn tm rfl _ rfl ?_;have tm:=tm.keep [0,1,4,5,6];cases h9:t.text==[102,97,108,115,101]with
       |true=>
        rw[if_pos rfl];refine A6 16 2 rfl rfl ?_;refine Pv tm (C1 tm V1) fun a tm=>?_;obtain⟨q1,hi⟩:=hi.setV (off:=0+0) (vs:=[.int .i64 5]) (show 0+0+1≤7 by decide) (fun v hv=>by rcases Bm.1 hv with rfl;rfl);refine Ps tm A1p q1 ?_;refine Be ?_;simp only[W7,h4,h5,h6,h7,h3,h8,h9,Ck,Cl,Cb,Cg,Cd,Ce,Cc,Cf,cond_true,cond_false,Bg,Bi]at hP;obtain⟨rfl,rfl⟩:=hP;exact hk _ _ _ _ rfl (tm.sub ⟨rfl,rfl,rfl,rfl,rfl,trivial⟩) hi
       |false=>
        rw[if_neg (by simp)];refine wsq rfl ?_;refine A6 17 9 rfl rfl ?_;refine Pv tm (C1 tm A0e) fun a tm=>?_;refine Pv tm (D9 tm A0f rfl rfl (hi.t.cell rfl)) fun a tm=>?_;refine Pv tm (N6 tm) fun a tm=>?_;refine Pm tm fun a tm=>?_;rw[h3]at tm;refine Pg tm 3 79 (C1 tm A2e) fun a tm=>?_;refine Pg tm 3 79 (D9 tm pl9 rfl rfl (hi.t.cell rfl)) fun a tm=>?_;refine Pg tm 3 79 (T7 tm rfl (i:=t.text) (j:=[110,117,108,108]) rfl rfl) fun a tm=>?_;refine Pv tm (Q2 tm) fun a tm=>?_;refine Pa tm fun a tm=>?_;refine Wn ?_;refine wcn tm rfl _ rfl ?_;have tm:=tm.keep [0,1,4,5,6];cases fh:t.text==[110,117,108,108]with
        |true=>
         rw[if_pos rfl];refine wsq rfl ?_;refine A6 18 2 rfl rfl ?_;refine Pv tm (C1 tm V1) fun a tm=>?_;obtain⟨q1,hi⟩:=hi.setV (off:=0+0) (vs:=[.int .i64 6]) (show 0+0+1≤7 by decide) (fun v hv=>by rcases Bm.1 hv with rfl;rfl);refine Ps tm A1p q1 ?_;refine Wn ?_;refine A6 19 2 rfl rfl ?_;refine Pv tm (C1 tm A9E) fun a tm=>?_;obtain⟨q1,hi⟩:=hi.setV (off:=0+1) (vs:=[D5 []]) (show 0+1+1≤7 by decide) (fun v hv=>by rcases Bm.1 hv with rfl;rfl);refine Ps tm tz9 q1 ?_;refine Be ?_;simp only[W7,h4,h5,h6,h7,h3,h8,h9,fh,Ck,Cl,Cb,Cg,Cd,Ce,Cc,Cf,cond_true,cond_false,Bg,Bi]at hP;obtain⟨rfl,rfl⟩:=hP;exact hk _ _ _ _ rfl (tm.sub ⟨rfl,rfl,rfl,rfl,rfl,trivial⟩) hi
        |false=>
         rw[if_neg (by simp)];refine wsq rfl ?_;refine A6 20 4 rfl rfl ?_;refine Pv tm (C1 tm A0e) fun a tm=>?_;refine Pv tm (D9 tm A0f rfl rfl (hi.t.cell rfl)) fun a tm=>?_;refine Pv tm (N6 tm) fun a tm=>?_;refine Pa tm fun a tm=>?_;refine Wn ?_;refine wcn tm rfl _ rfl ?_;have tm:=tm.keep [0,1,4,5,6];rw[if_pos (by rw[h3])];refine A6 21 2 rfl rfl ?_;refine Pv tm (C1 tm V1) fun a tm=>?_;obtain⟨q1,hi⟩:=hi.setV (off:=0+0) (vs:=[.int .i64 7]) (show 0+0+1≤7 by decide) (fun v hv=>by rcases Bm.1 hv with rfl;rfl);refine Ps tm A1p q1 ?_;refine Be ?_;simp only[W7,h4,h5,h6,h7,h3,h8,h9,fh,Ck,Cl,Cb,Cg,Cd,Ce,Cc,Cf,cond_true,cond_false,Bg,Bi]at hP;obtain⟨rfl,rfl⟩:=hP;exact hk _ _ _ _ rfl (tm.sub ⟨rfl,rfl,rfl,rfl,rfl,trivial⟩) hi
theorem KM.cell{w w':World}{m m':Nat→Nat}{S:Nat→Prop}(k:KM w m w' m' S){b o:Nat}{u:Value}(hS:¬S b)(hc:w.cell? ⟨b,o,none⟩=some u):w'.cell? ⟨b,o,none⟩=some u:=by
 have hb:b<w.heap.size:=by
  rcases Ej b w.heap.size with h|h
  ·exact h
  ·simp[Dd,Array.getElem?_eq_none h]at hc
 rw[←hc];exact World.cell?_of_block (a:=⟨b,o,none⟩) (k.heap b hb hS).1
theorem C3e{I:Inv}(hb:HB I){w0:World}{m0:Nat→Nat}(hI:∀ w m,Ext w0 m0 w m→I w m)(hz:∀ b,w0.heap.size≤b→m0 b=0){cb:Nat}{ae:Bool}{c c0:CurT}{ax:Value}{v0:LitT}{Q:Exit→Act→World→Prop}{a:Act}
  (hc:CurB w0 m0 cb c ax)(hP:A09 ae c=some (v0,c0))(hQ:A4A w0 m0 cb v0 c0 Q)(tm:Tm a 154 [(0,.pointer (some ⟨cb,0,none⟩)),(1,.bool ae)]):(A0 Ci []).wp Ba Q a w0:=by
 unfold A09 at hP;by_cases qM:c.at_<0
 ·rw[decide_eq_false (by omega)]at hP;cases hP
 have uz:0≤c.at_:=by omega
 rw[decide_eq_true uz,cond_true]at hP;split at hP
 ·cases hP
 rename_i t gO;have fT:=D0Q gO;obtain⟨tb,gP,ou,mY,pj⟩:=A7E hc.tk gO;refine wsq rfl ?_;refine A6 0 1 rfl rfl ?_;refine Ai rfl fun K hK=>K8 tm D8 rfl rfl rfl fun a tm=>hK _ _ ?_;refine Wn ?_;refine wsq rfl ?_;have k1:=G7 w0 m0 (.cells [.int .i64 0,.string ⟨[].toArray⟩,.bool false,.slice none 0 0,.slice none 0 0,.int .i64 0,.int .i64 0].toArray 46) hz;have s0:Sys w0 m0 (fun b=>b=cb) w0 m0 (fun b=>if b=cb then 7 else 0):=⟨KM.refl _ _ _ hz,fun b h=>by
  by_cases e:b=cb
  ·rw[e];exact hc.mz
  ·rw[if_neg e]at h;exact absurd rfl h,fun b _ h=>by
  by_cases e:b=cb
  ·exact e
  ·rw[if_neg e]at h;exact absurd rfl h⟩
 have s1:=s0.stepM k1 (fun _ _ h=>h.elim) 1;have b1:Bk (w0.alloc (.cells [.int .i64 0,.string ⟨[].toArray⟩,.bool false,.slice none 0 0,.slice none 0 0,.int .i64 0,.int .i64 0].toArray 46)) w0.heap.size (C5 F9):=K1;have cJ:A7 (fun b=>if b=cb then 7 else 0) w0.heap.size 1 w0.heap.size=1:=H1 (Bd _);have lz:A7 (fun b=>if b=cb then 7 else 0) w0.heap.size 1 cb=7:=by rw[A5 hc.bk.lt];exact if_pos rfl
 have fC:=hc.keep k1 (fun h=>h);have ow:∀(j:Nat) u,(L1 t)[j]?=some u→(w0.alloc (.cells [.int .i64 0,.string ⟨[].toArray⟩,.bool false,.slice none 0 0,.slice none 0 0,.int .i64 0,.int .i64 0].toArray 46)).cell? ⟨tb,gP+c.at_.toNat*7+j,none⟩=some u:=fun j u hj=>k1.cell (fun h=>h) (pj j u hj);generalize w0.heap.size=bz at tm s1 b1 cJ lz;generalize A7 (fun b=>if b=cb then 7 else 0) bz 1=ρ1 at s1 cJ lz;generalize (w0.alloc (.cells [.int .i64 0,.string ⟨[].toArray⟩,.bool false,.slice none 0 0,.slice none 0 0,.int .i64 0,.int .i64 0].toArray 46))=w1 at k1 s1 b1 fC ow ⊢;have uF:c.at_=((c.at_.toNat:Nat):Int):=by omega
 refine B2O (S:=fun w'=>w'.cell? ⟨cb,0+0,none⟩=some ax∧w'.cell? ⟨cb,0+1,none⟩=some (.int .i64 c.at_)∧∀(j:Nat) u,(L1 t)[j]?=some u→w'.cell? ⟨tb,gP+c.at_.toNat*7+j,none⟩=some u) 11 rfl 1 12 rfl rfl ?_;have kd:=A2j s1.z;have s2:=s1.stay kd (fun _ _ h=>h.elim);have b1:=kd.bk b1 (fun h=>h);have dx:=fC.keep kd (fun h=>h);have mh:∀(j:Nat) u,(L1 t)[j]?=some u→Dd _ ⟨tb,gP+c.at_.toNat*7+j,none⟩=some u:=fun j u hj=>kd.cell (fun h=>h) (ow j u hj);generalize ({w1 with drawn:=w1.drawn+1}:World)=w at s2 b1 dx mh ⊢;clear kd s1 fC ow;have HS:w.cell? ⟨cb,0+0,none⟩=some ax∧w.cell? ⟨cb,0+1,none⟩=some (.int .i64 c.at_)∧∀(j:Nat) u,(L1 t)[j]?=some u→w.cell? ⟨tb,gP+c.at_.toNat*7+j,none⟩=some u:=⟨dx.bk.cell rfl,dx.bk.cell rfl,mh⟩;refine Lt tm 0 rfl (by exact HS) (fun w hS=>Q9 tm) fun a tm=>?_;refine Lt tm 1 rfl (by exact HS) (fun w hS=>A1I tm) fun a tm=>?_;refine Lt tm 2 rfl (by exact HS) (fun w hS=>C1 tm C0B) fun a tm=>?_;refine Lt tm 3 rfl (by exact HS) (fun w hS=>D9 tm C54 rfl rfl (hS.1)) fun a tm=>?_;refine Lt tm 4 rfl (by exact HS) (fun w hS=>Q9 tm) fun a tm=>?_;refine Lt tm 5 rfl (by exact HS) (fun w hS=>A1I tm) fun a tm=>?_;refine Lt tm 6 rfl (by exact HS) (fun w hS=>C1 tm A6A) fun a tm=>?_;refine Lt tm 7 rfl (by exact HS) (fun w hS=>D9 tm pl3 rfl rfl (hS.2.1)) fun a tm=>?_;refine Lt tm 8 rfl (by exact HS) (fun w hS=>R6 tm A9V V6 rfl rfl mY rfl uF fT) fun a tm=>?_;refine Lt tm 9 rfl (by exact HS) (fun w hS=>I9 tm A3r V6 rfl rfl rfl hS.2.2) fun a tm=>?_;refine A1m (i:=10) (by kernel_rfl) rfl rfl fun K hK=>?_;have k3:=G7 w m0 (.cells [.int .i64 0,.int .i64 0,.int .i64 0,.int .i64 0,.int .i64 0,.string ⟨[].toArray⟩,.string ⟨[].toArray⟩].toArray 102) s2.z;have s3:=s2.stepM k3 (fun _ _ h=>h.elim) 2;have b3:Bk (w.alloc (.cells [.int .i64 0,.int .i64 0,.int .i64 0,.int .i64 0,.int .i64 0,.string ⟨[].toArray⟩,.string ⟨[].toArray⟩].toArray 102)) w.heap.size _:=K1;have cO:A7 ρ1 w.heap.size 2 w.heap.size=2:=H1 (Bd _);have cJ:=(A5 (r:=2) b1.lt).trans cJ;have lz:=(A5 (r:=2) dx.bk.lt).trans lz;have b1:=k3.bk b1 (fun h=>h);have nr:=dx.keep k3 (fun h=>h);have ox:∀(j:Nat) u,(L1 t)[j]?=some u→Dd _ ⟨tb,gP+c.at_.toNat*7+j,none⟩=some u:=fun j u hj=>k3.cell (fun h=>h) (mh j u hj);refine K8 tm V6 rfl rfl rfl fun a tm=>hK _ _ (fun _=>⟨nr.bk.cell rfl,nr.bk.cell rfl,ox⟩) ?_;generalize w.heap.size=bt at tm s3 b3 cJ cO lz;generalize A7 ρ1 bt 2=ρ2 at s3 cJ cO lz;generalize (w.alloc (.cells [.int .i64 0,.int .i64 0,.int .i64 0,.int .i64 0,.int .i64 0,.string ⟨[].toArray⟩,.string ⟨[].toArray⟩].toArray 102))=w at s3 b1 b3 nr ox ⊢;refine A1m (i:=11) (by kernel_rfl) rfl rfl fun K hK=>?_;obtain⟨q1,q2,q3⟩:=b3.store (m:=m0) Ba (off:=0) (vs:=L1 t) (show 0+7≤7 by decide) (fun v hv=>by simp only[L1,Bp,Bw,or_false]at hv;rcases hv with rfl|rfl|rfl|rfl|rfl|rfl|rfl<;>rfl) (s3.zr bt (by rw[cO];decide)) s3.z;refine G9 tm V6 rfl rfl rfl rfl (us:=L1 t) rfl rfl q1 (hK _ _ (fun h=>absurd rfl h) ?_);refine B2r (by kernel_rfl) ?_ _;have s4:=s3.stay q3 (fun b _ hs=>by rw[hs,cO];decide);have b1:=q3.bk b1 (fun hs=>by rw[hs,cO]at cJ;cases cJ);have mR:=nr.keep q3 (fun hs=>by rw[hs,cO]at lz;cases lz);have b3:Bk _ bt (L1 t):=q2;generalize (C3 w bt 0 (L1 t))=w at s4 b1 mR b3 ⊢;clear s2 s3 dx nr mh ox q1 q2 q3 HS k1;show(A0 _ _).wp _ _ _ _;refine wsq rfl ?_;refine A6 2 7 rfl rfl ?_;refine Pv tm (C1 tm A2e) fun a tm=>?_;refine Pv tm (D9 tm pl9 rfl rfl (b3.cell rfl)) fun a tm=>?_;refine Pv tm (C1 tm A6w) fun a tm=>?_;refine Pv tm (I9 tm A3s A0k rfl rfl (us:=J5 t.pos) rfl (B6A b3)) fun a tm=>?_;refine Pv tm (A71 tm rfl rfl rfl rfl (cs:=(C5 (.mk 0 t.text false [] [] t.pos)).toArray) (by kernel_rfl)) fun a tm=>?_;refine Ai rfl fun K hK=>K8 tm D8 rfl rfl rfl fun a tm=>hK _ _ ?_;have k5:=G7 w m0 (.cells [.int .i64 0,.string ⟨[].toArray⟩,.bool false,.slice none 0 0,.slice none 0 0,.int .i64 0,.int .i64 0].toArray 46) s4.z;have s5:=s4.stepM k5 (fun _ _ h=>h.elim) 3;have b5:Bk (w.alloc (.cells [.int .i64 0,.string ⟨[].toArray⟩,.bool false,.slice none 0 0,.slice none 0 0,.int .i64 0,.int .i64 0].toArray 46)) w.heap.size (C5 F9):=K1;have eU:A7 ρ2 w.heap.size 3 w.heap.size=3:=H1 (Bd _);have hi:OneI w0 m0 (w.alloc (.cells [.int .i64 0,.string ⟨[].toArray⟩,.bool false,.slice none 0 0,.slice none 0 0,.int .i64 0,.int .i64 0].toArray 46)) m0 (A7 ρ2 w.heap.size 3) cb c ax bz bt w.heap.size t (C5 F9):=
  ⟨s5,mR.keep k5 (fun h=>h),(A5 mR.bk.lt).trans lz,k5.bk b1 (fun h=>h),(A5 b1.lt).trans cJ,k5.bk b3 (fun h=>h),(A5 b3.lt).trans cO,b5,eU⟩
 generalize w.heap.size=bv at tm hi;generalize A7 ρ2 bv 3=ρ at hi;generalize (w.alloc (.cells [.int .i64 0,.string ⟨[].toArray⟩,.bool false,.slice none 0 0,.slice none 0 0,.int .i64 0,.int .i64 0].toArray 46))=w at hi ⊢;clear s4 s5 b1 b3 b5 mR k5 cJ cO lz eU;obtain⟨q1,hi⟩:=hi.setV (off:=0) (vs:=C5 (.mk 0 t.text false [] [] t.pos)) (show 0+7≤7 by decide) (A0C _);have dh:L0 (C5 F9) 0 (C5 (.mk 0 t.text false [] [] t.pos))=C5 (.mk 0 t.text false [] [] t.pos):=rfl;rw[dh]at hi;refine Ps tm D8 q1 ?_;refine Wn ?_;refine wsq rfl ?_;refine wsq rfl ?_;refine A6 3 5 rfl rfl ?_;refine Pm tm fun a tm=>?_;refine Pv tm (A1I tm) fun a tm=>?_;refine Pv tm (C1 tm B33) fun a tm=>?_;refine Pv tm (D9 tm pl3 rfl rfl (hi.cur.bk.cell rfl)) fun a tm=>?_;refine Pv tm (B4I tm) fun a tm=>?_;refine Wn ?_;refine wcn tm rfl _ rfl ?_;have tm:=tm.keep [0,1,4,5,6];have az:(c.kind !=0)= !(c.kind==0):=rfl;rw[az];cases eB:c.kind==0 with
 |false=>
  rw[eB]at hP;simp only[Bt,cond_true,Bg,Bi]at hP;obtain⟨rfl,rfl⟩:=hP;rw[if_pos (by rfl)];refine wsq rfl ?_;obtain⟨r1,r2,r3,r4⟩:=hi.fin (vs:=C5 F9) rfl (A0C _);refine A6 4 2 rfl rfl ?_;refine Pv tm (X8 tm rfl rfl (cs:=(C5 F9).toArray) (by kernel_rfl)) fun a tm=>?_;refine Ai rfl fun K hK=>G9 tm D8 rfl rfl rfl rfl (us:=C5 F9) rfl rfl r1 (hK _ _ ?_);refine Wn ?_;exact P5 rfl (hQ _ _ _ _ _ (tm.sub ⟨rfl,trivial⟩) r2 r4 r3)
 |true=>
  rw[eB]at hP;simp only[Br,cond_false]at hP;rw[if_neg (by simp)];refine K4 rfl ?_;show(A0 _ _).wp _ _ _ _;refine wsq rfl ?_;refine wbl 0 rfl ?_;refine C5C hb hI hi tm hP (fun a w m ρ iY tm hi=>?_) (fun a w m ax bz h1 h2 h3 h4=>hQ a w m ax bz h1 h2 h3 h4);subst iY;show(A0 _ _).wp _ _ _ _;exact C4t (c0:=c) hi tm hQ
theorem call99{I:Inv}(hb:HB I){w0:World}{m0:Nat→Nat}(hI:∀ w m,Ext w0 m0 w m→I w m)(hz:∀ b,w0.heap.size≤b→m0 b=0){cb:Nat}{ae:Bool}{c c0:CurT}{ax:Value}{v0:LitT}(hc:CurB w0 m0 cb c ax)(hP:A09 ae c=some (v0,c0)):
  Calls Ba 99 #[.pointer (some ⟨cb,0,none⟩),.bool ae] w0 fun e w'=>∃ m' cN,e=.returned (.agg (C5 v0).toArray)∧KM w0 m0 w' m' (fun b=>b=cb)∧CurB w' m' cb c0 cN:=by
 refine Cr Tryz.func99 (show Tryz.f99.body=some (A0 Ci [])by kernel_rfl) ?_;refine C3e hb hI hz hc hP (fun a w m ax bz tm yP hk dx=>?_) (A5q (vs:=[.pointer (some ⟨cb,0,none⟩),.bool ae]) (show 2≤154 by decide) fun i v h=>?_)
 ·refine⟨tm.dfr,.agg (C5 v0).toArray,?_,m,ax,rfl,hk,dx⟩;have h4:=tm.get 4 _ rfl;have hl:(Cq 46 ⟨bz,0,none⟩).run Ba w=.ok (.agg (C5 v0).toArray) w:=A1S T4 D8 rfl (fun j u hj=>by rw[Bf];exact yP.cell hj);exact A1q Ba Ci a w [.cell 4 46] (by kernel_rfl) (vs:=[.agg (C5 v0).toArray]) (fun f hf=>by
   simp[hf.tmp,hf.cell,h4,asAddr,hl])
 ·unfold N9 at h
  match i,h with
  |0,h=>cases h;rfl
  |1,h=>cases h;rfl
end Go.Aev
section
namespace Go.Aev
open Go.Proofs
def ClR(w:World)(m:Nat→Nat)(xs:List Value)(ls:List L6):Prop:=xs.length=ls.length∧∀(j:Nat)(lf:L6),ls[j]?=some lf→∃ u:Value,xs[j]?=some u∧CRep U6 w m lf u
section
variable {w w':World}{m m':Nat→Nat}{S:Nat→Prop}{xs us:List Value}{ls jb:List L6}
theorem ClR.keep(h:ClR w m xs ls)(k:KM w m w' m' S):ClR w' m' xs ls:=⟨h.1,fun j lf hj=>by obtain⟨u,h1,h2⟩:=h.2 j lf hj;exact⟨u,h1,h2.mono u6_ok k.ext⟩⟩
theorem ClR.nil:ClR w m [] []:=⟨rfl,fun j lf h=>by simp at h⟩
theorem ClR.append(h:ClR w m xs ls)(h2:LsC U6 w m jb us):ClR w m (xs++us) (ls++jb):=by
 refine⟨by rw[Bb,Bb,h.1,h2.len],fun j lf hj=>?_⟩;by_cases aB:j<ls.length
 ·rw[Dl aB]at hj;obtain⟨u,h3,h4⟩:=h.2 j lf hj;exact⟨u,by rw[Dl (by rw[h.1];exact aB)];exact h3,h4⟩
 ·rw[Da (by omega)]at hj;obtain⟨u,h3,h4⟩:=h2.get _ lf hj;exact⟨u,by rw[Da (by rw[h.1];omega),h.1];exact h3,h4⟩
theorem A3v{t:Ty6}(l:List (A4 t))(x:A4 t):flat U6 t (l++[x])=flat U6 t l++U6.cells t x:=by simp[flat]
theorem ClR.setLast{l:List LfT}{f:LfT}{v:LitT}{vs:List Value}(h:ClR w m xs (flat U6 .lf (l++[f])))(hv:LsC U6 w m (U6.cells .lit v) vs):ClR w m (L0 xs (l.length*10+1) vs) (flat U6 .lf (l++[(f.name,v,f.pos)])):=by
 have cu:vs.length=7:=by rw[←hv.len];rfl
 have bV:(flat U6 .lf l).length=l.length*10:=A2d u6_ok .lf l;have rM:xs.length=l.length*10+10:=by rw[h.1,A3v,Bb,bV];rfl
 obtain⟨o1,o2⟩:=A6B xs (l.length*10+1) vs (by omega);refine⟨by rw[o1,rM,A3v,Bb,bV];rfl,fun j lf hj=>?_⟩;rw[A3v]at hj;by_cases aB:j<l.length*10
 ·rw[Dl (by omega)]at hj;rw[o2,if_neg (by omega)];exact h.2 j lf (by rw[A3v,Dl (by omega)];exact hj)
 ·rw[Da (by omega),bV]at hj;have bQ:=(Dk.1 hj).1;have ri:j - l.length*10<10:=bQ;obtain⟨r,rfl⟩:∃ r,j=l.length*10+r:=⟨j - l.length*10,by omega⟩;rw[Dr]at hj ri;have ph:∀ lf',(U6.cells .lf f)[r]?=some lf'→∃ u:Value,xs[l.length*10+r]?=some u∧CRep U6 w m lf' u:=fun lf' h3=>h.2 _ lf' (by rw[A3v,Da (by omega),bV,Dr];exact h3);by_cases h0:r=0
  ·subst h0;rw[o2,if_neg (by omega)];exact ph lf hj
  ·by_cases h8:r<8
   ·rw[o2,if_pos (by omega),show l.length*10+r - (l.length*10+1)=r - 1 by omega];obtain⟨u,h3,h4⟩:=hv.get (r - 1) lf (by
     match r,h0,h8,hj with
     |1,_,_,hj=>exact hj
     |2,_,_,hj=>exact hj
     |3,_,_,hj=>exact hj
     |4,_,_,hj=>exact hj
     |5,_,_,hj=>exact hj
     |6,_,_,hj=>exact hj
     |7,_,_,hj=>exact hj)
    exact⟨u,h3,h4⟩
   ·rw[o2,if_neg (by omega)];refine ph lf ?_
    match r,h0,h8,ri,hj with
    |8,_,_,_,hj=>exact hj
    |9,_,_,_,hj=>exact hj
end
def P2(x:LitT)(iv fv:Value):List Value:=[.int .i64 x.kind,D5 x.text,.bool x.block,iv,fv,.int .i64 x.pos.line,.int .i64 x.pos.col]
structure EntR(w:World)(m ρ:Nat→Nat)(i:Nat)(vs:List Value)(x:LitT):Prop where
 ex:∃ iv fv xi xf,vs=P2 x iv fv∧ArrN w 7 iv x.items.length xi∧ClR w m xi (flat U6 .lit x.items)∧(∀ b,D6 iv=some b→ρ b=20+2*i)∧
  ArrN w 10 fv x.fields.length xf∧ClR w m xf (flat U6 .lf x.fields)∧(∀ b,D6 fv=some b→ρ b=21+2*i)
def OpR(w:World)(m ρ:Nat→Nat):List LitT→List Value→Prop
 |[],cs=>cs=[]
 |x::am,cs=>∃ a7 vs,cs=a7++vs∧OpR w m ρ am a7∧EntR w m ρ am.length vs x
section
variable {w w':World}{m m' ρ ρ':Nat→Nat}{S:Nat→Prop}{x:LitT}{i:Nat}{vs cs:List Value}{op:List LitT}
theorem EntR.len(h:EntR w m ρ i vs x):vs.length=7:=by obtain⟨iv,fv,_,_,rfl,_⟩:=h.ex;rfl
theorem EntR.keep(h:EntR w m ρ i vs x)(k:KM w m w' m' S)(hS:∀ b,b<w.heap.size→ρ b=20+2*i∨ρ b=21+2*i→¬S b∧ρ' b=ρ b):EntR w' m' ρ' i vs x:=by
 obtain⟨iv,fv,xi,xf,h1,h2,h3,h4,h5,h6,h7⟩:=h.ex;exact⟨iv,fv,xi,xf,h1,k.arr h2 fun b hb=>(hS b (h2.lt hb) (.inl (h4 b hb))).1,h3.keep k,fun b hb=>by rw[(hS b (h2.lt hb) (.inl (h4 b hb))).2];exact h4 b hb,
  k.arr h5 fun b hb=>(hS b (h5.lt hb) (.inr (h7 b hb))).1,h6.keep k,fun b hb=>by rw[(hS b (h5.lt hb) (.inr (h7 b hb))).2];exact h7 b hb⟩
theorem OpR.keep(k:KM w m w' m' S):∀{op:List LitT}{cs:List Value},OpR w m ρ op cs→(∀ b,b<w.heap.size→20≤ρ b→ρ b<20+2*op.length→¬S b∧ρ' b=ρ b)→OpR w' m' ρ' op cs
 |[],cs,h,_=>h
 |x::am,cs,⟨a7,vs,h1,h2,h3⟩,hS=>⟨a7,vs,h1,OpR.keep k h2 (fun b hb h4 h5=>hS b hb h4 (by rw[Bj];omega)),h3.keep k fun b hb h4=>hS b hb (by omega) (by rw[Bj];omega)⟩
theorem OpR.len:∀{op:List LitT}{cs:List Value},OpR w m ρ op cs→cs.length=op.length*7
 |[],cs,h=>by rw[show cs=[]from h];rfl
 |x::am,cs,⟨a7,vs,h1,h2,h3⟩=>by rw[h1,Bb,OpR.len h2,h3.len,Bj,Nat.add_mul]
theorem A8o{iv fv:Value}(h1:∃ a n c,iv=.slice a n c)(h2:∃ a n c,fv=.slice a n c):∀ u∈P2 x iv fv,u.oneCell'=true:=fun u hu=>by
 obtain⟨_,_,_,rfl⟩:=h1;obtain⟨_,_,_,rfl⟩:=h2;simp only[P2,Bp,Bw,or_false]at hu;rcases hu with rfl|rfl|rfl|rfl|rfl|rfl|rfl<;>rfl
theorem EntR.one(h:EntR w m ρ i vs x):∀ u∈vs,u.oneCell'=true:=by
 obtain⟨iv,fv,_,_,rfl,h2,_,_,h5,_⟩:=h.ex;obtain⟨a,c,h3⟩:=h2.len;obtain⟨a',c',h4⟩:=h5.len;exact A8o ⟨_,_,_,h3⟩ ⟨_,_,_,h4⟩
theorem A8z{v:Value}(h:CRep U6 w m (.agg .lit x) v):∃ iv fv,v=.agg (P2 x iv fv).toArray∧CRep U6 w m (.sl .lit x.items none) iv∧CRep U6 w m (.sl .lf x.fields none) fv:=by
 obtain⟨vs,hv,hs⟩:=A4h h
 match vs,hv,hs with
 |[a,b,c,d,e,f,g],hv,⟨h1,h2,h3,h4,h5,h6,h7,_⟩=>
  exact⟨d,e,by rw[hv,CRep.int_inv h1,CRep.str_inv h2,CRep.bool_inv h3,CRep.int_inv h6,CRep.int_inv h7];rfl,h4,h5⟩
theorem A8O{iv fv:Value}(h4:CRep U6 w m (.sl .lit x.items none) iv)(h5:CRep U6 w m (.sl .lf x.fields none) fv):LsC U6 w m (U6.cells .lit x) (P2 x iv fv):=⟨.int _ _,.str _,.bool _,h4,h5,.int _ _,.int _ _,trivial⟩
theorem EntR.shut(h:EntR w m ρ i vs x)(hm:∀ b,ρ b≠0→m b=0)(hz:∀ b,w.heap.size≤b→m b=0):∃ m',LsC U6 w m' (U6.cells .lit x) vs∧KM w m w m' (fun b=>ρ b=20+2*i∨ρ b=21+2*i):=by
 obtain⟨iv,fv,xi,xf,h1,h2,h3,h4,h5,h6,h7⟩:=h.ex;obtain⟨m1,c1,k1⟩:=A5P (U:=U6) u6_ok (t:=.lit) h2 rfl h3.2 (fun b hb=>hm b (by rw[h4 b hb];omega)) hz;have az:∀ b,D6 fv=some b→¬(D6 iv=some b):=fun b hb h8=>by have:=h4 b h8;rw[h7 b hb]at this;omega
 have yQ:=k1.arr h5 az;have yR:=h6.keep k1;obtain⟨m2,c2,k2⟩:=A5P (U:=U6) u6_ok (t:=.lf) yQ rfl yR.2 (fun b hb=>by
  rw[(k1.heap b (h5.lt hb) (az b hb)).2];exact hm b (by rw[h7 b hb];omega)) k1.zero
 refine⟨m2,by rw[h1];exact A8O (c1.mono u6_ok k2.ext) c2,(k1.mono fun b _ hb=>.inl (h4 b hb)).trans (k2.mono fun b _ hb=>Or.inr (h7 b hb)) fun b _ hb=>by rcases hb with hb|hb<;>first|exact .inl hb|exact .inr hb⟩
end
end Go.Aev
namespace Go.Aev
open Go.Proofs
structure LitB(w0:World)(m0:Nat→Nat)(w:World)(m ρ:Nat→Nat)(cb:Nat)(c:CurT)(ax:Value)(bz:Nat)(ov:Value)(n:Nat)(cs:List Value)(op:List LitT)(a7:List Value):Prop where
 sys:Sys w0 m0 (fun b=>b=cb) w m ρ
 cur:CurB w m cb c ax
 cr:ρ cb=7
 z:Bk w bz (C5 F9)
 zr:ρ bz=1
 arr:ArrN w 7 ov n cs
 ar:∀ b,D6 ov=some b→ρ b=6
 opn:OpR w m ρ op a7
section
variable {w0 w w':World}{m0 m m' ρ ρ':Nat→Nat}{cb:Nat}{c c':CurT}{ax cN:Value}{bz:Nat}{ov si:Value}{n n':Nat}{cs av a7 vs:List Value}{op:List LitT}{S:Nat→Prop}{x:LitT}
theorem LitB.z0(h:LitB w0 m0 w m ρ cb c ax bz ov n cs op a7):∀ b,w.heap.size≤b→m b=0:=h.sys.z
theorem LitB.step(h:LitB w0 m0 w m ρ cb c ax bz ov n cs op a7)(k:KM w m w' m' S)(hS:∀ b,b<w.heap.size→S b→(2≤ρ b∧ρ b≤5)∨20+2*op.length≤ρ b)(hm:(∀ b, ¬S b)∨m'=m)(r:Nat)(hr:r≠0→m'=m):LitB w0 m0 w' m' (A7 ρ w.heap.size r) cb c ax bz ov n cs op a7:=by
 have no:∀ b,b<w.heap.size→(ρ b=7∨ρ b=1∨ρ b=6)→¬S b:=fun b hb hr hs=>by have:=hS b hb hs;omega
 refine⟨h.sys.step k (fun b hb hs=>by have:=hS b hb hs;omega) (fun b hb hs=>?_) r (fun h0 b hb=>by rw[hr h0];exact h.z0 b hb),h.cur.keep k (no _ h.cur.bk.lt (.inl h.cr)),by rw[A5 h.cur.bk.lt];exact h.cr,k.bk h.z (no _ h.z.lt (.inr (.inl h.zr))),by rw[A5 h.z.lt];exact h.zr,
  k.arr h.arr fun b hb=>no b (h.arr.lt hb) (.inr (.inr (h.ar b hb))),fun b hb=>by rw[A5 (h.arr.lt hb)];exact h.ar b hb,h.opn.keep k fun b hb h1 h2=>⟨fun hs=>by have:=hS b hb hs;omega,A5 hb⟩⟩
 rcases hm with h1|h1
 ·exact absurd hs (h1 b)
 ·rw[h1];exact h.sys.zr b (by have:=hS b hb hs;omega)
theorem LitB.stepC(h:LitB w0 m0 w m ρ cb c ax bz ov n cs op a7)(k:KM w m w' m' (fun b=>b=cb))(hc:CurB w' m' cb c' cN):LitB w0 m0 w' m' (A7 ρ w.heap.size 0) cb c' cN bz ov n cs op a7:=by
 have no:∀{b:Nat},ρ b≠7→¬b=cb:=fun{b} hr e=>hr (by rw[e];exact h.cr);exact⟨h.sys.step k (fun b _ hs=>by rw[hs,h.cr];decide) (fun b _ hs=>by rw[hs];exact hc.mz) 0 (fun h=>absurd rfl h),hc,by rw[A5 h.cur.bk.lt];exact h.cr,k.bk h.z (no (by rw[h.zr];decide)),by rw[A5 h.z.lt];exact h.zr,
  k.arr h.arr fun b hb=>no (by rw[h.ar b hb];decide),fun b hb=>by rw[A5 (h.arr.lt hb)];exact h.ar b hb,h.opn.keep k fun b hb h1 h2=>⟨no (by omega),A5 hb⟩⟩
theorem LitB.setOpen(h:LitB w0 m0 w m ρ cb c ax bz ov n cs op a7){ob dK:Nat}(dh:ov=.slice (some ⟨ob,0,none⟩) n dK)(mj:D6 ov=some ob){off:Nat}{us:List Value}(aQ:off+us.length≤cs.length)(aF:∀ v∈us,v.oneCell'=true):
  (Ch ⟨ob,off,none⟩ us).run Ba w=.ok () (C3 w ob off us)∧LitB w0 m0 (C3 w ob off us) m ρ cb c ax bz ov n (L0 cs off us) op a7∧KM w m (C3 w ob off us) m (fun b=>b=ob):=by
 have h6:=h.ar ob mj;obtain⟨q1,q2,q3⟩:=h.arr.store (m:=m) Ba dh mj aQ aF (h.sys.zr ob (by rw[h6];decide)) h.z0;have no:∀{b:Nat},ρ b≠6→¬b=ob:=fun{b} hr e=>hr (by rw[e];exact h6);exact⟨q1,⟨h.sys.stay q3 (fun b _ hs=>by rw[hs,h6];decide),h.cur.keep q3 (no (by rw[h.cr];decide)),h.cr,q3.bk h.z (no (by rw[h.zr];decide)),h.zr,q2,h.ar,h.opn.keep q3 fun b hb h1 h2=>⟨no (by omega),rfl⟩⟩,q3⟩
theorem LitB.setBox(h:LitB w0 m0 w m ρ cb c ax bz ov n cs op a7){b:Nat}{us:List Value}(hb:Bk w b us)(hr:2≤ρ b∧ρ b≤5){off:Nat}{vs:List Value}(aQ:off+vs.length≤us.length)(aF:∀ v∈vs,v.oneCell'=true):
  (Ch ⟨b,off,none⟩ vs).run Ba w=.ok () (C3 w b off vs)∧LitB w0 m0 (C3 w b off vs) m ρ cb c ax bz ov n cs op a7∧Bk (C3 w b off vs) b (L0 us off vs)∧KM w m (C3 w b off vs) m (fun k=>k=b):=by
 obtain⟨q1,q2,q3⟩:=hb.store (m:=m) Ba aQ aF (h.sys.zr b (by omega)) h.z0;have no:∀{d:Nat},(ρ d<2∨5<ρ d)→¬d=b:=fun{d} h1 e=>by rw[e]at h1;omega
 exact⟨q1,⟨h.sys.stay q3 (fun d _ hs=>by rw[hs];omega),h.cur.keep q3 (no (by rw[h.cr];decide)),h.cr,q3.bk h.z (no (by rw[h.zr];decide)),h.zr,q3.arr h.arr fun d hd=>no (by rw[h.ar d hd];decide),h.ar,h.opn.keep q3 fun d hd h1 h2=>⟨no (by omega),rfl⟩⟩,q2,q3⟩
theorem LitB.pop(h:LitB w0 m0 w m ρ cb c ax bz ov (op.length+1) (a7++vs) (x::op) (a7++vs))(h0:a7.length=op.length*7){oa:Option Addr}{dK:Nat}(dh:ov=.slice oa (op.length+1) dK):∃ m' ρ',LitB w0 m0 w m' ρ' cb c ax bz (.slice oa op.length dK) op.length a7 op a7∧LsC U6 w m' (U6.cells .lit x) vs∧KM w m w m' (fun b=>20+2*op.length≤ρ b)∧(∀ b,ρ b<20→ρ' b=ρ b):=by
 classical
 obtain⟨ek,dE,e1,e2,e3⟩:=h.opn;have gm:=e2.len;obtain⟨rfl,rfl⟩:a7=ek∧vs=dE:=by
  have:=Ez e1 (by rw[h0,gm]);exact this
 obtain⟨m',hc,k⟩:=e3.shut h.sys.zr h.z0;have bZ:∀ b,(ρ b=20+2*op.length∨ρ b=21+2*op.length)→20+2*op.length≤ρ b:=fun b hb=>by omega
 have no:∀ b,ρ b<20+2*op.length→¬(ρ b=20+2*op.length∨ρ b=21+2*op.length):=fun b hb=>by omega
 have cd:=h.arr;rw[dh]at cd;have gA:=cd.cut (k:=op.length) (by omega);rw[List.take_append_of_le_length (by omega),List.take_of_length_le (by omega)]at gA;refine⟨m',fun b=>if ρ b=20+2*op.length∨ρ b=21+2*op.length then 0 else ρ b,⟨h.sys.close k (fun b _ hs=>by omega) (fun b hb=>?_),h.cur.keep k (no _ (by rw[h.cr];omega)),?_,k.bk h.z (no _ (by rw[h.zr];omega)),?_,gA,fun b hb=>?_,e2.keep k fun b hb h1 h2=>⟨no b (by omega),if_neg (no b (by omega))⟩⟩,hc,k.mono fun b _ hb=>bZ b hb,fun b hb=>if_neg (no b (by omega))⟩
 ·by_cases hs:ρ b=20+2*op.length∨ρ b=21+2*op.length
  ·simp only[if_pos hs]at hb;exact absurd rfl hb
  ·simp only[if_neg hs]at hb;exact⟨hb,hs⟩
 ·simp only[if_neg (no cb (by rw[h.cr];omega))];exact h.cr
 ·simp only[if_neg (no bz (by rw[h.zr];omega))];exact h.zr
 ·have h6:=h.ar b (by rw[dh];exact(A75 (m:=op.length)).trans hb);simp only[if_neg (no b (by rw[h6];omega))];exact h6
theorem LitB.push(h:LitB w0 m0 w m ρ cb c ax bz ov n cs op cs)(hn:n=op.length)(k:KM w m w' m S)(hS:∀ b,b<w.heap.size→S b→ρ b=6)(cd:ArrN w' 7 si (n+1) (cs++C5 x))(hb:∀ b,D6 si=some b→D6 ov=some b∨w.heap.size≤b)(hx:x.items=[]∧x.fields=[]):
  LitB w0 m0 w' m (A7 ρ w.heap.size 6) cb c ax bz si (n+1) (cs++C5 x) (x::op) (cs++C5 x):=by
 have no:∀ b,b<w.heap.size→ρ b≠6→¬S b:=fun b hb az hs=>az (hS b hb hs);refine⟨h.sys.stepM k (fun b hb hs=>by rw[hS b hb hs];decide) 6,h.cur.keep k (no _ h.cur.bk.lt (by rw[h.cr];decide)),by rw[A5 h.cur.bk.lt];exact h.cr,k.bk h.z (no _ h.z.lt (by rw[h.zr];decide)),by rw[A5 h.z.lt];exact h.zr,cd,fun b h1=>?_,
  cs,C5 x,rfl,h.opn.keep k fun b hb h1 h2=>⟨no b hb (by omega),A5 hb⟩,⟨.slice none 0 0,.slice none 0 0,[],[],rfl,by rw[hx.1];exact ArrN.nil,by rw[hx.1];exact ClR.nil,fun b hb=>by simp[D6]at hb,by rw[hx.2];exact ArrN.nil,by rw[hx.2];exact ClR.nil,fun b hb=>by simp[D6]at hb⟩⟩
 rcases hb b h1 with h2|h2
 ·rw[A5 (h.arr.lt h2)];exact h.ar b h2
 ·exact H1 h2
end
end Go.Aev
end
namespace Go.Aev
open Go.Proofs
theorem A3B{w:World}{ov:Value}{n:Nat}{a7 vs:List Value}(h:ArrN w 7 ov (n+1) (a7++vs))(h0:a7.length=n*7):
  ∃ ob dK,ov=.slice (some ⟨ob,0,none⟩) (n+1) dK∧D6 ov=some ob∧n+1≤dK∧∀(j:Nat) u,vs[j]?=some u→w.cell? ⟨ob,0+n*7+j,none⟩=some u:=by
 obtain⟨b,cap,hv,_,hb,aQ,hc⟩:=h.blk (by omega);refine⟨b,cap,hv,hb,aQ,fun j u hj=>?_⟩;rw[Bf];refine(hc (n*7+j) u ?_).1;rw[Da (by omega),h0,Dr];exact hj
theorem C5d{w:World}{m:Nat→Nat}{v:LitT}{vv:List Value}(hv:LsC U6 w m (U6.cells .lit v) vv):∀ u∈vv,u.oneCell'=true:=fun u hu=>by
 obtain⟨rj,rk,q1,q2,q3⟩:=A8z (U5 hv);have:vv=P2 v rj rk:=by
  simp only[De]at q1;have:=congrArg Dn q1;simpa using this
 rw[this]at hu;obtain⟨_,_,q4⟩:=q2.sl_inv;obtain⟨_,_,q5⟩:=q3.sl_inv;exact A8o ⟨_,_,_,q4⟩ ⟨_,_,_,q5⟩ u hu
theorem B6z(a7 vs us:List Value)(h:vs.length=us.length):L0 (a7++vs) a7.length us=a7++us:=by
 unfold L0;rw[List.take_left,Eu (by rw[Bb];omega),Cv]
theorem V4(vs us:List Value)(h:vs.length=us.length):L0 vs 0 us=us:=by
 unfold L0;rw[El,Cx,Eu (by omega),Cv]
theorem B5y{w0:World}{m0:Nat→Nat}{cb bz:Nat}{ae:Bool}{c:CurT}{ax ov:Value}{Q:Exit→Act→World→Prop}{a:Act}{w:World}{m ρ:Nat→Nat}{a7 vt:List Value}{r2:List LitT}{dC:LitT}{kR:List Value}{oy:Nat}(hi:LitB w0 m0 w m ρ cb c ax bz ov (r2.length+1) (a7++vt) r2 a7)(cu:vt.length=7)(hs:r2.length≤549755813888)(he:EntR w m ρ r2.length kR dC)(hb:Bk w oy kR)(tm:Tm a 147 [(0,.pointer (some ⟨cb,0,none⟩)),(1,.bool ae),(4,.pointer (some ⟨bz,0,none⟩)),(6,ov),(12,.pointer (some ⟨oy,0,none⟩))])
  (hk:∀ a w ρ cs,Tm a 147 [(0,.pointer (some ⟨cb,0,none⟩)),(1,.bool ae),(4,.pointer (some ⟨bz,0,none⟩)),(6,ov)]→LitB w0 m0 w m ρ cb c ax bz ov (r2.length+1) cs (dC::r2) cs→Q .normal a w):(A0 Bq [1,1,0,0,0,1,0,1,1,1,1,1,1,1]).wp Ba Q a w:=by
 have h0:=hi.opn.len;have ml:=he.len;obtain⟨ob,dK,dh,mj,aQ,aw⟩:=A3B hi.arr h0;have bU:Bh .i64 (((r2.length+1:Nat):Int) - 1)=(r2.length:Int):=by rw[N3 (by omega) (by omega)];omega
 obtain⟨q1,aT,q3⟩:=hi.setOpen dh mj (off:=0+r2.length*7) (us:=kR) (by rw[Bf,Bb];omega) he.one;have kS:L0 (a7++vt) (0+r2.length*7) kR=a7++kR:=by rw[Bf, ←h0];exact B6z a7 vt kR (by omega)
 rw[kS]at aT;have dT:=he.keep (ρ':=ρ) q3 (fun b _ hb=>⟨fun e=>by rw[e,hi.ar ob mj]at hb;omega,rfl⟩);have du:LitB w0 m0 _ m ρ cb c ax bz ov (r2.length+1) (a7++kR) (dC::r2) (a7++kR):={aT with opn:=⟨a7,kR,rfl,aT.opn,dT⟩};refine A6 25 7 rfl rfl ?_;refine Pm tm fun a tm=>?_;refine Pm tm fun a tm=>?_;refine Pv tm (O4 tm M6 rfl rfl rfl rfl rfl dh) fun a tm=>?_;refine Pv tm (S2 tm) fun a tm=>?_;refine Pv tm (I9 tm T4 D8 rfl rfl (us:=kR) ml (fun j u hj=>by rw[Bf j];exact hb.cell hj)) fun a tm=>?_;refine Pv tm (R6 tm M6 D8 rfl rfl dh rfl bU (by omega)) fun a tm=>?_;refine Ai rfl fun K hK=>G9 tm D8 rfl rfl rfl rfl (us:=kR) rfl ml q1 (hK _ _ ?_);refine Be ?_;exact hk _ _ _ _ (tm.sub ⟨rfl,rfl,rfl,rfl,trivial⟩) du
theorem C1B{w0:World}{m0:Nat→Nat}{cb bz:Nat}{ae:Bool}{c:CurT}{ax ov:Value}{Q:Exit→Act→World→Prop}{a:Act}{w:World}{m ρ:Nat→Nat}{a7 vt:List Value}{r2:List LitT}{top:LitT}{dC v:LitT}{vv:List Value}{bv:Nat}(hP:A6G top v=some dC)(hi:LitB w0 m0 w m ρ cb c ax bz ov (r2.length+1) (a7++vt) r2 a7)(hs:r2.length≤549755813888)(he:EntR w m ρ r2.length vt top)(hv:LsC U6 w m (U6.cells .lit v) vv)(ba:Bk w bv vv)(aY:ρ bv=5)(tm:Tm a 147 [(0,.pointer (some ⟨cb,0,none⟩)),(1,.bool ae),(4,.pointer (some ⟨bz,0,none⟩)),(6,ov),(8,.pointer (some ⟨bv,0,none⟩))])
  (hk:∀ a w ρ cs,Tm a 147 [(0,.pointer (some ⟨cb,0,none⟩)),(1,.bool ae),(4,.pointer (some ⟨bz,0,none⟩)),(6,ov)]→LitB w0 m0 w m ρ cb c ax bz ov (r2.length+1) cs (dC::r2) cs→Q .normal a w):(A0 Bq [1,1,0,0,0,1,0,1,1,1,1,1]).wp Ba Q a w:=by
 have h0:=hi.opn.len;have cu:=he.len;have iE:vv.length=7:=by rw[←hv.len];rfl
 obtain⟨ob,dK,dh,mj,aQ,aw⟩:=A3B hi.arr h0;have bU:Bh .i64 (((r2.length+1:Nat):Int) - 1)=(r2.length:Int):=by rw[N3 (by omega) (by omega)];omega
 refine wsq rfl ?_;refine A6 21 8 rfl rfl ?_;refine Pm tm fun a tm=>?_;refine Pm tm fun a tm=>?_;refine Pv tm (O4 tm M6 rfl rfl rfl rfl rfl dh) fun a tm=>?_;refine Pv tm (S2 tm) fun a tm=>?_;refine Pv tm (R6 tm M6 D8 rfl rfl dh rfl bU (by omega)) fun a tm=>?_;refine Pv tm (I9 tm T4 D8 rfl rfl (us:=vt) cu aw) fun a tm=>?_;refine Ai rfl fun K hK=>K8 tm D8 rfl rfl rfl fun a tm=>hK _ _ ?_;have k1:=G7 w m (.cells [.int .i64 0,.string ⟨[].toArray⟩,.bool false,.slice none 0 0,.slice none 0 0,.int .i64 0,.int .i64 0].toArray 46) hi.z0;have bP:=hi.step k1 (fun _ _ h=>h.elim) (.inl fun _ h=>h) 4 (fun _=>rfl);have keep:∀ b,b<w.heap.size→A7 ρ w.heap.size 4 b=ρ b:=fun b hb=>A5 hb;have ft:=he.keep (ρ':=A7 ρ w.heap.size 4) k1 (fun b hb _=>⟨fun h=>h,keep b hb⟩);have ej:=hv.mono u6_ok k1.ext;have mn:=(keep bv ba.lt).trans aY;have oA:=k1.bk ba (fun h=>h);have oy:Bk (w.alloc (.cells [.int .i64 0,.string ⟨[].toArray⟩,.bool false,.slice none 0 0,.slice none 0 0,.int .i64 0,.int .i64 0].toArray 46)) w.heap.size (C5 F9):=K1;have iF:A7 ρ w.heap.size 4 w.heap.size=4:=H1 (Bd _);generalize w.heap.size=bt at tm bP ft mn oy iF keep;generalize A7 ρ bt 4=ρ at bP ft mn iF keep;generalize (w.alloc (.cells [.int .i64 0,.string ⟨[].toArray⟩,.bool false,.slice none 0 0,.slice none 0 0,.int .i64 0,.int .i64 0].toArray 46))=w at bP ft ej oA oy k1 ⊢;clear keep k1 hi he hv ba aY aw;obtain⟨q1,aT,q2,q3⟩:=bP.setBox oy (by rw[iF];decide) (off:=0) (vs:=vt) (by rw[cu];decide) ft.one;rw[V4 (C5 F9) vt (by rw[cu];rfl)]at q2;refine Ai rfl fun K hK=>G9 tm D8 rfl rfl rfl rfl (us:=vt) rfl cu q1 (hK _ _ ?_);have dT:=ft.keep (ρ':=ρ) q3 (fun b _ hb=>⟨fun e=>by rw[e,iF]at hb;omega,rfl⟩);have ed:=ej.mono u6_ok q3.ext;have oB:=q3.bk oA (fun e=>by rw[e,iF]at mn;cases mn);generalize (C3 w bt 0 vt)=w at aT q2 dT ed oB ⊢;clear q1 q3 bP ft ej oA oy;refine Wn ?_;refine wsq rfl ?_;refine wsq rfl ?_;have tm:=tm.keep [0,1,4,6,8,12];obtain⟨iv,fv,xi,xf,e1,e2,e3,e4,e5,e6,e7⟩:=dT.ex;have cg:Bk w bt (P2 top iv fv):=by rw[←e1];exact q2
 refine A6 22 3 rfl rfl ?_;refine Pv tm (C1 tm V1) fun a tm=>?_;refine Pv tm (D9 tm A4o rfl rfl (cg.cell rfl)) fun a tm=>?_;refine Pv tm (N6 tm) fun a tm=>?_;refine Wn ?_;refine wcn tm rfl _ rfl ?_;have tm:=tm.keep [0,1,4,6,8,12];unfold A6G at hP;cases h9:top.kind==9 with
 |true=>
  rw[h9,cond_true]at hP;rw[if_pos rfl];split at hP
  ·cases hP
  rename_i f hf;cases cq:O2 top.fields.dropLast.length with
  |false=>rw[cq]at hP;cases hP
  |true=>
  rw[cq,cond_true]at hP;have df:=Cw hP;have lq:top.fields=top.fields.dropLast++[f]:=by obtain⟨ys,hy⟩:=List.getLast?_eq_some_iff.1 hf;rw[hy,List.dropLast_concat]
  generalize AB:top.fields.dropLast=fi at df lq cq;have bV:fi.length≤549755813888:=by simpa [O2]using cq
  rw[lq]at e5 e6;rw[Bb,Di]at e5;obtain⟨fb,yS,uG,_,uH,yT,AC⟩:=e5.blk (by omega);have cz:Bh .i64 (((fi.length+1:Nat):Int) - 1)=(fi.length:Int):=by rw[N3 (by omega) (by omega)];omega
  have AD:xf.length=(fi.length+1)*10:=e5.xlen;obtain⟨p1,p2,p3⟩:=e5.store (m:=m) Ba uG uH (off:=0+fi.length*10+1) (vs:=vv) (by omega) (fun u hu=>by
   obtain⟨rj,rk,g1,g2,g3⟩:=A8z (U5 ed);have:vv=P2 v rj rk:=by
    simp only[De]at g1;have:=congrArg Dn g1;simpa using this
   rw[this]at hu;obtain⟨_,_,g4⟩:=g2.sl_inv;obtain⟨_,_,g5⟩:=g3.sl_inv;exact A8o ⟨_,_,_,g4⟩ ⟨_,_,_,g5⟩ u hu) (aT.sys.zr fb (by rw[e7 fb uH];omega)) aT.z0
  refine A6 23 10 rfl rfl ?_;refine Pv tm (C1 tm A9z) fun a tm=>?_;refine Pv tm (D9 tm B19 rfl rfl (cg.cell rfl)) fun a tm=>?_;refine Pv tm (C1 tm A9z) fun a tm=>?_;refine Pv tm (D9 tm B19 rfl rfl (cg.cell rfl)) fun a tm=>?_;refine Pv tm (O4 tm A5F rfl rfl rfl rfl rfl uG) fun a tm=>?_;refine Pv tm (S2 tm) fun a tm=>?_;refine Pv tm (I9 tm T4 D8 rfl rfl (us:=vv) iE (fun j u hj=>by rw[Bf j];exact oB.cell hj)) fun a tm=>?_;refine Pv tm (R6 tm A5F B3U rfl rfl uG rfl cz (by omega)) fun a tm=>?_;refine Pv tm (C1 tm C1k) fun a tm=>?_;refine Ai rfl fun K hK=>G9 tm D8 rfl rfl rfl rfl (us:=vv) rfl iE p1 (hK _ _ ?_);refine Wn ?_;have cO:=e7 fb uH;have du:=aT.step p3 (fun b _ hs=>by rw[hs,cO];omega) (.inr rfl) 0 (fun h=>absurd rfl h);have keep:∀ b,b<w.heap.size→A7 ρ w.heap.size 0 b=ρ b:=fun b hb=>A5 hb;have uI:=p3.bk q2 (fun e=>by rw[e,cO]at iF;omega);have yU:EntR (C3 w fb (0+fi.length*10+1) vv) m (A7 ρ w.heap.size 0) r2.length vt dC:=by
   have c2:=e6.setLast ed;rw[←Bf (fi.length*10)]at c2;refine⟨iv,fv,xi,L0 xf (0+fi.length*10+1) vv,by rw[e1, ←df];rfl,?_,?_,fun b hb=>?_,?_,?_,fun b hb=>?_⟩
   ·rw[←df];exact p3.arr e2 fun b hb hs=>by have h1:=e4 b hb;rw[hs,cO]at h1;omega
   ·rw[←df];exact e3.keep p3
   ·rw[keep b (e2.lt hb)];exact e4 b hb
   ·rw[←df];show ArrN _ 10 fv (fi++[(f.name,v,f.pos)]).length _;rw[Bb,Di];exact p2
   ·rw[←df];exact c2.keep p3
   ·rw[keep b (e5.lt hb)];exact e7 b hb
  exact B5y du cu hs yU uI (tm.sub ⟨rfl,rfl,rfl,rfl,rfl,trivial⟩) hk
 |false=>
  rw[h9,cond_false]at hP;rw[if_neg (by simp)];cases cq:O2 top.items.length with
  |false=>rw[cq]at hP;cases hP
  |true=>
  rw[cq,cond_true]at hP;have df:=Cw hP;have bV:top.items.length≤549755813888:=by simpa [O2]using cq
  refine A6 24 7 rfl rfl ?_;refine Pv tm (C1 tm B5X) fun a tm=>?_;refine Pv tm (D9 tm D0A rfl rfl (cg.cell rfl)) fun a tm=>?_;refine Pv tm (I9 tm T4 D8 rfl rfl (us:=vv) iE (fun j u hj=>by rw[Bf j];exact oB.cell hj)) fun a tm=>?_;refine Ai rfl fun K hK=>A04 tm M6 D8 rfl rfl rfl rfl rfl (us:=vv) rfl iE rfl (by decide) (by decide) fun a tm=>hK _ _ ?_;have k1:=G7 w m (.cells vv.toArray 46) aT.z0;have du:=aT.step k1 (fun _ _ h=>h.elim) (.inl fun _ h=>h) 0 (fun h=>absurd rfl h);have keep:∀ b,b<w.heap.size→A7 ρ w.heap.size 0 b=ρ b:=fun b hb=>A5 hb;have dg:ArrN (w.alloc (.cells vv.toArray 46)) 7 (.slice (some ⟨w.heap.size,0,none⟩) 1 1) 1 vv:=A0Y (w:=w) iE rfl (Bd _) (by simp[iE]) (fun j x hj=>by simpa using hj);have g2:=k1.arr e2 (fun _ _ h=>h);have g3:=e3.keep k1;have g4:∀ b,D6 iv=some b→A7 ρ w.heap.size 0 b=20+2*r2.length:=fun b hb=>by rw[keep b (e2.lt hb)];exact e4 b hb
  have g5:=k1.arr e5 (fun _ _ h=>h);have g6:=e6.keep k1;have g7:∀ b,D6 fv=some b→A7 ρ w.heap.size 0 b=21+2*r2.length:=fun b hb=>by rw[keep b (e5.lt hb)];exact e7 b hb
  have g8:=k1.bk cg (fun h=>h);have g9:=(keep bt cg.lt).trans iF;have wQ:=ed.mono u6_ok k1.ext;have uJ:∀ u∈vv,u.oneCell'=true:=fun u hu=>by
   obtain⟨rj,rk,q1,q2,q3⟩:=A8z (U5 ed);have:vv=P2 v rj rk:=by
    simp only[De]at q1;have:=congrArg Dn q1;simpa using this
   rw[this]at hu;obtain⟨_,_,q4⟩:=q2.sl_inv;obtain⟨_,_,q5⟩:=q3.sl_inv;exact A8o ⟨_,_,_,q4⟩ ⟨_,_,_,q5⟩ u hu
  generalize w.heap.size=wn at tm du dg g4 g7 g9 keep;generalize A7 ρ wn 0=ρ' at du g4 g7 g9 keep;generalize (w.alloc (.cells vv.toArray 46))=w1 at du dg g2 g3 g5 g6 g8 wQ k1 ⊢;obtain⟨ie,z,d1,d2,d3,d4,d5⟩:=V9 D8;obtain⟨mo,w2,ag,aP,cI,cj⟩:=A3g (P:=Ba) (t:=41) (u:=41) (ty:=41) (e:=46) (y:=.slice (some ⟨wn,0,none⟩) 1 1) (k:=1) (ys:=vv) (m:=m) M6 (.inl ⟨46,M6⟩) d1 d2 d4 (by rw[d5];rfl) g2 (by simp[Dz]) (dg.first _) iE uJ (fun b hb=>du.sys.zr b (by rw[g4 b hb];omega)) du.z0 (by rw[d3];omega) (by rw[d3];decide);have pm:=du.step cI (fun b _ hs=>by rw[g4 b hs];omega) (.inr rfl) (20+2*r2.length) (fun _=>rfl);have dW:∀ b,b<w1.heap.size→A7 ρ' w1.heap.size (20+2*r2.length) b=ρ' b:=fun b hb=>A5 hb;have i4:∀ b,D6 mo=some b→A7 ρ' w1.heap.size (20+2*r2.length) b=20+2*r2.length:=fun b hb=>by
   rcases cj b hb with h|h
   ·rw[dW b (g2.lt h)];exact g4 b h
   ·exact H1 h
  have i5:=cI.arr g5 (fun b hb hs=>by have h1:=g7 b hb;rw[g4 b hs]at h1;omega);have i7:∀ b,D6 fv=some b→A7 ρ' w1.heap.size (20+2*r2.length) b=21+2*r2.length:=fun b hb=>by rw[dW b (g5.lt hb)];exact g7 b hb
  have i8:=cI.bk g8 (fun hs=>by have h1:=g4 bt hs;rw[g9]at h1;omega);have i9:=(dW bt g8.lt).trans g9;have i3:ClR w2 m (xi++vv) (flat U6 .lit (top.items++[v])):=by rw[A3v];exact(g3.append wQ).keep cI
  obtain⟨pa,iB,kT⟩:=aP.len;obtain⟨q1,pn,sj,q3⟩:=pm.setBox i8 (by rw[i9];decide) (off:=0+3) (vs:=[mo]) (by simp[P2]) (fun u hu=>by rcases Bm.1 hu with rfl;rw[kT];rfl);refine Ai rfl fun K hK=>A25 tm rfl rfl rfl rfl rfl rfl rfl rfl ag fun a tm=>hK _ _ ?_;refine Pv tm (C1 tm B5X) fun a tm=>?_;refine Ai rfl fun K hK=>G9 tm C7Z rfl rfl rfl rfl (us:=[mo]) (by rw[kT];rfl) rfl q1 (hK _ _ ?_);refine Be ?_;show(A0 _ _).wp _ _ _ _;have mq:Bk _ bt (P2 top mo fv):=sj;have yV:(P2 top mo fv).length=7:=rfl;have oC:EntR (C3 w2 bt (0+3) [mo]) m (A7 ρ' w1.heap.size (20+2*r2.length)) r2.length (P2 top mo fv) dC:=by
   refine⟨mo,fv,xi++vv,xf,by rw[←df];rfl,?_,?_,i4,?_,?_,i7⟩
   ·rw[←df];show ArrN _ 7 mo (top.items++[v]).length _;rw[Bb,Di];exact q3.arr aP fun b hb hs=>by have h1:=i4 b hb;rw[hs,i9]at h1;omega
   ·rw[←df];exact i3.keep q3
   ·rw[←df];exact q3.arr i5 fun b hb hs=>by have h1:=i7 b hb;rw[hs,i9]at h1;omega
   ·rw[←df];exact(g6.keep cI).keep q3
  exact B5y pn cu hs oC mq (tm.sub ⟨rfl,rfl,rfl,rfl,rfl,trivial⟩) hk
def B3C(w0:World)(m0:Nat→Nat)(cb:Nat)(v:LitT)(ok:Bool)(c:CurT)(Q:Exit→Act→World→Prop):Prop:=
 ∀ a w m ax bz us,Tm a 147 [(4,.pointer (some ⟨bz,0,none⟩)),(5,.bool ok)]→Bk w bz us→LsC U6 w m (U6.cells .lit v) us→KM w0 m0 w m (fun b=>b=cb)→CurB w m cb c ax→Q .ret a w
theorem B8E{w0:World}{m0:Nat→Nat}{cb bz:Nat}{ae:Bool}{c:CurT}{ax ov:Value}{Q:Exit→Act→World→Prop}{a:Act}{w:World}{m ρ:Nat→Nat}{cs:List Value}{op:List LitT}{v:LitT}{vv:List Value}{bv:Nat}{r:A6M ⊕ (CurT×List LitT)}
  (hP:A38 v c op=some r)(hi:LitB w0 m0 w m ρ cb c ax bz ov op.length cs op cs)(hs:op.length≤549755813889)(hv:LsC U6 w m (U6.cells .lit v) vv)(ba:Bk w bv vv)(aY:ρ bv=5)(tm:Tm a 147 [(0,.pointer (some ⟨cb,0,none⟩)),(1,.bool ae),(4,.pointer (some ⟨bz,0,none⟩)),(6,ov),(8,.pointer (some ⟨bv,0,none⟩))])
  (uK:∀ a w m ρ ov n cs a7,r=.inl (F9,false,c)→Tm a 147 [(0,.pointer (some ⟨cb,0,none⟩)),(1,.bool ae),(4,.pointer (some ⟨bz,0,none⟩)),(6,ov)]→LitB w0 m0 w m ρ cb c ax bz ov n cs op a7→Q (.exit 0) a w)
  (hQ:r=.inl (v,true,c)→B3C w0 m0 cb v true c Q)
  (hk:∀ a w ρ cs eF ov,r=.inr (c,eF)→eF.length=op.length→Tm a 147 [(0,.pointer (some ⟨cb,0,none⟩)),(1,.bool ae),(4,.pointer (some ⟨bz,0,none⟩)),(6,ov)]→LitB w0 m0 w m ρ cb c ax bz ov eF.length cs eF cs→Q .normal a w):(A0 Bq [1,1,0,0,0,1,0,1,1,1]).wp Ba Q a w:=by
 unfold A38 at hP;refine wsq rfl ?_;refine wsq rfl ?_;refine A6 18 5 rfl rfl ?_;refine Pm tm fun a tm=>?_;refine Pv tm (A1I tm) fun a tm=>?_;refine Pv tm (C1 tm B33) fun a tm=>?_;refine Pv tm (D9 tm pl3 rfl rfl (hi.cur.bk.cell rfl)) fun a tm=>?_;refine Pv tm (B4I tm) fun a tm=>?_;refine Wn ?_;refine wcn tm rfl _ rfl ?_;have tm:=tm.keep [0,1,4,6,8];have az:(c.kind !=0)= !(c.kind==0):=rfl;rw[az];cases eB:c.kind==0 with
 |false=>
  rw[eB]at hP;simp only[Bt,cond_true,Bg]at hP;rw[if_pos (by rfl)];refine A1f 0 rfl ?_;exact uK _ _ _ _ _ _ _ _ hP.symm (tm.sub ⟨rfl,rfl,rfl,rfl,trivial⟩) hi
 |true=>
  rw[eB]at hP;simp only[Br,cond_false]at hP;rw[if_neg (by simp)];refine K4 rfl ?_;show(A0 _ _).wp _ _ _ _;refine wsq rfl ?_;refine wsq rfl ?_;obtain⟨oa,dK,dh⟩:=hi.arr.len;refine A6 19 3 rfl rfl ?_;refine Pm tm fun a tm=>?_;refine Pv tm (O4 tm M6 rfl rfl rfl rfl rfl dh) fun a tm=>?_;refine Pv tm (N6 tm) fun a tm=>?_;refine Wn ?_;refine wcn tm rfl _ rfl ?_;have tm:=tm.keep [0,1,4,6,8];cases op with
  |nil=>
   simp only[Bg]at hP;rw[if_pos (by simp)];have cu:vv.length=7:=by rw[←hv.len];rfl
   obtain⟨q1,q2,q3⟩:=hi.z.store (m:=m) Ba (off:=0) (vs:=vv) (by rw[cu];decide) (C5d hv) (hi.sys.zr bz (by rw[hi.zr];decide)) hi.z0;rw[V4 (C5 F9) vv (by rw[cu];rfl)]at q2;refine wsq rfl ?_;refine A6 20 3 rfl rfl ?_;refine Pv tm (I9 tm T4 D8 rfl rfl (us:=vv) cu (fun j u hj=>by rw[Bf j];exact ba.cell hj)) fun a tm=>?_;refine Ai rfl fun K hK=>G9 tm D8 rfl rfl rfl rfl (us:=vv) rfl cu q1 (hK _ _ ?_);refine Pa tm fun a tm=>?_;refine Wn ?_;refine P5 rfl ?_;exact hQ hP.symm _ _ _ ax _ _ (tm.sub ⟨rfl,rfl,trivial⟩) q2 (hv.mono u6_ok q3.ext) (hi.sys.stay q3 (fun b _ hs=>by rw[hs,hi.zr];decide)).km (hi.cur.keep q3 (fun e=>by have:=hi.cr;rw[e,hi.zr]at this;cases this))
  |cons top r2=>
   rw[if_neg (by simp;omega)];refine K4 rfl ?_;dsimp only at hP;split at hP
   ·cases hP
   rename_i dC kj;simp only[Bg]at hP;obtain⟨a7,vt,e1,e2,e3⟩:=hi.opn;rw[Bj]at hs;have aT:LitB w0 m0 w m ρ cb c ax bz ov (r2.length+1) (a7++vt) r2 a7:={hi with arr:=by rw[←e1];exact hi.arr,opn:=e2};show(A0 _ _).wp _ _ _ _;exact C1B kj aT (by omega) e3 hv ba aY (tm.sub ⟨rfl,rfl,rfl,rfl,rfl,trivial⟩) fun a w ρ cs tm hi=>hk _ _ _ _ (dC::r2) _ hP.symm rfl tm hi
theorem C99{w:World}{m:Nat→Nat}{x:Q4}{v:Value}(h:CRep U6 w m (.agg .named x) v):v=.agg [D5 x.name,.int .i64 x.pos.line,.int .i64 x.pos.col].toArray:=by
 obtain⟨vs,hv,hs⟩:=A4h h;rw[hv,A8f hs (us:=[D5 x.name,.int .i64 x.pos.line,.int .i64 x.pos.col]) rfl]
def lfV(nm:Q4):List Value:=[D5 nm.name,.int .i64 0,D5 [],.bool false,.slice none 0 0,.slice none 0 0,.int .i64 0,.int .i64 0,.int .i64 nm.pos.line,.int .i64 nm.pos.col]
theorem D1p{w:World}{m:Nat→Nat}(nm:Q4):LsC U6 w m (U6.cells .lf (nm.name,F9,nm.pos)) (lfV nm):=⟨.str _,.int _ _,.str _,.bool _,.nil _ _ _ _,.nil _ _ _ _,.int _ _,.int _ _,.int _ _,.int _ _,trivial⟩
theorem C8z{I:Inv}(hb:HB I){w0:World}{m0:Nat→Nat}{cb bz:Nat}{ae:Bool}{c:CurT}{ax ov:Value}{Q:Exit→Act→World→Prop}{a:Act}{w:World}{m ρ:Nat→Nat}{a7 vt:List Value}{r2:List LitT}{top:LitT}{dC:LitT}{c':CurT}{bv:Nat}{us:List Value}(hI:∀ w m,Ext w0 m0 w m→I w m)(h9:top.kind==9)(hP:A43 top c=some (dC,c'))(hi:LitB w0 m0 w m ρ cb c ax bz ov (r2.length+1) (a7++vt) (top::r2) (a7++vt))(hs:r2.length≤549755813888)(h0:a7.length=r2.length*7)(tm:Tm a 147 [(0,.pointer (some ⟨cb,0,none⟩)),(1,.bool ae),(4,.pointer (some ⟨bz,0,none⟩)),(6,ov),(8,.pointer (some ⟨bv,0,none⟩))])(ba:Bk w bv us)(aY:ρ bv=5)
  (hk:∀ a w m ρ cs ax,Tm a 147 [(0,.pointer (some ⟨cb,0,none⟩)),(1,.bool ae),(4,.pointer (some ⟨bz,0,none⟩)),(6,ov),(8,.pointer (some ⟨bv,0,none⟩))]→LitB w0 m0 w m ρ cb c' ax bz ov (r2.length+1) cs (dC::r2) cs→Bk w bv us→ρ bv=5→Q .normal a w):(A0 Bq [1,1,0,0,0,1,0,1,1,0,1,1,0,1,0]).wp Ba Q a w:=by
 unfold A43 at hP;rw[show(top.kind==9)=true from h9,cond_true]at hP;cases cK:okB [.agg .named,.bool] G1 (f97 c)with
 |false=>rw[cK]at hP;cases hP
 |true=>
 rw[cK,cond_true]at hP;cases ff:okB [.bool] G1 (f98 [58] (J9 (f97 c)))with
 |false=>rw[ff]at hP;cases hP
 |true=>
 rw[ff,cond_true]at hP;cases cq:O2 top.fields.length with
 |false=>rw[cq]at hP;cases hP
 |true=>
 rw[cq,cond_true]at hP;simp only[Bg,Bi]at hP;obtain⟨df,gk⟩:=hP;have bV:top.fields.length≤549755813888:=by simpa [O2]using cq
 obtain⟨ob,dK,dh,_,aQ,_⟩:=A3B hi.arr h0;have bU:Bh .i64 (((r2.length+1:Nat):Int) - 1)=(r2.length:Int):=by rw[N3 (by omega) (by omega)];omega
 refine wsq rfl ?_;refine A6 10 8 rfl rfl ?_;refine Pm tm fun a tm=>?_;refine Ai rfl fun K hK=>H6 tm rfl rfl rfl (A6h hb).enter rfl (S4 tm rfl rfl rfl) (Y7 (A6h hb) (ls:=[.sl .str [] none]) (vs:=[.slice none 0 0]) (ks:=[.agg .named,.bool]) (F:=f97 c) rfl cK (hI _ _ hi.sys.km.ext) hi.z0 ⟨.nil _ _ _ _,trivial⟩ rfl hi.cur) ?_;rintro e w1 ⟨m1,rv,fe,rfl,k1,c1,e1⟩;have iG:¬bv=cb:=fun e=>by rw[e,hi.cr]at aY;cases aY
 have aY:=(A5 (r:=0) ba.lt).trans aY;have ba:=k1.bk ba iG;have hi:=hi.stepC k1 c1;obtain⟨v1,v2,rfl,e2,e3⟩:∃ v1 v2,rv=[v1,v2]∧CRep U6 w1 m1 (.agg .named (M9 (gB (f97 c) 0))) v1∧CRep U6 w1 m1 (.bool (lB (gB (f97 c) 1))) v2:=by
  match rv,e1 with
  |[x,y],⟨e2,e3,_⟩=>exact⟨x,y,rfl,e2,e3⟩
 obtain rfl:=CRep.bool_inv e3;obtain rfl:=C99 e2;generalize db:(M9 (gB (f97 c) 0))=nm at*;refine⟨_,rfl,fun a tm=>hK _ _ ?_⟩;refine Pm tm fun a tm=>?_;refine Pv tm (O9 tm rfl rfl (vs:=[_,_])) fun a tm=>?_;refine Pv tm (O9 tm rfl rfl (vs:=[_,_])) fun a tm=>?_;refine Ai rfl fun K hK=>K8 tm A9U rfl rfl rfl fun a tm=>hK _ _ ?_;generalize A7 ρ w.heap.size 0=ρ1 at hi aY;have ka:=G7 w1 m1 (.cells [.string ⟨[].toArray⟩,.int .i64 0,.int .i64 0].toArray 83) hi.z0;have hi:=hi.step ka (fun _ _ h=>h.elim) (.inl fun _ h=>h) 3 (fun _=>rfl);have aY:=(A5 (r:=3) ba.lt).trans aY;have ba:=ka.bk ba (fun h=>h);have bn:Bk (w1.alloc (.cells [.string ⟨[].toArray⟩,.int .i64 0,.int .i64 0].toArray 83)) w1.heap.size [.string ⟨[].toArray⟩,.int .i64 0,.int .i64 0]:=K1;have eJ:A7 ρ1 w1.heap.size 3 w1.heap.size=3:=H1 (Bd _);generalize w1.heap.size=nb at tm hi aY bn eJ;generalize A7 ρ1 nb 3=ρ2 at hi aY eJ;generalize (w1.alloc (.cells [.string ⟨[].toArray⟩,.int .i64 0,.int .i64 0].toArray 83))=w2 at hi ba bn ⊢;clear ka k1 e1 c1 e2 e3;obtain⟨q1,hi,q2,q3⟩:=hi.setBox bn (by rw[eJ];decide) (off:=0) (vs:=[D5 nm.name,.int .i64 nm.pos.line,.int .i64 nm.pos.col]) (show 0+3≤3 by decide) (fun v hv=>by simp only[Bp,Bw,or_false]at hv;rcases hv with rfl|rfl|rfl<;>rfl);refine Ps tm A9U q1 ?_;refine Pa tm fun a tm=>?_;have ba:=q3.bk ba (fun e=>by rw[e,eJ]at aY;cases aY);have bn:Bk _ nb [D5 nm.name,.int .i64 nm.pos.line,.int .i64 nm.pos.col]:=q2;generalize (C3 w2 nb 0 [D5 nm.name,.int .i64 nm.pos.line,.int .i64 nm.pos.col])=w at hi ba bn ⊢;clear q1 q2 q3;refine Be ?_;have tm:=tm.keep [0,1,4,6,8,9];show(A0 _ _).wp _ _ _ _;refine wsq rfl ?_;refine A6 11 2 rfl rfl ?_;refine Pm tm fun a tm=>?_;refine Ai rfl fun K hK=>H6 tm rfl rfl rfl (B0r hb).enter rfl (S4 tm rfl rfl rfl) (Y7 (B0r hb) (ls:=[.str [58]]) (vs:=[D5 [58]]) (ks:=[.bool]) (F:=f98 [58] (J9 (f97 c))) rfl ff (hI _ _ hi.sys.km.ext) hi.z0 ⟨.str _,trivial⟩ rfl hi.cur) ?_;rintro e w1 ⟨m1,rv,fe,rfl,k1,c1,e1⟩;have iG:¬bv=cb:=fun e=>by rw[e,hi.cr]at aY;cases aY
 have aY:=(A5 (r:=0) ba.lt).trans aY;have ba:=k1.bk ba iG;have dZ:¬nb=cb:=fun e=>by rw[e,hi.cr]at eJ;cases eJ
 have eJ:=(A5 (r:=0) bn.lt).trans eJ;have bn:=k1.bk bn dZ;have hi:=hi.stepC k1 c1;obtain⟨v1,rfl,e2⟩:∃ v1,rv=[v1]∧CRep U6 w1 m1 (.bool (lB (gB (f98 [58] (J9 (f97 c))) 0))) v1:=by
  match rv,e1 with
  |[x],⟨e2,_⟩=>exact⟨x,rfl,e2⟩
 refine⟨_,rfl,fun a tm=>hK _ _ ?_⟩;refine Be ?_;generalize A7 ρ2 w.heap.size 0=ρ3 at hi aY eJ;have fU:A1H (f98 [58] (J9 (f97 c)))=c':=gk;rw[fU]at hi;clear k1 e1 c1 e2;obtain⟨ek,yW,e1,e2,e3⟩:=hi.opn;obtain⟨rfl,rfl⟩:a7=ek∧vt=yW:=Ez e1 (by rw[h0,e2.len]);have cu:=e3.len;have hi:LitB w0 m0 w1 m1 ρ3 cb c' fe bz ov (r2.length+1) (a7++vt) r2 a7:={hi with opn:=e2};obtain⟨AE,mZ,jo,_,_,aw⟩:=A3B hi.arr h0;rw[dh]at jo;cases jo;have tm:=tm.keep [0,1,4,6,8,9];show(A0 _ _).wp _ _ _ _;refine wsq rfl ?_;refine A6 12 8 rfl rfl ?_;refine Pm tm fun a tm=>?_;refine Pm tm fun a tm=>?_;refine Pv tm (O4 tm M6 rfl rfl rfl rfl rfl dh) fun a tm=>?_;refine Pv tm (S2 tm) fun a tm=>?_;refine Pv tm (R6 tm M6 D8 rfl rfl dh rfl bU (by omega)) fun a tm=>?_;refine Pv tm (I9 tm T4 D8 rfl rfl (us:=vt) cu aw) fun a tm=>?_;refine Ai rfl fun K hK=>K8 tm D8 rfl rfl rfl fun a tm=>hK _ _ ?_;have ka:=G7 w1 m1 (.cells [.int .i64 0,.string ⟨[].toArray⟩,.bool false,.slice none 0 0,.slice none 0 0,.int .i64 0,.int .i64 0].toArray 46) hi.z0;have hi:=hi.step ka (fun _ _ h=>h.elim) (.inl fun _ h=>h) 4 (fun _=>rfl);have keep:∀ b,b<w1.heap.size→A7 ρ3 w1.heap.size 4 b=ρ3 b:=fun b hb=>A5 hb;have he:=e3.keep (ρ':=A7 ρ3 w1.heap.size 4) ka (fun b hb _=>⟨fun h=>h,keep b hb⟩);have aY:=(keep bv ba.lt).trans aY;have ba:=ka.bk ba (fun h=>h);have eJ:=(keep nb bn.lt).trans eJ;have bn:=ka.bk bn (fun h=>h);have iW:Bk (w1.alloc (.cells [.int .i64 0,.string ⟨[].toArray⟩,.bool false,.slice none 0 0,.slice none 0 0,.int .i64 0,.int .i64 0].toArray 46)) w1.heap.size (C5 F9):=K1;have iH:A7 ρ3 w1.heap.size 4 w1.heap.size=4:=H1 (Bd _);generalize w1.heap.size=bt at tm hi he aY eJ iW iH keep;generalize A7 ρ3 bt 4=ρ at hi he aY eJ iH keep;generalize (w1.alloc (.cells [.int .i64 0,.string ⟨[].toArray⟩,.bool false,.slice none 0 0,.slice none 0 0,.int .i64 0,.int .i64 0].toArray 46))=w at hi he ba bn iW ka ⊢;clear keep ka e3 e2 aw;obtain⟨q1,hi,q2,q3⟩:=hi.setBox iW (by rw[iH];decide) (off:=0) (vs:=vt) (by rw[cu];decide) he.one;rw[V4 (C5 F9) vt (by rw[cu];rfl)]at q2;refine Ai rfl fun K hK=>G9 tm D8 rfl rfl rfl rfl (us:=vt) rfl cu q1 (hK _ _ ?_);have he:=he.keep (ρ':=ρ) q3 (fun b _ hb=>⟨fun e=>by rw[e,iH]at hb;omega,rfl⟩);have ba:=q3.bk ba (fun e=>by rw[e,iH]at aY;cases aY);have bn:=q3.bk bn (fun e=>by rw[e,iH]at eJ;cases eJ);generalize (C3 w bt 0 vt)=w at hi q2 he ba bn ⊢;clear q1 q3 iW;refine Be ?_;have tm:=tm.keep [0,1,4,6,8,9,11];show(A0 _ _).wp _ _ _ _;refine wsq rfl ?_;obtain⟨iv,fv,xi,xf,rfl,e2,e3,e4,e5,e6,e7⟩:=he.ex;refine A6 13 11 rfl rfl ?_;refine Pv tm (C1 tm A9z) fun a tm=>?_;refine Pv tm (D9 tm B19 rfl rfl (q2.cell rfl)) fun a tm=>?_;refine Pv tm (C1 tm B8W) fun a tm=>?_;refine Pv tm (D9 tm pl9 rfl rfl (bn.cell rfl)) fun a tm=>?_;refine Pv tm (C1 tm C6T) fun a tm=>?_;refine Pv tm (I9 tm A3s A0k rfl rfl (us:=J5 nm.pos) rfl (fun j u hj=>bn.cell (j:=0+1+j) (u:=u) (by match j,hj with|0,hj=>exact hj|1,hj=>exact hj))) fun a tm=>?_;refine Pv tm (A71 tm rfl rfl rfl rfl (cs:=(lfV nm).toArray) (by kernel_rfl)) fun a tm=>?_;refine Ai rfl fun K hK=>A04 tm A5F B3U rfl rfl rfl rfl rfl (us:=lfV nm) rfl rfl rfl (by decide) (by decide) fun a tm=>hK _ _ ?_;have k1:=G7 w m1 (.cells (lfV nm).toArray 142) hi.z0;have du:=hi.step k1 (fun _ _ h=>h.elim) (.inl fun _ h=>h) 0 (fun h=>absurd rfl h);have keep:∀ b,b<w.heap.size→A7 ρ w.heap.size 0 b=ρ b:=fun b hb=>A5 hb;have dg:ArrN (w.alloc (.cells (lfV nm).toArray 142)) 10 (.slice (some ⟨w.heap.size,0,none⟩) 1 1) 1 (lfV nm):=A0Y (w:=w) rfl rfl (Bd _) (by simp[lfV]) (fun j x hj=>by simpa using hj);have g2:=k1.arr e2 (fun _ _ h=>h);have g3:=e3.keep k1;have g4:∀ b,D6 iv=some b→A7 ρ w.heap.size 0 b=20+2*r2.length:=fun b hb=>by rw[keep b (e2.lt hb)];exact e4 b hb
 have g5:=k1.arr e5 (fun _ _ h=>h);have g6:=e6.keep k1;have g7:∀ b,D6 fv=some b→A7 ρ w.heap.size 0 b=21+2*r2.length:=fun b hb=>by rw[keep b (e5.lt hb)];exact e7 b hb
 have g9:=(keep bt q2.lt).trans iH;have g8:=k1.bk q2 (fun h=>h);have aY:=(keep bv ba.lt).trans aY;have ba:=k1.bk ba (fun h=>h);generalize w.heap.size=wn at tm du dg g4 g7 g9 keep aY;generalize A7 ρ wn 0=ρ' at du g4 g7 g9 keep aY;generalize (w.alloc (.cells (lfV nm).toArray 142))=w1 at du dg g2 g3 g5 g6 g8 k1 ba ⊢;obtain⟨ie,z,d1,d2,d3,d4,d5⟩:=V9 B3U;obtain⟨jp,w2,ag,aP,cI,cj⟩:=A3g (P:=Ba) (t:=42) (u:=42) (ty:=42) (e:=142) (y:=.slice (some ⟨wn,0,none⟩) 1 1) (k:=1) (ys:=lfV nm) (m:=m1) A5F (.inl ⟨142,A5F⟩) d1 d2 d4 (by rw[d5];rfl) g5 (by simp[Dz]) (dg.first _) rfl (fun v hv=>by simp only[lfV,Bp,Bw,or_false]at hv;rcases hv with rfl|rfl|rfl|rfl|rfl|rfl|rfl|rfl|rfl|rfl<;>rfl) (fun b hb=>du.sys.zr b (by rw[g7 b hb];omega)) du.z0 (by rw[d3];omega) (by rw[d3];decide);have pm:=du.step cI (fun b _ hs=>by rw[g7 b hs];omega) (.inr rfl) (21+2*r2.length) (fun _=>rfl);have dW:∀ b,b<w1.heap.size→A7 ρ' w1.heap.size (21+2*r2.length) b=ρ' b:=fun b hb=>A5 hb;have i7:∀ b,D6 jp=some b→A7 ρ' w1.heap.size (21+2*r2.length) b=21+2*r2.length:=fun b hb=>by
  rcases cj b hb with h|h
  ·rw[dW b (g5.lt h)];exact g7 b h
  ·exact H1 h
 have i2:=cI.arr g2 (fun b hb hs=>by have h1:=g4 b hb;rw[g7 b hs]at h1;omega);have i4:∀ b,D6 iv=some b→A7 ρ' w1.heap.size (21+2*r2.length) b=20+2*r2.length:=fun b hb=>by rw[dW b (g2.lt hb)];exact g4 b hb
 have i8:=cI.bk g8 (fun hs=>by have h1:=g7 bt hs;rw[g9]at h1;omega);have i9:=(dW bt g8.lt).trans g9;have i6:ClR w2 m1 (xf++lfV nm) (flat U6 .lf (top.fields++[(nm.name,F9,nm.pos)])):=by rw[A3v];exact(g6.append (D1p nm)).keep cI
 have uL:=(dW bv ba.lt).trans aY;have ba:=cI.bk ba (fun hs=>by have h1:=g7 bv hs;rw[aY]at h1;omega);have aY:=uL;obtain⟨pa,iB,kT⟩:=aP.len;obtain⟨q1,pn,sj,q3⟩:=pm.setBox i8 (by rw[i9];decide) (off:=0+4) (vs:=[jp]) (by simp[P2]) (fun u hu=>by rcases Bm.1 hu with rfl;rw[kT];rfl);refine Ai rfl fun K hK=>A25 tm rfl rfl rfl rfl rfl rfl rfl rfl ag fun a tm=>hK _ _ ?_;refine Pv tm (C1 tm A9z) fun a tm=>?_;refine Ai rfl fun K hK=>G9 tm C93 rfl rfl rfl rfl (us:=[jp]) (by rw[kT];rfl) rfl q1 (hK _ _ ?_);have ba:=q3.bk ba (fun e=>by rw[e,i9]at aY;cases aY);have mq:Bk _ bt (P2 top iv jp):=sj;have oC:EntR (C3 w2 bt (0+4) [jp]) m1 (A7 ρ' w1.heap.size (21+2*r2.length)) r2.length (P2 top iv jp) dC:=by
  refine⟨iv,jp,xi,xf++lfV nm,by rw[←df];rfl,?_,?_,i4,?_,?_,i7⟩
  ·rw[←df];exact q3.arr i2 fun b hb hs=>by have h1:=i4 b hb;rw[hs,i9]at h1;omega
  ·rw[←df];exact(g3.keep cI).keep q3
  ·rw[←df];show ArrN _ 10 jp (top.fields++[(nm.name,F9,nm.pos)]).length _;rw[Bb,Di];exact q3.arr aP fun b hb hs=>by have h1:=i7 b hb;rw[hs,i9]at h1;omega
  ·rw[←df];exact i6.keep q3
 generalize A7 ρ' w1.heap.size (21+2*r2.length)=ρ at pn oC aY i9;generalize (C3 w2 bt (0+4) [jp])=w at pn oC ba mq ⊢;clear q1 sj q3 pm du i2 i4 i6 i7 i8 g2 g3 g4 g5 g6 g7 g8 g9 dg k1 keep dW cI cj aP;refine Be ?_;have tm:=tm.keep [0,1,4,6,8,11];show(A0 _ _).wp _ _ _ _;have ml:=oC.len;obtain⟨q1,uM,q3⟩:=pn.setOpen dh (by rw[dh];exact X4 (by omega)) (off:=0+r2.length*7) (us:=P2 top iv jp) (by rw[Bf,Bb,cu,ml];omega) oC.one;have kS:L0 (a7++P2 top iv fv) (0+r2.length*7) (P2 top iv jp)=a7++P2 top iv jp:=by rw[Bf, ←h0];exact B6z a7 _ _ rfl
 rw[kS]at uM;have rl:=pn.ar ob (by rw[dh];exact X4 (by omega));have yX:=oC.keep (ρ':=ρ) q3 (fun b _ hb=>⟨fun e=>by rw[e,rl]at hb;omega,rfl⟩);have ba:=q3.bk ba (fun e=>by rw[e,rl]at aY;cases aY);refine A6 14 7 rfl rfl ?_;refine Pm tm fun a tm=>?_;refine Pm tm fun a tm=>?_;refine Pv tm (O4 tm M6 rfl rfl rfl rfl rfl dh) fun a tm=>?_;refine Pv tm (S2 tm) fun a tm=>?_;refine Pv tm (I9 tm T4 D8 rfl rfl (us:=P2 top iv jp) rfl (fun j u hj=>by rw[Bf j];exact mq.cell hj)) fun a tm=>?_;refine Pv tm (R6 tm M6 D8 rfl rfl dh rfl bU (by omega)) fun a tm=>?_;refine Ps tm D8 q1 ?_;refine Be ?_;exact hk _ _ _ _ _ _ (tm.sub ⟨rfl,rfl,rfl,rfl,rfl,trivial⟩) {uM with opn:=⟨a7,_,rfl,uM.opn,yX⟩} ba aY
theorem Z2{α:Type}{b:Bool}{x y z:α}(h:(bif b then x else y)=z):(b=true∧x=z)∨(b=false∧y=z):=by
 cases b with
 |true=>exact .inl ⟨rfl,h⟩
 |false=>exact .inr ⟨rfl,h⟩
theorem B58{w0:World}{m0:Nat→Nat}{cb bz:Nat}{ae:Bool}{c:CurT}{ax ov:Value}{Q:Exit→Act→World→Prop}{a:Act}{w:World}{m ρ:Nat→Nat}{cs:List Value}{op:List LitT}{v:LitT}{bv:Nat}
  (hs:op.length≤549755813888)(hi:LitB w0 m0 w m ρ cb c ax bz ov op.length cs op cs)(a8:v.items=[]∧v.fields=[])(ba:Bk w bv (C5 v))(aY:ρ bv=5)(tm:Tm a 147 [(0,.pointer (some ⟨cb,0,none⟩)),(1,.bool ae),(4,.pointer (some ⟨bz,0,none⟩)),(6,ov),(8,.pointer (some ⟨bv,0,none⟩))])
  (cI:∀ a w ρ ov cs,Tm a 147 [(0,.pointer (some ⟨cb,0,none⟩)),(1,.bool ae),(4,.pointer (some ⟨bz,0,none⟩)),(6,ov)]→LitB w0 m0 w m ρ cb c ax bz ov (op.length+1) cs (v::op) cs→Q (.exit 1) a w):(A0 Bq [1,1,0,0,0,1,0,1,1,0,1,1,1,1,1,0]).wp Ba Q a w:=by
 refine wsq rfl ?_;refine A6 17 5 rfl rfl ?_;refine Pm tm fun a tm=>?_;refine Pv tm (I9 tm T4 D8 rfl rfl (us:=C5 v) rfl (fun j u hj=>by rw[Bf j];exact ba.cell hj)) fun a tm=>?_;refine Ai rfl fun K hK=>A04 tm M6 D8 rfl rfl rfl rfl rfl (us:=C5 v) rfl rfl rfl (by decide) (by decide) fun a tm=>hK _ _ ?_;have k1:=G7 w m (.cells (C5 v).toArray 46) hi.z0;have du:=hi.step k1 (fun _ _ h=>h.elim) (.inl fun _ h=>h) 0 (fun h=>absurd rfl h);have dg:ArrN (w.alloc (.cells (C5 v).toArray 46)) 7 (.slice (some ⟨w.heap.size,0,none⟩) 1 1) 1 (C5 v):=A0Y (w:=w) rfl rfl (Bd _) (by simp[C5]) (fun j x hj=>by simpa using hj);generalize w.heap.size=wn at tm du dg;generalize A7 ρ wn 0=ρ' at du;generalize (w.alloc (.cells (C5 v).toArray 46))=w1 at du dg ⊢;obtain⟨ie,z,d1,d2,d3,d4,d5⟩:=V9 D8;obtain⟨si,w2,ag,aP,uN,cj⟩:=A3g (P:=Ba) (t:=41) (u:=41) (ty:=41) (e:=46) (y:=.slice (some ⟨wn,0,none⟩) 1 1) (k:=1) (ys:=C5 v) (m:=m) M6 (.inl ⟨46,M6⟩) d1 d2 d4 (by rw[d5];rfl) du.arr (by simp[Dz]) (dg.first _) rfl (A0C v) (fun b hb=>du.sys.zr b (by rw[du.ar b hb];decide)) du.z0 (by rw[d3];omega) (by rw[d3];decide);have pm:=du.push rfl uN (fun b _ hs=>du.ar b hs) aP cj a8;refine Ai rfl fun K hK=>A25 tm rfl rfl rfl rfl rfl rfl rfl rfl ag fun a tm=>hK _ _ ?_;refine Pa tm fun a tm=>?_;refine Be ?_;show(A0 _ _).wp _ _ _ _;exact A1f 1 rfl (cI _ _ _ _ _ (tm.sub ⟨rfl,rfl,rfl,rfl,trivial⟩) pm)
theorem C9o{ae:Bool}{c c0:CurT}{v:LitT}(h:A09 ae c=some (v,c0)):v.items=[]∧v.fields=[]:=by
 unfold A09 at h;rcases Z2 h with⟨_,h⟩|⟨_,h⟩
 ·split at h
  ·cases h
  ·rename_i t ht;rcases Z2 h with⟨_,h⟩|⟨_,h⟩
   ·cases h;exact⟨rfl,rfl⟩
   ·split at h
    ·rename_i v' hv;cases h;unfold W7 at hv;rcases Z2 hv with⟨_,hv⟩|⟨_,hv⟩
     ·cases hv;exact⟨rfl,rfl⟩
     rcases Z2 hv with⟨_,hv⟩|⟨_,hv⟩
     ·cases hv;exact⟨rfl,rfl⟩
     rcases Z2 hv with⟨_,hv⟩|⟨_,hv⟩
     ·cases hv;exact⟨rfl,rfl⟩
     rcases Z2 hv with⟨_,hv⟩|⟨_,hv⟩
     ·cases hv;exact⟨rfl,rfl⟩
     rcases Z2 hv with⟨_,hv⟩|⟨_,hv⟩
     ·cases hv;exact⟨rfl,rfl⟩
     rcases Z2 hv with⟨_,hv⟩|⟨_,hv⟩
     ·cases hv;exact⟨rfl,rfl⟩
     cases hv
    ·rcases Z2 h with⟨_,h⟩|⟨_,h⟩
     ·rcases Z2 h with⟨_,h⟩|⟨_,h⟩<;>cases h
      exact⟨rfl,rfl⟩
     rcases Z2 h with⟨_,h⟩|⟨_,h⟩
     ·rcases Z2 h with⟨_,h⟩|⟨_,h⟩<;>cases h
      exact⟨rfl,rfl⟩
     rcases Z2 h with⟨_,h⟩|⟨_,h⟩<;>cases h
     exact⟨rfl,rfl⟩
 ·cases h
theorem C4B{I:Inv}(hb:HB I){w0:World}{m0:Nat→Nat}{cb bz:Nat}{ae:Bool}{c c3:CurT}{ax ov:Value}{Q:Exit→Act→World→Prop}{a:Act}{w:World}{m ρ:Nat→Nat}{cs:List Value}{op:List LitT}{v:LitT}{us:List Value}{bv:Nat}
  (hI:∀ w m,Ext w0 m0 w m→I w m)(hP:A09 ae c=some (v,c3))(hi:LitB w0 m0 w m ρ cb c ax bz ov op.length cs op cs)(hs:((v.kind==8)||(v.kind==9))=true→op.length≤549755813888)(ba:Bk w bv us)(lr:us.length=7)(aY:ρ bv=5)(tm:Tm a 147 [(0,.pointer (some ⟨cb,0,none⟩)),(1,.bool ae),(4,.pointer (some ⟨bz,0,none⟩)),(6,ov),(8,.pointer (some ⟨bv,0,none⟩))])
  (dU:∀ a w m ρ ax vv,((v.kind==8)||(v.kind==9))=false→Tm a 147 [(0,.pointer (some ⟨cb,0,none⟩)),(1,.bool ae),(4,.pointer (some ⟨bz,0,none⟩)),(6,ov),(8,.pointer (some ⟨bv,0,none⟩))]→LitB w0 m0 w m ρ cb c3 ax bz ov op.length cs op cs→LsC U6 w m (U6.cells .lit v) vv→Bk w bv vv→ρ bv=5→Q .normal a w)
  (cI:∀ a w m ρ ax ov cs,((v.kind==8)||(v.kind==9))=true→Tm a 147 [(0,.pointer (some ⟨cb,0,none⟩)),(1,.bool ae),(4,.pointer (some ⟨bz,0,none⟩)),(6,ov)]→LitB w0 m0 w m ρ cb c3 ax bz ov (op.length+1) cs (v::op) cs→Q (.exit 1) a w):(A0 Bq [1,1,0,0,0,1,0,1,1,0,1,1,1]).wp Ba Q a w:=by
 have a8:=C9o hP;refine wsq rfl ?_;refine A6 15 4 rfl rfl ?_;refine Pm tm fun a tm=>?_;refine Pm tm fun a tm=>?_;refine Ai rfl fun K hK=>H6 tm rfl rfl rfl Tryz.call99 rfl (S4 tm rfl rfl rfl) (call99 hb (fun w1 m1 hx=>hI w1 m1 (hi.sys.km.ext.trans hx)) hi.z0 hi.cur hP) ?_;rintro e w1 ⟨m1,fe,rfl,k1,c1⟩;have iG:¬bv=cb:=fun e=>by rw[e,hi.cr]at aY;cases aY
 have aY:=(A5 (r:=0) ba.lt).trans aY;have ba:=k1.bk ba iG;have hi:=hi.stepC k1 c1;refine⟨_,rfl,fun a tm=>hK _ _ ?_⟩;generalize A7 ρ w.heap.size 0=ρ at hi aY;obtain⟨q1,hi,q2,q3⟩:=hi.setBox ba (by rw[aY];decide) (off:=0) (vs:=C5 v) (show 0+7≤us.length by omega) (A0C v);rw[V4 us (C5 v) (by rw[lr];rfl)]at q2;refine Ps tm D8 q1 ?_;generalize (C3 w1 bv 0 (C5 v))=w at hi q2 ⊢;clear q1 q3 k1 c1 ba;have co:LsC U6 w m1 (U6.cells .lit v) (C5 v):=A8O (by rw[a8.1];exact .nil _ _ _ _) (by rw[a8.2];exact .nil _ _ _ _);refine Be ?_;have tm:=tm.keep [0,1,4,6,8];show(A0 _ _).wp _ _ _ _;refine wsq rfl ?_;refine A6 16 8 rfl rfl ?_;refine Pv tm (C1 tm V1) fun a tm=>?_;refine Pv tm (D9 tm A4o rfl rfl (q2.cell rfl)) fun a tm=>?_;refine Pv tm (N6 tm) fun a tm=>?_;refine Pm tm fun a tm=>?_;cases h8:v.kind==8 with
 |true=>
  rw[h8]at tm;refine F1 tm (j:=3) (g:=98) (d:=99) (b:=true) rfl rfl rfl rfl rfl rfl rfl fun a tm=>?_;refine F1 tm (j:=3) (g:=98) (d:=100) (b:=true) rfl rfl rfl rfl rfl rfl rfl fun a tm=>?_;refine F1 tm (j:=3) (g:=98) (d:=101) (b:=true) rfl rfl rfl rfl rfl rfl rfl fun a tm=>?_;refine Pv tm (Q2 tm) fun a tm=>?_;refine Wn ?_;refine wcn tm rfl _ rfl ?_;have tm:=tm.keep [0,1,4,6,8];have kU:((v.kind==8)||(v.kind==9))=true:=by rw[h8];rfl
  rw[if_pos rfl];exact B58 (hs kU) hi a8 q2 aY tm fun a w ρ ov cs tm hi=>cI _ _ _ _ _ _ _ kU tm hi
 |false=>
  rw[h8]at tm;refine Pg tm 3 98 (C1 tm V1) fun a tm=>?_;refine Pg tm 3 98 (D9 tm A4o rfl rfl (q2.cell rfl)) fun a tm=>?_;refine Pg tm 3 98 (N6 tm) fun a tm=>?_;refine Pv tm (A0b tm) fun a tm=>?_;refine Wn ?_;refine wcn tm rfl _ rfl ?_;have tm:=tm.keep [0,1,4,6,8];cases h9:v.kind==9 with
  |true=>
   have kU:((v.kind==8)||(v.kind==9))=true:=by rw[h8,h9];rfl
   rw[if_pos rfl];exact B58 (hs kU) hi a8 q2 aY tm fun a w ρ ov cs tm hi=>cI _ _ _ _ _ _ _ kU tm hi
  |false=>
   rw[if_neg (by simp)];refine K4 rfl ?_;exact dU _ _ _ _ _ _ (by rw[h8,h9];rfl) tm hi co q2 aY
theorem C3a{I:Inv}(hb:HB I){w0:World}{m0:Nat→Nat}{cb bz:Nat}{ae:Bool}{c c2:CurT}{ax ov:Value}{Q:Exit→Act→World→Prop}{a:Act}{w:World}{m ρ:Nat→Nat}{cs:List Value}{am:List LitT}{v:LitT}{us:List Value}{bv:Nat}
  (hI:∀ w m,Ext w0 m0 w m→I w m)(hP:A8b v.kind c=some c2)(hi:LitB w0 m0 w m ρ cb c ax bz ov (am.length+1) cs (v::am) cs)(hs:am.length≤549755813888)(ba:Bk w bv us)(lr:us.length=7)(aY:ρ bv=5)(tm:Tm a 147 [(0,.pointer (some ⟨cb,0,none⟩)),(1,.bool ae),(4,.pointer (some ⟨bz,0,none⟩)),(6,ov),(8,.pointer (some ⟨bv,0,none⟩))])
  (hk:∀ a w m ρ ax ov cs vv,Tm a 147 [(0,.pointer (some ⟨cb,0,none⟩)),(1,.bool ae),(4,.pointer (some ⟨bz,0,none⟩)),(6,ov),(8,.pointer (some ⟨bv,0,none⟩))]→LitB w0 m0 w m ρ cb c2 ax bz ov am.length cs am cs→LsC U6 w m (U6.cells .lit v) vv→Bk w bv vv→ρ bv=5→Q .normal a w):(A0 Bq [1,1,0,0,0,1,0,1,1,0,1,0]).wp Ba Q a w:=by
 unfold A8b at hP;cases cK:okR [.str] (F95 v.kind)with
 |false=>rw[cK]at hP;cases hP
 |true=>
 rw[cK,cond_true]at hP;generalize hp:lS (gL (F95 v.kind) 0)=p at hP;cases ff:okB [.bool] G1 (f96 p c)with
 |false=>rw[ff]at hP;cases hP
 |true=>
 rw[ff,cond_true]at hP;have gk:=Cw hP;obtain⟨a7,vt,e1,e2,e3⟩:=id hi.opn;have h0:=e2.len;have cu:=e3.len;have hi:LitB w0 m0 w m ρ cb c ax bz ov (am.length+1) (a7++vt) (v::am) (a7++vt):=by rw[←e1];exact hi
 obtain⟨ob,dK,dh,mj,aQ,aw⟩:=A3B hi.arr h0;have bU:Bh .i64 (((am.length+1:Nat):Int) - 1)=(am.length:Int):=by rw[N3 (by omega) (by omega)];omega
 obtain⟨q1,aT,q2,q3⟩:=hi.setBox ba (by rw[aY];decide) (off:=0) (vs:=vt) (by rw[lr,cu];decide) e3.one;rw[V4 us vt (by rw[lr,cu])]at q2;refine wsq rfl ?_;refine A6 6 7 rfl rfl ?_;refine Pm tm fun a tm=>?_;refine Pm tm fun a tm=>?_;refine Pv tm (O4 tm M6 rfl rfl rfl rfl rfl dh) fun a tm=>?_;refine Pv tm (S2 tm) fun a tm=>?_;refine Pv tm (R6 tm M6 D8 rfl rfl dh rfl bU (by omega)) fun a tm=>?_;refine Pv tm (I9 tm T4 D8 rfl rfl (us:=vt) cu aw) fun a tm=>?_;refine Ai rfl fun K hK=>G9 tm D8 rfl rfl rfl rfl (us:=vt) rfl cu q1 (hK _ _ ?_);refine Be ?_;generalize (C3 w bv 0 vt)=w at aT q2 ⊢;clear q1 q3 ba aw;show(A0 _ _).wp _ _ _ _;refine wsq rfl ?_;have tm:=tm.keep [0,1,4,6,8];refine A6 7 6 rfl rfl ?_;refine Pm tm fun a tm=>?_;refine Pm tm fun a tm=>?_;refine Pv tm (O4 tm M6 rfl rfl rfl rfl rfl dh) fun a tm=>?_;refine Pv tm (S2 tm) fun a tm=>?_;refine Pv tm (B2i tm M6 D8 rfl rfl dh rfl bU (by omega) aQ) fun a tm=>?_;refine Pa tm fun a tm=>?_;refine Be ?_;obtain⟨m1,ρ1,hi,co,ly,hρ⟩:=aT.pop h0 dh;have aY:=(hρ bv (by rw[aY];decide)).trans aY;have ba:=ly.bk q2 (fun h=>by have:=hρ bv (by omega);omega);generalize (Eb (some ⟨ob,0,none⟩) am.length dK)=ov at hi tm;clear q2 ly hρ aT;have tm:=tm.keep [0,1,4,6,8];show(A0 _ _).wp _ _ _ _;obtain⟨iv,fv,g1,g2,g3⟩:=A8z (U5 co);have kL:vt=P2 v iv fv:=by
  simp only[De]at g1;have:=congrArg Dn g1;simpa using this
 have gQ:w.cell? ⟨bv,0+0,none⟩=some (.int .i64 v.kind):=ba.cell (by rw[kL];rfl);refine A6 8 5 rfl rfl ?_;refine Pm tm fun a tm=>?_;refine Pv tm (C1 tm V1) fun a tm=>?_;refine Pv tm (D9 tm A4o rfl rfl (gQ)) fun a tm=>?_;refine Ai rfl fun K hK=>H6 tm rfl rfl rfl (A7J hb).enter rfl (V7 tm rfl rfl) (R5 (A7J hb) (ls:=[.int .i64 v.kind]) (A0D (r:=.one (.str (lS (gL (F95 v.kind) 0)))) rfl cK) (hI _ _ hi.sys.km.ext) hi.z0 ⟨.int _ _,trivial⟩ rfl) ?_;rintro e w1 ⟨v1,m2,rfl,k1,yY⟩;obtain rfl:=CRep.str_inv yY;rw[hp];have aY:=(A5 (r:=0) ba.lt).trans aY;have ba:=k1.bk ba (fun h=>h);have co:=co.mono u6_ok k1.ext;have hi:=hi.step k1 (fun _ _ h=>h.elim) (.inl fun _ h=>h) 0 (fun h=>absurd rfl h);generalize A7 ρ1 w.heap.size 0=ρ2 at hi aY;refine⟨_,rfl,fun a tm=>hK _ _ ?_⟩;refine Ai rfl fun K hK=>H6 tm rfl rfl rfl (B2J hb).enter rfl (S4 tm rfl rfl rfl) (Y7 (B2J hb) (ls:=[.str p]) (vs:=[D5 p]) (ks:=[.bool]) (F:=f96 p c) rfl ff (hI _ _ hi.sys.km.ext) hi.z0 ⟨.str _,trivial⟩ rfl hi.cur) ?_;rintro e w2 ⟨m3,rv,fe,rfl,k2,c1,wR⟩;have iG:¬bv=cb:=fun e=>by rw[e,hi.cr]at aY;cases aY
 have aY:=(A5 (r:=0) ba.lt).trans aY;have ba:=k2.bk ba iG;have co:=co.mono u6_ok k2.ext;have hi:=hi.stepC k2 c1;have fU:A1H (f96 p c)=c2:=gk;rw[fU]at hi;refine⟨_,rfl,fun a tm=>hK _ _ ?_⟩;refine Be ?_;exact hk _ _ _ _ _ _ _ _ (tm.sub ⟨rfl,rfl,rfl,rfl,rfl,trivial⟩) hi co ba aY
theorem B3P{w0:World}{m0:Nat→Nat}{cb bz:Nat}{ae:Bool}{c:CurT}{ax ov:Value}{Q:Exit→Act→World→Prop}{a:Act}{w:World}{m ρ:Nat→Nat}{cs a7:List Value}{op:List LitT}{n:Nat}
  (hi:LitB w0 m0 w m ρ cb c ax bz ov n cs op a7)(tm:Tm a 147 [(0,.pointer (some ⟨cb,0,none⟩)),(1,.bool ae),(4,.pointer (some ⟨bz,0,none⟩)),(6,ov)])(hQ:B3C w0 m0 cb F9 false c Q):(A0 Bq [1,1,1]).wp Ba Q a w:=by
 obtain⟨q1,q2,q3⟩:=hi.z.store (m:=m) Ba (off:=0) (vs:=C5 F9) (show 0+7≤7 by decide) (A0C _) (hi.sys.zr bz (by rw[hi.zr];decide)) hi.z0;rw[V4 (C5 F9) (C5 F9) rfl]at q2;refine wsq rfl ?_;refine A6 26 3 rfl rfl ?_;refine Pv tm (X8 tm rfl rfl (cs:=(C5 F9).toArray) (by kernel_rfl)) fun a tm=>?_;refine Ps tm D8 q1 ?_;refine Pa tm fun a tm=>?_;refine Wn ?_;refine P5 rfl ?_;exact hQ _ _ _ ax _ _ (tm.sub ⟨rfl,rfl,trivial⟩) q2 (A8O (.nil _ _ _ _) (.nil _ _ _ _)) (hi.sys.stay q3 (fun b _ hs=>by rw[hs,hi.zr];decide)).km (hi.cur.keep q3 (fun e=>by have:=hi.cr;rw[e,hi.zr]at this;cases this))
theorem C2g{I:Inv}(hb:HB I){w0:World}{m0:Nat→Nat}{cb bz:Nat}{ae:Bool}{c c2:CurT}{ax ov:Value}{Q:Exit→Act→World→Prop}{a:Act}{w:World}{m ρ:Nat→Nat}{cs:List Value}{op eE:List LitT}{us:List Value}{bv:Nat}
  (hI:∀ w m,Ext w0 m0 w m→I w m)(hP:A5k op c=some (eE,c2))(hi:LitB w0 m0 w m ρ cb c ax bz ov op.length cs op cs)(hs:op.length≤549755813889)(ba:Bk w bv us)(aY:ρ bv=5)(tm:Tm a 147 [(0,.pointer (some ⟨cb,0,none⟩)),(1,.bool ae),(4,.pointer (some ⟨bz,0,none⟩)),(6,ov),(8,.pointer (some ⟨bv,0,none⟩))])
  (hk:∀ a w m ρ cs ax,eE.length=op.length→Tm a 147 [(0,.pointer (some ⟨cb,0,none⟩)),(1,.bool ae),(4,.pointer (some ⟨bz,0,none⟩)),(6,ov),(8,.pointer (some ⟨bv,0,none⟩))]→LitB w0 m0 w m ρ cb c2 ax bz ov eE.length cs eE cs→Bk w bv us→ρ bv=5→Q .normal a w):(A0 Bq [1,1,0,0,0,1,0,1,1,0,1,1,0]).wp Ba Q a w:=by
 obtain⟨oa,dK,dh⟩:=hi.arr.len;refine wsq rfl ?_;refine A6 9 13 rfl rfl ?_;refine Pm tm fun a tm=>?_;refine Pv tm (O4 tm M6 rfl rfl rfl rfl rfl dh) fun a tm=>?_;refine Pv tm (A6O tm) fun a tm=>?_;refine Pm tm fun a tm=>?_;cases op with
 |nil=>
  have jh:=tm;clear tm;rw[show decide ((0:Int)<(([]:List LitT).length:Int))=false from rfl]at jh;have tm:=jh;refine F1 tm (j:=3) (g:=53) (d:=54) (b:=false) rfl rfl rfl rfl rfl rfl rfl fun a tm=>?_;refine F1 tm (j:=3) (g:=53) (d:=55) (b:=false) rfl rfl rfl rfl rfl rfl rfl fun a tm=>?_;refine F1 tm (j:=3) (g:=53) (d:=56) (b:=false) rfl rfl rfl rfl rfl rfl rfl fun a tm=>?_;refine F1 tm (j:=3) (g:=53) (d:=57) (b:=false) rfl rfl rfl rfl rfl rfl rfl fun a tm=>?_;refine F1 tm (j:=3) (g:=53) (d:=58) (b:=false) rfl rfl rfl rfl rfl rfl rfl fun a tm=>?_;refine F1 tm (j:=3) (g:=53) (d:=59) (b:=false) rfl rfl rfl rfl rfl rfl rfl fun a tm=>?_;refine F1 tm (j:=3) (g:=53) (d:=60) (b:=false) rfl rfl rfl rfl rfl rfl rfl fun a tm=>?_;refine F1 tm (j:=3) (g:=53) (d:=61) (b:=false) rfl rfl rfl rfl rfl rfl rfl fun a tm=>?_;refine Pv tm (A0b tm) fun a tm=>?_;refine Wn ?_;refine wcn tm rfl _ rfl ?_;rw[if_neg (by simp)];refine K4 rfl ?_;simp only[A5k,Bg,Bi]at hP;obtain⟨rfl,rfl⟩:=hP;exact hk _ _ _ _ _ _ rfl (tm.sub ⟨rfl,rfl,rfl,rfl,rfl,trivial⟩) hi ba aY
 |cons top am=>
  rw[Bj]at hs;obtain⟨a7,vt,e1,e2,e3⟩:=id hi.opn;have h0:=e2.len;have cu:=e3.len;subst e1;have hi:LitB w0 m0 w m ρ cb c ax bz ov (am.length+1) (a7++vt) (top::am) (a7++vt):=hi;obtain⟨ob,mZ,jo,mj,aQ,aw⟩:=A3B hi.arr h0;have bU:Bh .i64 (((am.length+1:Nat):Int) - 1)=(am.length:Int):=by rw[N3 (by omega) (by omega)];omega
  obtain⟨iv,fv,_,_,g1,_⟩:=e3.ex;have gQ:w.cell? ⟨ob,0+am.length*7+0,none⟩=some (.int .i64 top.kind):=aw 0 _ (by rw[g1];rfl);have jh:=tm;clear tm;rw[show decide ((0:Int)<((top::am).length:Int))=true by simp]at jh;have tm:=jh;refine Pg tm 3 53 (Q9 tm) fun a tm=>?_;refine Pg tm 3 53 (Q9 tm) fun a tm=>?_;refine Pg tm 3 53 (O4 tm M6 rfl rfl rfl rfl rfl dh) fun a tm=>?_;refine Pg tm 3 53 (S2 tm) fun a tm=>?_;refine Pg tm 3 53 (R6 tm M6 D8 rfl rfl jo rfl bU (by omega)) fun a tm=>?_;refine Pg tm 3 53 (C1 tm V1) fun a tm=>?_;refine Pg tm 3 53 (D9 tm A4o rfl rfl (gQ)) fun a tm=>?_;refine Pg tm 3 53 (N6 tm) fun a tm=>?_;refine Pv tm (Q2 tm) fun a tm=>?_;refine Wn ?_;refine wcn tm rfl _ rfl ?_;have tm:=tm.keep [0,1,4,6,8];unfold A5k at hP;dsimp only at hP;cases h9:top.kind==9 with
  |false=>
   rw[if_neg (by simp)];refine K4 rfl ?_;rw[show A43 top c=some (top,c)by unfold A43;rw[h9];rfl]at hP;simp only[Bg,Bi]at hP;obtain⟨rfl,rfl⟩:=hP;exact hk _ _ _ _ _ _ rfl tm hi ba aY
  |true=>
   rw[if_pos rfl];split at hP
   ·cases hP
   rename_i t' c' db;simp only[Bg,Bi]at hP;obtain⟨rfl,rfl⟩:=hP;exact C8z hb hI h9 db hi (by omega) h0 tm ba aY fun a w m ρ cs ax tm hi ba aY=>hk _ _ _ _ _ _ (by simp) tm hi ba aY
theorem C8d{I:Inv}(hb:HB I){w0:World}{m0:Nat→Nat}{cb bz:Nat}{ae shut:Bool}{c c1:CurT}{ax ov:Value}{Q:Exit→Act→World→Prop}{a:Act}{w:World}{m ρ:Nat→Nat}{cs:List Value}{op:List LitT}
  (hI:∀ w m,Ext w0 m0 w m→I w m)(hP:A6U op c=some (shut,c1))(hi:LitB w0 m0 w m ρ cb c ax bz ov op.length cs op cs)(hs:op.length≤549755813889)(tm:Tm a 147 [(0,.pointer (some ⟨cb,0,none⟩)),(1,.bool ae),(4,.pointer (some ⟨bz,0,none⟩)),(6,ov)])
  (hk:∀ a w m ρ ax,Tm a 147 [(0,.pointer (some ⟨cb,0,none⟩)),(1,.bool ae),(4,.pointer (some ⟨bz,0,none⟩)),(6,ov),(7,.bool shut)]→LitB w0 m0 w m ρ cb c1 ax bz ov op.length cs op cs→Q .normal a w):(A0 Bq [1,1,0,0,0,1,0,0]).wp Ba Q a w:=by
 obtain⟨oa,dK,dh⟩:=hi.arr.len;refine A6 3 16 rfl rfl ?_;refine Pm tm fun a tm=>?_;refine Pv tm (O4 tm M6 rfl rfl rfl rfl rfl dh) fun a tm=>?_;refine Pv tm (A6O tm) fun a tm=>?_;refine Pm tm fun a tm=>?_;cases op with
 |nil=>
  have jh:=tm;clear tm;rw[show decide ((0:Int)<(([]:List LitT).length:Int))=false from rfl]at jh;have tm:=jh;refine F1 tm (j:=3) (g:=21) (d:=22) (b:=false) rfl rfl rfl rfl rfl rfl rfl fun a tm=>?_;refine F1 tm (j:=3) (g:=21) (d:=23) (b:=false) rfl rfl rfl rfl rfl rfl rfl fun a tm=>?_;refine F1 tm (j:=3) (g:=21) (d:=24) (b:=false) rfl rfl rfl rfl rfl rfl rfl fun a tm=>?_;refine F1 tm (j:=3) (g:=21) (d:=25) (b:=false) rfl rfl rfl rfl rfl rfl rfl fun a tm=>?_;refine F1 tm (j:=3) (g:=21) (d:=26) (b:=false) rfl rfl rfl rfl rfl rfl rfl fun a tm=>?_;refine F1 tm (j:=3) (g:=21) (d:=27) (b:=false) rfl rfl rfl rfl rfl rfl rfl fun a tm=>?_;refine F1 tm (j:=3) (g:=21) (d:=28) (b:=false) rfl rfl rfl rfl rfl rfl rfl fun a tm=>?_;refine F1 tm (j:=3) (g:=21) (d:=29) (b:=false) rfl rfl rfl rfl rfl rfl rfl fun a tm=>?_;refine F1 tm (j:=3) (g:=21) (d:=30) (b:=false) rfl rfl rfl rfl rfl rfl rfl fun a tm=>?_;refine F1 tm (j:=3) (g:=21) (d:=31) (b:=false) rfl rfl rfl rfl rfl rfl rfl fun a tm=>?_;refine Pv tm (A0b tm) fun a tm=>?_;refine Pa tm fun a tm=>?_;refine Be ?_;simp only[A6U,Bg,Bi]at hP;obtain⟨rfl,rfl⟩:=hP;exact hk _ _ _ _ _ (tm.sub ⟨rfl,rfl,rfl,rfl,rfl,trivial⟩) hi
 |cons top am=>
  rw[Bj]at hs;obtain⟨a7,vt,e1,e2,e3⟩:=id hi.opn;have h0:=e2.len;have cu:=e3.len;subst e1;have hi:LitB w0 m0 w m ρ cb c ax bz ov (am.length+1) (a7++vt) (top::am) (a7++vt):=hi;obtain⟨ob,mZ,jo,mj,aQ,aw⟩:=A3B hi.arr h0;have bU:Bh .i64 (((am.length+1:Nat):Int) - 1)=(am.length:Int):=by rw[N3 (by omega) (by omega)];omega
  obtain⟨iv,fv,_,_,g1,_⟩:=e3.ex;have gQ:w.cell? ⟨ob,0+am.length*7+0,none⟩=some (.int .i64 top.kind):=aw 0 _ (by rw[g1];rfl);have jh:=tm;clear tm;rw[show decide ((0:Int)<((top::am).length:Int))=true by simp]at jh;have tm:=jh;have hP:A8m top.kind c=some (shut,c1):=hP;unfold A8m at hP;cases cK:okR [.str] (F95 top.kind)with
  |false=>rw[cK]at hP;cases hP
  |true=>
  rw[cK,cond_true]at hP;generalize hp:lS (gL (F95 top.kind) 0)=p at hP;cases ff:okB [.bool] G1 (f94 p c)with
  |false=>rw[ff]at hP;cases hP
  |true=>
  rw[ff,cond_true]at hP;simp only[Bg,Bi]at hP;obtain⟨fF,gk⟩:=hP;refine Pg tm 3 21 (Q9 tm) fun a tm=>?_;refine Pg tm 3 21 (Q9 tm) fun a tm=>?_;refine Pg tm 3 21 (Q9 tm) fun a tm=>?_;refine Pg tm 3 21 (O4 tm M6 rfl rfl rfl rfl rfl dh) fun a tm=>?_;refine Pg tm 3 21 (S2 tm) fun a tm=>?_;refine Pg tm 3 21 (R6 tm M6 D8 rfl rfl jo rfl bU (by omega)) fun a tm=>?_;refine Pg tm 3 21 (C1 tm V1) fun a tm=>?_;refine Pg tm 3 21 (D9 tm A4o rfl rfl (gQ)) fun a tm=>?_;refine A3U tm (j:=3) (g:=21) rfl rfl rfl rfl fun K hK=>H6 tm rfl rfl rfl (A7J hb).enter rfl (V7 tm rfl rfl) (R5 (A7J hb) (ls:=[.int .i64 top.kind]) (A0D (r:=.one (.str (lS (gL (F95 top.kind) 0)))) rfl cK) (hI _ _ hi.sys.km.ext) hi.z0 ⟨.int _ _,trivial⟩ rfl) ?_;rintro e w1 ⟨v1,m1,rfl,k1,e1⟩;obtain rfl:=CRep.str_inv e1;rw[hp];have hi:=hi.step k1 (fun _ _ h=>h.elim) (.inl fun _ h=>h) 0 (fun h=>absurd rfl h);generalize A7 ρ w.heap.size 0=ρ2 at hi;refine⟨_,rfl,fun a tm=>hK _ _ ?_⟩;refine A3U tm (j:=3) (g:=21) rfl rfl rfl rfl fun K hK=>H6 tm rfl rfl rfl (A6g hb).enter rfl (S4 tm rfl rfl rfl) (Y7 (A6g hb) (ls:=[.str p]) (vs:=[D5 p]) (ks:=[.bool]) (F:=f94 p c) rfl ff (hI _ _ hi.sys.km.ext) hi.z0 ⟨.str _,trivial⟩ rfl hi.cur) ?_;rintro e w2 ⟨m3,rv,fe,rfl,k2,cu1,wR⟩;obtain⟨v1,rfl,e2⟩:∃ v1,rv=[v1]∧CRep U6 w2 m3 (.bool (lB (gB (f94 p c) 0))) v1:=by
   match rv,wR with
   |[x],⟨e2,_⟩=>exact⟨x,rfl,e2⟩
  obtain rfl:=CRep.bool_inv e2;rw[fF];have hi:=hi.stepC k2 cu1;have fU:A1H (f94 p c)=c1:=gk;rw[fU]at hi;refine⟨_,rfl,fun a tm=>hK _ _ ?_⟩;refine Pv tm (Q2 tm) fun a tm=>?_;refine Pa tm fun a tm=>?_;refine Be ?_;exact hk _ _ _ _ _ (tm.sub ⟨rfl,rfl,rfl,rfl,rfl,trivial⟩) hi
theorem C74{I:Inv}(hb:HB I){w0:World}{m0:Nat→Nat}(hI:∀ w m,Ext w0 m0 w m→I w m)(hz:∀ b,w0.heap.size≤b→m0 b=0){cb:Nat}{ae ok:Bool}{c c0:CurT}{ax:Value}{v0:LitT}{Q:Exit→Act→World→Prop}{a:Act}{F:Nat}
  (hc:CurB w0 m0 cb c ax)(hP:A1X ae F c []=some (v0,ok,c0))(hQ:B3C w0 m0 cb v0 ok c0 Q)(tm:Tm a 147 [(0,.pointer (some ⟨cb,0,none⟩)),(1,.bool ae)]):(A0 Bq []).wp Ba Q a w0:=by
 refine wsq rfl ?_;refine A6 0 2 rfl rfl ?_;refine Ai rfl fun K hK=>K8 tm D8 rfl rfl rfl fun a tm=>hK _ _ ?_;refine Pa tm fun a tm=>?_;refine Wn ?_;refine wsq rfl ?_;refine A6 1 1 rfl rfl ?_;refine Pa tm fun a tm=>?_;refine Be ?_;have k1:=G7 w0 m0 (.cells [.int .i64 0,.string ⟨[].toArray⟩,.bool false,.slice none 0 0,.slice none 0 0,.int .i64 0,.int .i64 0].toArray 46) hz;have s0:Sys w0 m0 (fun b=>b=cb) w0 m0 (fun b=>if b=cb then 7 else 0):=⟨KM.refl _ _ _ hz,fun b h=>by
  by_cases e:b=cb
  ·rw[e];exact hc.mz
  ·rw[if_neg e]at h;exact absurd rfl h,fun b _ h=>by
  by_cases e:b=cb
  ·exact e
  ·rw[if_neg e]at h;exact absurd rfl h⟩
 have hi:LitB w0 m0 (w0.alloc (.cells [.int .i64 0,.string ⟨[].toArray⟩,.bool false,.slice none 0 0,.slice none 0 0,.int .i64 0,.int .i64 0].toArray 46)) m0 (A7 (fun b=>if b=cb then 7 else 0) w0.heap.size 1) cb c ax w0.heap.size (.slice none 0 0) ([]:List LitT).length [] [] []:=
  ⟨s0.stepM k1 (fun _ _ h=>h.elim) 1,hc.keep k1 (fun h=>h),by rw[A5 hc.bk.lt];exact if_pos rfl,K1,H1 (Bd _),ArrN.nil,fun b hb=>by simp[D6]at hb,rfl⟩
 generalize w0.heap.size=bz at tm hi;generalize A7 (fun b=>if b=cb then 7 else 0) bz 1=ρ at hi;generalize (w0.alloc (.cells [.int .i64 0,.string ⟨[].toArray⟩,.bool false,.slice none 0 0,.slice none 0 0,.int .i64 0,.int .i64 0].toArray 46))=w at hi ⊢;generalize uO:Eb none 0 0=ov at hi tm;clear k1 s0 uO;show(A0 _ _).wp _ _ _ _;refine wsq rfl ?_;refine wbl 0 rfl ?_;refine wlp rfl (fun q a w=>∃ c op m ρ ax ov cs,A1X ae q c op=some (v0,ok,c0)∧Tm a 147 [(0,.pointer (some ⟨cb,0,none⟩)),(1,.bool ae),(4,.pointer (some ⟨bz,0,none⟩)),(6,ov)]∧LitB w0 m0 w m ρ cb c ax bz ov op.length cs op cs∧op.length≤549755813889) F ⟨c,[],m0,ρ,ax,ov,[],hP,tm.sub ⟨rfl,rfl,rfl,rfl,trivial⟩,hi,by simp⟩ ?_;clear tm hi hP hc;rintro q a w ⟨c,op,m,ρ,ax,ov,cs,hP,tm,hi,e8⟩;cases q with
 |zero=>cases hP
 |succ q=>
 simp only[A1X]at hP;cases bL:A4z ae c op with
 |none=>rw[bL]at hP;cases hP
 |some r=>
 rw[bL]at hP;unfold A4z at bL;refine wsq rfl ?_;refine wsq rfl ?_;refine A6 2 5 rfl rfl ?_;refine Pm tm fun a tm=>?_;refine Pv tm (A1I tm) fun a tm=>?_;refine Pv tm (C1 tm B33) fun a tm=>?_;refine Pv tm (D9 tm pl3 rfl rfl (hi.cur.bk.cell rfl)) fun a tm=>?_;refine Pv tm (N6 tm) fun a tm=>?_;refine Wn ?_;refine wcn tm rfl _ rfl ?_;have tm:=tm.keep [0,1,4,6];cases eB:c.kind==0 with
 |false=>
  rw[eB]at bL;simp only[Bt,cond_true,Bg]at bL;subst bL;simp only[Bg,Bi]at hP;obtain⟨rfl,rfl,rfl⟩:=hP;rw[if_neg (by simp)];refine A1f 0 rfl ?_;simp only[Exit.then,Exit.inBlock,if_true];show(A0 _ _).wp _ _ _ _;exact B3P hi tm hQ
 |true=>
  rw[eB]at bL;simp only[Br,cond_false]at bL;rw[if_pos rfl];refine K4 rfl ?_;show(A0 _ _).wp _ _ _ _;refine wbl 1 rfl ?_;refine wsq rfl ?_;split at bL
  ·cases bL
  rename_i shut c1 fF;refine C8d hb hI fF hi e8 tm fun a w m ρ ax tm hi=>?_;show(A0 _ _).wp _ _ _ _;refine wsq rfl ?_;refine A6 4 1 rfl rfl ?_;refine Ai rfl fun K hK=>K8 tm D8 rfl rfl rfl fun a tm=>hK _ _ ?_;refine Be ?_;have k1:=G7 w m (.cells [.int .i64 0,.string ⟨[].toArray⟩,.bool false,.slice none 0 0,.slice none 0 0,.int .i64 0,.int .i64 0].toArray 46) hi.z0;have hi:=hi.step k1 (fun _ _ h=>h.elim) (.inl fun _ h=>h) 5 (fun _=>rfl);have ba:Bk (w.alloc (.cells [.int .i64 0,.string ⟨[].toArray⟩,.bool false,.slice none 0 0,.slice none 0 0,.int .i64 0,.int .i64 0].toArray 46)) w.heap.size (C5 F9):=K1;have aY:A7 ρ w.heap.size 5 w.heap.size=5:=H1 (Bd _);generalize w.heap.size=bv at tm hi ba aY;generalize A7 ρ bv 5=ρ at hi aY;generalize (w.alloc (.cells [.int .i64 0,.string ⟨[].toArray⟩,.bool false,.slice none 0 0,.slice none 0 0,.int .i64 0,.int .i64 0].toArray 46))=w at hi ba ⊢;clear k1;show(A0 _ _).wp _ _ _ _;refine wsq rfl ?_;refine wsq rfl ?_;refine A6 5 1 rfl rfl ?_;refine Pm tm fun a tm=>?_;refine Wn ?_;refine wcn tm rfl _ rfl ?_;have tm:=tm.keep [0,1,4,6,8];have kV:∀ a w m ρ cs eF c' ax ov,r=.inr (c',eF)→eF.length≤549755813889→Tm a 147 [(0,.pointer (some ⟨cb,0,none⟩)),(1,.bool ae),(4,.pointer (some ⟨bz,0,none⟩)),(6,ov)]→LitB w0 m0 w m ρ cb c' ax bz ov eF.length cs eF cs→∃ n',n'<q+1∧∃ c op m ρ ax ov cs,A1X ae n' c op=some (v0,ok,c0)∧Tm a 147 [(0,.pointer (some ⟨cb,0,none⟩)),(1,.bool ae),(4,.pointer (some ⟨bz,0,none⟩)),(6,ov)]∧LitB w0 m0 w m ρ cb c ax bz ov op.length cs op cs∧op.length≤549755813889:=fun a w m ρ cs eF c' ax ov hr hl tm hi=>by
   subst hr;exact⟨q,Nat.lt_succ_self q,c',eF,m,ρ,ax,ov,cs,hP,tm,hi,hl⟩
  cases shut with
  |true=>
   simp only[cond_true]at bL;rw[if_pos rfl];cases op with
   |nil=>cases bL
   |cons v am=>
   dsimp only at bL;split at bL
   ·cases bL
   rename_i c2 cm;rw[Bj]at e8;refine C3a hb hI cm hi (by omega) ba rfl aY (tm.sub ⟨rfl,rfl,rfl,rfl,rfl,trivial⟩) fun a w m ρ ax ov cs vv tm hi co ba aY=>?_;show(A0 _ _).wp _ _ _ _;refine B8E bL hi (by omega) co ba aY tm (fun a w m ρ ov n cs a7 hr tm hi=>?_) (fun hr=>?_) (fun a w ρ cs eF ov hr hl tm hi=>kV _ _ _ _ _ _ _ _ _ hr (by omega) tm hi)
   ·subst hr;simp only[Bg,Bi]at hP;obtain⟨rfl,rfl,rfl⟩:=hP;show(A0 _ _).wp _ _ _ _;exact B3P hi tm hQ
   ·subst hr;simp only[Bg,Bi]at hP;obtain⟨rfl,rfl,rfl⟩:=hP;exact fun a w m ax bz us h1 h2 h3 h4 h5=>hQ a w m ax bz us h1 h2 h3 h4 h5
  |false=>
   simp only[cond_false]at bL;rw[if_neg (by simp)];split at bL
   ·cases bL
   rename_i eE c2 db;split at bL
   ·cases bL
   rename_i v c3 aF;refine wsq rfl ?_;refine C2g hb hI db hi e8 ba aY (tm.sub ⟨rfl,rfl,rfl,rfl,rfl,trivial⟩) fun a w m ρ cs ax fI tm hi ba aY=>?_;show(A0 _ _).wp _ _ _ _;refine C4B hb hI aF hi (fun kU=>?_) ba rfl aY tm (fun a w m ρ ax vv kU tm hi co ba aY=>?_) (fun a w m ρ ax ov cs kU tm hi=>?_)
   ·rw[kU,cond_true]at bL;cases cq:O2 eE.length with
    |false=>rw[cq]at bL;cases bL
    |true=>simpa [O2]using cq
   ·rw[kU,cond_false]at bL;show(A0 _ _).wp _ _ _ _;refine B8E bL hi (by omega) co ba aY tm (fun a w m ρ ov n cs a7 hr tm hi=>?_) (fun hr=>?_) (fun a w ρ cs eF ov hr hl tm hi=>kV _ _ _ _ _ _ _ _ _ hr (by omega) tm hi)
    ·subst hr;simp only[Bg,Bi]at hP;obtain⟨rfl,rfl,rfl⟩:=hP;show(A0 _ _).wp _ _ _ _;exact B3P hi tm hQ
    ·subst hr;simp only[Bg,Bi]at hP;obtain⟨rfl,rfl,rfl⟩:=hP;exact fun a w m ax bz us h1 h2 h3 h4 h5=>hQ a w m ax bz us h1 h2 h3 h4 h5
   ·rw[kU,cond_true]at bL;cases cq:O2 eE.length with
    |false=>rw[cq]at bL;cases bL
    |true=>
    rw[cq,cond_true]at bL;have hr:=(Cw bL).symm;have hl:eE.length≤549755813888:=by simpa [O2]using cq
    exact kV _ _ _ _ _ (v::eE) _ _ _ hr (by rw[Bj];omega) tm hi
theorem C4s{w0 w':World}{m0 m':Nat→Nat}{cb:Nat}{c':CurT}{cN:Value}{BM:Nat→Prop}{np:Nat}{pv:Nat→Value}(wS:BM cb)(k:KM w0 m0 w' m' (fun b=>b=cb))(hc:CurB w' m' cb c' cN){rs:List L6}{rv:List Value}(h:LsC U6 w' m' rs rv)(cm:rs.all clL=true):
  Post U6 ⟨w0,m0,BM,np,pv⟩ ⟨m',fun _=>.slice (some ⟨cb,0,none⟩) 0 5,fun _=>1,fun _=>0⟩ (.tup (rs++E0 0 [A1K c'])) (.tuple (rv++R0 [(cb,A0l cN c')]).toArray) w':=by
 have eA:∀ d,(Ent.tup (rs++E0 0 [A1K c']):E6).has d=true→d=900000:=fun d hd=>by
  simp only[Ent.has,Dx,Cy]at hd;obtain⟨lf,h1|h1,h2⟩:=hd
  ·rw[A46 ((Cj.1 cm) lf h1)]at h2;cases h2
  ·simp only[E0,A1K,Cv,Bp,Bw,or_false]at h1;rcases h1 with rfl|rfl|rfl|rfl|rfl|rfl
   ·exact((F6 _ _).1 h2).symm
   all_goals cases h2
 obtain⟨cc,e,fz,k1,k2,k3,k4⟩:=hc.bk;have aq:∀{l1:List L6}{us:List Value}{bs:List L6}{vs:List Value}{g:Gh},LsRep U6 w' g l1 us→LsRep U6 w' g bs vs→LsRep U6 w' g (l1++bs) (us++vs):=fun{l1 us}=>by
  induction l1 generalizing us with
  |nil=>intro bs vs g h1 h2;cases us with|nil=>exact h2|cons _ _=>exact h1.elim
  |cons a l1 ih=>intro bs vs g h1 h2;cases us with|nil=>exact h1.elim|cons u us=>exact⟨h1.1,ih h1.2 h2⟩
 exact{os:=k.os,tape:=k.tape,output:=k.output,size:=k.size,frame:=fun b hb hn=>k.heap b hb fun e=>hn (by rw[e];exact wS),ext:=k.ext,zero:=k.zero,rep:=⟨_,rfl,aq (h.rep rfl cm) ⟨⟨.ptr _ _ _,fun _ _ _ e=>by(cases e),fun d o e=>by cases e;exact⟨cb,5,rfl,.inl ⟨rfl,by decide⟩⟩⟩,by show LsRep U6 w' _ (A1K c'++[]) (A0l cN c'++[]);rw[Cv,Cv];exact hc.lsc.rep rfl rfl⟩⟩,nit:=rfl,tip:=fun d hd=>⟨_,0,5,rfl,by omega,.inr ⟨cb,0,cc,e,fz,rfl,k1,by(show 0+5*1≤_;exact k2),hc.mz,by rw[k3];exact Ei _⟩⟩,disj:=fun d e' b hd he az=>absurd ((eA d hd).trans (eA e' he).symm) az,mine:=fun d b hd hs=>.inr (by have:some cb=some b:=hs;cases this;exact wS)}
theorem A5o{I:Inv}(hb:HB I):H9 Ba U6 I 41 (sGB S41):=by
 refine⟨Tryz.call41,fun ls cs rs av hr=>?_⟩;unfold sGB at hr;unfold S41 at hr;split at hr
 ·rename_i d0 o0 ae toks at_ nest limit kind;obtain⟨hg,hr⟩:=L8 hr;rw[Bl]at hg;have hd:=(F6 _ _).1 hg.1;have ho:=(F6 _ _).1 hg.2;subst hd ho;obtain⟨h1,h2⟩:=A0A hr;unfold F41 at h1 h2;split at h2
  ·rename_i v ok c0 ag;intro w0 g vs bD hI hz aq hx je dA _ _;have au:∃ cb us,bD=[(cb,us)]:=by
    match bD,je with
    |[(cb,us)],_=>exact⟨cb,us,rfl⟩
   obtain⟨cb,us,rfl⟩:=au;obtain⟨⟨hG,lr,ck,dD,aw⟩,_⟩:=je;have jA:g.G 900000=.slice (some ⟨cb,0,none⟩) 0 us.length:=hG;have nY:g.Gs 900000=1:=dD;have yZ:us.length=5:=lr;obtain⟨a0,len,cap,qK,tJ,mR⟩:=dA 900000 ⟨.ptr 900000 0,by simp[E0,B8],rfl⟩;rw[jA]at qK;cases qK;obtain⟨b2,pH,cc,e2,mQ,nI,cj,z1,z2,z3⟩:=mR.resolve_left (by omega);cases nI;rw[nY]at z1 z2;have lb:g.wm cb=0:=by rw[z2]
   simp only[E0,R0,Cv]at hx;have tI:LsC U6 w0 g.wm (A1K ⟨toks,at_,nest,limit,kind⟩) us:=LsC.of_rep hx.2;obtain⟨ax,rfl,nV⟩:=B6U tI;have rm:CurB w0 g.wm cb ⟨toks,at_,nest,limit,kind⟩ ax:=⟨⟨cc,e2,mQ,cj,by omega,by omega,fun j u hj=>by
    obtain⟨h5,_⟩:=aw j u hj;simp only[Dd,cj]at h5;simpa using h5⟩,nV,lb⟩
   match vs,aq with
   |[vp,vb],⟨e1,e3,_⟩=>
    obtain rfl:=CRep.bool_inv e3.1;obtain⟨b,n,q1,q2⟩:=e1.2.2 900000 0 rfl;rw[jA]at q1;cases q1;obtain rfl:=q2.at (by decide);refine Cr Tryz.func41 (show Tryz.f41.body=some (A0 Bq [])by kernel_rfl) ?_;refine C74 hb (fun w m hx=>hb.mono _ _ _ _ hI hx) hz rm ag (fun a w m cN bz us tm q7 hv hk hc=>?_) (A5q (vs:=[.pointer (some ⟨cb,0,none⟩),.bool ae]) (show 2≤147 by decide) fun i v h=>?_)
    ·have uP:us.length=7:=by rw[←hv.len];rfl
     refine⟨tm.dfr,.tuple #[.agg us.toArray,.bool ok],?_,⟨m,fun _=>.slice (some ⟨cb,0,none⟩) 0 5,fun _=>1,fun _=>0⟩,[.agg us.toArray,.bool ok],[(cb,A0l cN c0)],rfl,?_,?_,?_,rfl⟩
     ·have h4:=tm.get 4 _ rfl;have h5:=tm.get 5 _ rfl;have hl:(Cq 46 ⟨bz,0,none⟩).run Ba w=.ok (.agg us.toArray) w:=A1S T4 D8 uP (fun j u hj=>by rw[Bf];exact q7.cell hj);exact A1q Ba Bq a w [.cell 4 46,.tmp 5] (by kernel_rfl) (vs:=[.agg us.toArray,.bool ok]) (fun f hf=>by
       simp[hf.tmp,hf.cell,h4,h5,asAddr,hl])
     ·rw[←(Dg h2).1];rfl
     ·rw[←(Dg h2).1, ←(Dg h2).2];exact C4s (rs:=[.agg .lit v,.bool ok]) (rv:=[.agg us.toArray,.bool ok]) ⟨900000,⟨.ptr 900000 0,by simp[E0,B8],rfl⟩,by rw[jA];simp[spare,A0l]⟩ hk hc ⟨U5 hv,.bool _,trivial⟩ rfl
     ·rw[←(Dg h2).2];obtain⟨cc,e,fz,k1,k2,k3,k4⟩:=hc.bk;exact⟨⟨rfl,rfl,(show 0<5 by decide),rfl,fun j u hj=>⟨hc.bk.cell hj,B8m hc.tk u (List.mem_of_getElem? hj)⟩⟩,trivial⟩
    ·unfold N9 at h
     match i,h with
     |0,h=>cases h;rfl
     |1,h=>cases h;rfl
  ·rename_i hn;rw[hn]at h1;cases h1
 ·cases hr
structure RdI(w0:World)(m0:Nat→Nat)(w:World)(m ρ:Nat→Nat)(cb:Nat)(c:CurT)(ax:Value)(b1 b2:Nat)(u1 u2:List Value):Prop where
 sys:Sys w0 m0 (fun _=>False) w m ρ
 cur:CurB w m cb c ax
 cr:ρ cb=7
 z1:Bk w b1 u1
 r1:ρ b1=1
 z2:Bk w b2 u2
 r2:ρ b2=2
section
variable {w0 w w':World}{m0 m m' ρ:Nat→Nat}{cb:Nat}{c c':CurT}{ax cN:Value}{b1 b2:Nat}{u1 u2:List Value}{S:Nat→Prop}
theorem RdI.z0(h:RdI w0 m0 w m ρ cb c ax b1 b2 u1 u2):∀ b,w.heap.size≤b→m b=0:=h.sys.z
theorem RdI.stepC(h:RdI w0 m0 w m ρ cb c ax b1 b2 u1 u2)(k:KM w m w' m' (fun b=>b=cb))(hc:CurB w' m' cb c' cN):RdI w0 m0 w' m' (A7 ρ w.heap.size 0) cb c' cN b1 b2 u1 u2:=
 ⟨h.sys.step k (fun b _ hs=>by rw[hs,h.cr];decide) (fun b _ hs=>by rw[hs];exact hc.mz) 0 (fun h=>absurd rfl h),hc,by rw[A5 h.cur.bk.lt];exact h.cr,k.bk h.z1 (fun e=>by have:=h.r1;rw[e,h.cr]at this;cases this),by rw[A5 h.z1.lt];exact h.r1,k.bk h.z2 (fun e=>by have:=h.r2;rw[e,h.cr]at this;cases this),by rw[A5 h.z2.lt];exact h.r2⟩
theorem RdI.stepN(h:RdI w0 m0 w m ρ cb c ax b1 b2 u1 u2)(k:KM w m w' m (fun _=>False))(r:Nat):RdI w0 m0 w' m (A7 ρ w.heap.size r) cb c ax b1 b2 u1 u2:=
 ⟨h.sys.stepM k (fun _ _ h=>h.elim) r,h.cur.keep k (fun h=>h),by rw[A5 h.cur.bk.lt];exact h.cr,k.bk h.z1 (fun h=>h),by rw[A5 h.z1.lt];exact h.r1,k.bk h.z2 (fun h=>h),by rw[A5 h.z2.lt];exact h.r2⟩
theorem RdI.setBox(h:RdI w0 m0 w m ρ cb c ax b1 b2 u1 u2){b:Nat}{us:List Value}(hb:Bk w b us)(hr:3≤ρ b∧ρ b≤5){vs:List Value}(hl:us.length=vs.length)(aF:∀ v∈vs,v.oneCell'=true):
  (Ch ⟨b,0,none⟩ vs).run Ba w=.ok () (C3 w b 0 vs)∧RdI w0 m0 (C3 w b 0 vs) m ρ cb c ax b1 b2 u1 u2∧Bk (C3 w b 0 vs) b vs∧KM w m (C3 w b 0 vs) m (fun k=>k=b):=by
 obtain⟨q1,q2,q3⟩:=hb.store (m:=m) Ba (off:=0) (vs:=vs) (by omega) aF (h.sys.zr b (by omega)) h.z0;rw[V4 us vs hl]at q2;have no:∀{d:Nat},(ρ d<3∨5<ρ d)→¬d=b:=fun{d} h1 e=>by rw[e]at h1;omega
 exact⟨q1,⟨h.sys.stay q3 (fun d _ hs=>by rw[hs];omega),h.cur.keep q3 (no (by rw[h.cr];decide)),h.cr,q3.bk h.z1 (no (by rw[h.r1];decide)),h.r1,q3.bk h.z2 (no (by rw[h.r2];decide)),h.r2⟩,q2,q3⟩
theorem RdI.set1(h:RdI w0 m0 w m ρ cb c ax b1 b2 u1 u2){vs:List Value}(hl:u1.length=vs.length)(aF:∀ v∈vs,v.oneCell'=true):
  (Ch ⟨b1,0,none⟩ vs).run Ba w=.ok () (C3 w b1 0 vs)∧RdI w0 m0 (C3 w b1 0 vs) m ρ cb c ax b1 b2 vs u2∧KM w m (C3 w b1 0 vs) m (fun k=>k=b1):=by
 obtain⟨q1,q2,q3⟩:=h.z1.store (m:=m) Ba (off:=0) (vs:=vs) (by omega) aF (h.sys.zr b1 (by rw[h.r1];decide)) h.z0;rw[V4 u1 vs hl]at q2;exact⟨q1,⟨h.sys.stay q3 (fun d _ hs=>by rw[hs,h.r1];decide),h.cur.keep q3 (fun e=>by have:=h.cr;rw[e,h.r1]at this;cases this),h.cr,q2,h.r1,q3.bk h.z2 (fun e=>by have:=h.r2;rw[e,h.r1]at this;cases this),h.r2⟩,q3⟩
theorem RdI.set2(h:RdI w0 m0 w m ρ cb c ax b1 b2 u1 u2){vs:List Value}(hl:u2.length=vs.length)(aF:∀ v∈vs,v.oneCell'=true):
  (Ch ⟨b2,0,none⟩ vs).run Ba w=.ok () (C3 w b2 0 vs)∧RdI w0 m0 (C3 w b2 0 vs) m ρ cb c ax b1 b2 u1 vs∧KM w m (C3 w b2 0 vs) m (fun k=>k=b2):=by
 obtain⟨q1,q2,q3⟩:=h.z2.store (m:=m) Ba (off:=0) (vs:=vs) (by omega) aF (h.sys.zr b2 (by rw[h.r2];decide)) h.z0;rw[V4 u2 vs hl]at q2;exact⟨q1,⟨h.sys.stay q3 (fun d _ hs=>by rw[hs,h.r2];decide),h.cur.keep q3 (fun e=>by have:=h.cr;rw[e,h.r2]at this;cases this),h.cr,q3.bk h.z1 (fun e=>by have:=h.r1;rw[e,h.r2]at this;cases this),h.r1,q2,h.r2⟩,q3⟩
end
theorem W0{w:World}{m:Nat→Nat}{t:Ty6}{x:A4 t}{us:List Value}(h:LsC U6 w m (U6.cells t x) us):∀ u∈us,u.oneCell'=true:=fun u hu=>by
 obtain⟨j,hj,rfl⟩:=List.getElem_of_mem hu;have bQ:j<(U6.cells t x).length:=by rw[h.len];exact hj
 obtain⟨v,h1,h2⟩:=h.get j _ (Bn bQ);rw[Bn hj]at h1;cases h1;exact(h2.one u6_ok (u6_ok.solid t x _ (Cs bQ))).1
theorem A0S{w:World}{m:Nat→Nat}{t:Ty6}{x:A4 t}{v:Value}(h:CRep U6 w m (.agg t x) v):∃ us:List Value,v=.agg us.toArray∧LsC U6 w m (U6.cells t x) us∧us.length=U6.size t:=by
 obtain⟨us,h1,h2⟩:=A4h h;exact⟨us,h1,h2,by rw[←h2.len,u6_ok.len]⟩
theorem call40{I:Inv}(hb:HB I){w0:World}{m0:Nat→Nat}(hI:I w0 m0)(hz:∀ b,w0.heap.size≤b→m0 b=0){src:List Int}{depth:Int}{vs:Value}(hs:CRep U6 w0 m0 (.sl .u8 src none) vs)(kW:okR [.sl .tok (some 1)] (F24 src)=true):
  Calls Ba 40 #[vs,.int .i64 depth] w0 fun e w'=>∃ cb m' ax,e=.returned (.pointer (some ⟨cb,0,none⟩))∧KM w0 m0 w' m' (fun _=>False)∧CurB w' m' cb (L7 (G6 (gL (F24 src) 0)) depth) ax∧w0.heap.size≤cb:=by
 refine Cr Tryz.func40 (show Tryz.f40.body=some (A0 Tryz.f40 [])by kernel_rfl) ?_;have tm:Tm {tmps:= #[vs,.int .i64 depth]++Fb (Tryz.f40.ntmps - #[vs,.int .i64 depth].size) undef,defers:=[]} 12 [(0,vs),(1,.int .i64 depth)]:=A5q (vs:=[vs,.int .i64 depth]) (show 2≤12 by decide) fun i v h=>by
  unfold N9 at h
  match i,h with
  |0,h=>cases h;rfl
  |1,h=>cases h;rfl
 refine wsq rfl ?_;refine A6 0 1 rfl rfl ?_;refine Pa tm fun a tm=>?_;refine Wn ?_;refine wsq rfl ?_;refine A6 1 8 rfl rfl ?_;refine Pm tm fun a tm=>?_;refine Ai rfl fun K hK=>H6 tm rfl rfl rfl (B0T hb).enter rfl (V7 tm rfl rfl) (R5 (B0T hb) (ls:=[.sl .u8 src none]) (A0D (r:=.one (.sl .tok (lL .tok (gL (F24 src) 0)) (some 1))) rfl kW) hI hz ⟨hs,trivial⟩ rfl) ?_;rintro e w1 ⟨v1,m1,rfl,k1,e1⟩;have nV:CRep U6 w1 m1 (.sl .tok (G6 (gL (F24 src) 0)) none) v1:=CRep.own e1 none;refine⟨_,rfl,fun a tm=>hK _ _ ?_⟩;obtain⟨pa,iB,ej⟩:=nV.sl_inv;refine Pm tm fun a tm=>?_;refine Pv tm (D1o tm) fun a tm=>?_;refine Pv tm (C9b tm) fun a tm=>?_;refine Pv tm (A71 tm rfl rfl rfl rfl (cs:=(A0l v1 (L7 (G6 (gL (F24 src) 0)) depth)).toArray) (by rw[ej];kernel_rfl)) fun a tm=>?_;refine Ai rfl fun K hK=>B9Y tm rfl rfl rfl rfl (us:=A0l v1 (L7 (G6 (gL (F24 src) 0)) depth)) rfl fun a tm=>hK _ _ ?_;refine Pa tm fun a tm=>?_;refine Wn ?_;refine P5 rfl ?_;have k2:=G7 w1 m1 (.cells (A0l v1 (L7 (G6 (gL (F24 src) 0)) depth)).toArray 196) k1.zero;refine⟨tm.dfr,.pointer (some ⟨w1.heap.size,0,none⟩),?_,w1.heap.size,m1,v1,rfl,k1.trans k2 (fun _ _ h=>h),⟨K1,nV.mono u6_ok k2.ext,k1.zero _ (Bd _)⟩,k1.size⟩;have h4:=tm.get 4 _ rfl;exact A1q Ba Tryz.f40 _ _ [.tmp 4] (by kernel_rfl) (vs:=[.pointer (some ⟨w1.heap.size,0,none⟩)]) (fun f hf=>by simp[hf.tmp,h4])
theorem C1C{I:Inv}(hb:HB I){w0:World}{m0:Nat→Nat}(hI:I w0 m0)(hz:∀ b,w0.heap.size≤b→m0 b=0){src:List Int}{ae:Bool}{depth:Int}{kX:Value}{r0:A4 .lit}{f0:Q8}{Q:Exit→Act→World→Prop}{a:Act}
  (hs:CRep U6 w0 m0 (.sl .u8 src none) kX)(hP:F14 src ae depth=some (.tup [.agg .lit r0,.agg .fault f0]))(tm:Tm a 34 [(0,kX),(1,.bool ae),(2,.int .i64 depth)])
  (hQ:∀ a w m b1 b2 u1 u2,Tm a 34 [(6,.pointer (some ⟨b1,0,none⟩)),(7,.pointer (some ⟨b2,0,none⟩))]→Bk w b1 u1→Bk w b2 u2→LsC U6 w m (U6.cells .lit r0) u1→LsC U6 w m (U6.cells .fault f0) u2→KM w0 m0 w m (fun _=>False)→Q .ret a w):(A0 Dq []).wp Ba Q a w0:=by
 unfold F14 at hP;cases kW:okR [.sl .tok (some 1)] (F24 src)with
 |false=>rw[kW]at hP;cases hP
 |true=>
 rw[kW,cond_true]at hP;generalize fD:L7 (G6 (gL (F24 src) 0)) depth=c0 at hP;cases oD:okB [.agg .lit,.bool] G1 (f41 ae c0)with
 |false=>rw[oD]at hP;cases hP
 |true=>
 rw[oD,cond_true]at hP;generalize fC:J9 (f41 ae c0)=c1 at hP;unfold A4X at hP;cases oE:okB [.bool] G1 (f42 c1)with
 |false=>rw[oE]at hP;cases hP
 |true=>
 rw[oE,cond_true]at hP;generalize dx:J9 (f42 c1)=c2 at hP;cases oF:okB [.agg .fault,.bool] G1 (f43 c2)with
 |false=>rw[oF]at hP;cases hP
 |true=>
 rw[oF,cond_true]at hP;dsimp only at hP;refine wsq rfl ?_;refine A6 0 2 rfl rfl ?_;refine Ai rfl fun K hK=>K8 tm D8 rfl rfl rfl fun a tm=>hK _ _ ?_;refine Ai rfl fun K hK=>K8 tm O8 rfl rfl rfl fun a tm=>hK _ _ ?_;refine Be ?_;have k1:=G7 w0 m0 (.cells [.int .i64 0,.string ⟨[].toArray⟩,.bool false,.slice none 0 0,.slice none 0 0,.int .i64 0,.int .i64 0].toArray 46) hz;have s0:Sys w0 m0 (fun _=>False) w0 m0 (fun _=>0):=⟨KM.refl _ _ _ hz,fun b h=>absurd rfl h,fun b _ h=>absurd rfl h⟩;have s1:=s0.stepM k1 (fun _ _ h=>h.elim) 1;have z1:Bk (w0.alloc (.cells [.int .i64 0,.string ⟨[].toArray⟩,.bool false,.slice none 0 0,.slice none 0 0,.int .i64 0,.int .i64 0].toArray 46)) w0.heap.size [.int .i64 0,.string ⟨[].toArray⟩,.bool false,.slice none 0 0,.slice none 0 0,.int .i64 0,.int .i64 0]:=K1;have r1:A7 (fun _=>0) w0.heap.size 1 w0.heap.size=1:=H1 (Bd _);generalize w0.heap.size=b1 at tm s1 z1 r1;generalize A7 (fun _=>0) b1 1=ρ at s1 r1;generalize (w0.alloc (.cells [.int .i64 0,.string ⟨[].toArray⟩,.bool false,.slice none 0 0,.slice none 0 0,.int .i64 0,.int .i64 0].toArray 46))=w1 at tm s1 z1 k1 ⊢;have k2:=G7 w1 m0 (.cells [.int .i64 0,.slice none 0 0,.slice none 0 0].toArray 31) s1.z;have s2:=s1.stepM k2 (fun _ _ h=>h.elim) 2;have z2:Bk (w1.alloc (.cells [.int .i64 0,.slice none 0 0,.slice none 0 0].toArray 31)) w1.heap.size [.int .i64 0,.slice none 0 0,.slice none 0 0]:=K1;have r2:A7 ρ w1.heap.size 2 w1.heap.size=2:=H1 (Bd _);have r1:=(A5 (r:=2) z1.lt).trans r1;have z1:=k2.bk z1 (fun h=>h);generalize w1.heap.size=b2 at tm s2 z2 r1 r2;generalize A7 ρ b2 2=ρ at s2 r1 r2;generalize (w1.alloc (.cells [.int .i64 0,.slice none 0 0,.slice none 0 0].toArray 31))=w at s2 z1 z2 ⊢;clear k1 k2 s0 s1;show(A0 _ _).wp _ _ _ _;refine wsq rfl ?_;refine A6 1 4 rfl rfl ?_;refine Pm tm fun a tm=>?_;refine Pm tm fun a tm=>?_;refine Ai rfl fun K hK=>H6 tm rfl rfl rfl Ef rfl (S4 tm rfl rfl rfl) (call40 hb (hb.mono _ _ _ _ hI s2.km.ext) s2.z (hs.mono u6_ok s2.km.ext) kW) ?_;rintro e w1 ⟨cb,m1,ax,rfl,k1,hc,rm⟩;rw[fD]at hc;have hi:∃ ρ,RdI w0 m0 w1 m1 ρ cb c0 ax b1 b2 [.int .i64 0,.string ⟨[].toArray⟩,.bool false,.slice none 0 0,.slice none 0 0,.int .i64 0,.int .i64 0] [.int .i64 0,.slice none 0 0,.slice none 0 0]:=by
  have s3:=s2.step k1 (fun _ _ h=>h.elim) (fun _ _ h=>h.elim) 0 (fun h=>absurd rfl h);have ne:∀ b,b<w.heap.size→¬b=cb:=fun b hb e=>by omega
  refine⟨fun b=>if b=cb then 7 else A7 ρ w.heap.size 0 b,⟨s3.km,fun b hb=>?_,fun b hb hr=>?_⟩,hc,if_pos rfl,k1.bk z1 (fun h=>h),?_,k1.bk z2 (fun h=>h),?_⟩
  ·by_cases e:b=cb
   ·rw[e];exact hc.mz
   ·simp only[if_neg e]at hb;exact s3.zr b hb
  ·have cj:=Ek hb s2.km.size;simp only[if_neg (ne b cj)]at hr;exact s3.base b hb hr
  ·simp only[if_neg (ne b1 z1.lt)];rw[A5 z1.lt];exact r1
  ·simp only[if_neg (ne b2 z2.lt)];rw[A5 z2.lt];exact r2
 obtain⟨ρ',hi⟩:=hi;refine⟨_,rfl,fun a tm=>hK _ _ ?_⟩;refine Pa tm fun a tm=>?_;refine Be ?_;generalize ρ'=ρ at hi;clear k1 s2 z1 z2 r1 r2 hc rm hs kW;have gZ:∀ w m,Ext w0 m0 w m→I w m:=fun w m hx=>hb.mono _ _ _ _ hI hx;have tm:=tm.keep [1,6,7,8];show(A0 _ _).wp _ _ _ _;refine wsq rfl ?_;refine A6 2 9 rfl rfl ?_;refine Pm tm fun a tm=>?_;refine Pm tm fun a tm=>?_;refine Ai rfl fun K hK=>H6 tm rfl rfl rfl (A5o hb).enter rfl (S4 tm rfl rfl rfl) (Y7 (A5o hb) (ls:=[.bool ae]) (vs:=[.bool ae]) (ks:=[.agg .lit,.bool]) (F:=f41 ae c0) rfl oD (gZ _ _ hi.sys.km.ext) hi.z0 ⟨.bool _,trivial⟩ rfl hi.cur) ?_;rintro e w2 ⟨m2,rv,fe,rfl,k2,cu1,ex⟩;obtain⟨v1,v2,rfl,e2,e3⟩:∃ v1 v2,rv=[v1,v2]∧CRep U6 w2 m2 (.agg .lit (lA .lit (gB (f41 ae c0) 0))) v1∧CRep U6 w2 m2 (.bool (lB (gB (f41 ae c0) 1))) v2:=by
  match rv,ex with
  |[x,y],⟨e2,e3,_⟩=>exact⟨x,y,rfl,e2,e3⟩
 obtain rfl:=CRep.bool_inv e3;obtain⟨uv,rfl,hv,cu⟩:=A0S e2;have cu:uv.length=7:=cu;have hi:=hi.stepC k2 cu1;have oG:A1H (f41 ae c0)=c1:=fC;rw[oG]at hi;refine⟨_,rfl,fun a tm=>hK _ _ ?_⟩;refine Pm tm fun a tm=>?_;refine Pv tm (O9 tm rfl rfl (vs:=[_,_])) fun a tm=>?_;refine Pv tm (O9 tm rfl rfl (vs:=[_,_])) fun a tm=>?_;refine Ai rfl fun K hK=>K8 tm D8 rfl rfl rfl fun a tm=>hK _ _ ?_;generalize A7 ρ w1.heap.size 0=ρ at hi;clear k2 cu1 ex e2 e3;have k3:=G7 w2 m2 (.cells [.int .i64 0,.string ⟨[].toArray⟩,.bool false,.slice none 0 0,.slice none 0 0,.int .i64 0,.int .i64 0].toArray 46) hi.z0;have hi:=hi.stepN k3 3;have hv:=hv.mono u6_ok k3.ext;have bv:Bk (w2.alloc (.cells [.int .i64 0,.string ⟨[].toArray⟩,.bool false,.slice none 0 0,.slice none 0 0,.int .i64 0,.int .i64 0].toArray 46)) w2.heap.size [.int .i64 0,.string ⟨[].toArray⟩,.bool false,.slice none 0 0,.slice none 0 0,.int .i64 0,.int .i64 0]:=K1;have rv:A7 ρ w2.heap.size 3 w2.heap.size=3:=H1 (Bd _);generalize w2.heap.size=b9 at tm hi bv rv;generalize A7 ρ b9 3=ρ at hi rv;generalize (w2.alloc (.cells [.int .i64 0,.string ⟨[].toArray⟩,.bool false,.slice none 0 0,.slice none 0 0,.int .i64 0,.int .i64 0].toArray 46))=w at hi hv bv k3 ⊢;clear k3;obtain⟨q1,hi,bv,q3⟩:=hi.setBox bv (by rw[rv];decide) (vs:=uv) (by rw[cu];rfl) (W0 (t:=.lit) hv);have hv:=hv.mono u6_ok q3.ext;refine Ai rfl fun K hK=>G9 tm D8 rfl rfl rfl rfl (us:=uv) rfl cu q1 (hK _ _ ?_);refine Pa tm fun a tm=>?_;generalize (C3 w b9 0 uv)=w at hi hv bv ⊢;clear q1 q3;refine Be ?_;have tm:=tm.keep [1,6,7,8,9];show(A0 _ _).wp _ _ _ _;refine wsq rfl ?_;refine A6 3 2 rfl rfl ?_;refine Pm tm fun a tm=>?_;refine Ai rfl fun K hK=>H6 tm rfl rfl rfl (A2N hb).enter rfl (V7 tm rfl rfl) (Y7 (A2N hb) (ls:=[]) (vs:=[]) (ks:=[.bool]) (F:=f42 c1) rfl oE (gZ _ _ hi.sys.km.ext) hi.z0 trivial rfl hi.cur) ?_;rintro e w2 ⟨m3,za,uQ,rfl,k2,cu1,ex⟩;have oH:¬b9=cb:=fun e=>by rw[e,hi.cr]at rv;cases rv
 have rv:=(A5 (r:=0) bv.lt).trans rv;have bv:=k2.bk bv oH;have hv:=hv.mono u6_ok k2.ext;have hi:=hi.stepC k2 cu1;have fU:A1H (f42 c1)=c2:=dx;rw[fU]at hi;refine⟨_,rfl,fun a tm=>hK _ _ ?_⟩;refine Be ?_;generalize A7 ρ w.heap.size 0=ρ at hi rv;clear k2 cu1 ex;have tm:=tm.keep [1,6,7,8,9];show(A0 _ _).wp _ _ _ _;refine wsq rfl ?_;refine A6 4 8 rfl rfl ?_;refine Pm tm fun a tm=>?_;refine Ai rfl fun K hK=>H6 tm rfl rfl rfl (A9H hb).enter rfl (V7 tm rfl rfl) (Y7 (A9H hb) (ls:=[]) (vs:=[]) (ks:=[.agg .fault,.bool]) (F:=f43 c2) rfl oF (gZ _ _ hi.sys.km.ext) hi.z0 trivial rfl hi.cur) ?_;rintro e w3 ⟨m4,rn,oJ,rfl,k2,cu1,ex⟩;obtain⟨v1,v2,rfl,e2,e3⟩:∃ v1 v2,rn=[v1,v2]∧CRep U6 w3 m4 (.agg .fault (lA .fault (gB (f43 c2) 0))) v1∧CRep U6 w3 m4 (.bool (lB (gB (f43 c2) 1))) v2:=by
  match rn,ex with
  |[x,y],⟨e2,e3,_⟩=>exact⟨x,y,rfl,e2,e3⟩
 obtain rfl:=CRep.bool_inv e3;obtain⟨uf,rfl,hf,bV⟩:=A0S e2;have bV:uf.length=3:=bV;have oH:¬b9=cb:=fun e=>by rw[e,hi.cr]at rv;cases rv
 have rv:=(A5 (r:=0) bv.lt).trans rv;have bv:=k2.bk bv oH;have hv:=hv.mono u6_ok k2.ext;have hi:=hi.stepC k2 cu1;refine⟨_,rfl,fun a tm=>hK _ _ ?_⟩;refine Pm tm fun a tm=>?_;refine Pv tm (O9 tm rfl rfl (vs:=[_,_])) fun a tm=>?_;refine Pv tm (O9 tm rfl rfl (vs:=[_,_])) fun a tm=>?_;refine Ai rfl fun K hK=>K8 tm O8 rfl rfl rfl fun a tm=>hK _ _ ?_;generalize A7 ρ w2.heap.size 0=ρ at hi rv;clear k2 cu1 ex e2 e3;have k3:=G7 w3 m4 (.cells [.int .i64 0,.slice none 0 0,.slice none 0 0].toArray 31) hi.z0;have hi:=hi.stepN k3 4;have hv:=hv.mono u6_ok k3.ext;have hf:=hf.mono u6_ok k3.ext;have rv:=(A5 (r:=4) bv.lt).trans rv;have bv:=k3.bk bv (fun h=>h);have bf:Bk (w3.alloc (.cells [.int .i64 0,.slice none 0 0,.slice none 0 0].toArray 31)) w3.heap.size [.int .i64 0,.slice none 0 0,.slice none 0 0]:=K1;have rf:A7 ρ w3.heap.size 4 w3.heap.size=4:=H1 (Bd _);generalize w3.heap.size=iW at tm hi bf rf rv;generalize A7 ρ iW 4=ρ at hi rf rv;generalize (w3.alloc (.cells [.int .i64 0,.slice none 0 0,.slice none 0 0].toArray 31))=w at hi hv hf bv bf k3 ⊢;clear k3;obtain⟨q1,hi,bf,q3⟩:=hi.setBox bf (by rw[rf];decide) (vs:=uf) (by rw[bV];rfl) (W0 (t:=.fault) hf);have hv:=hv.mono u6_ok q3.ext;have hf:=hf.mono u6_ok q3.ext;have bv:=q3.bk bv (fun e=>by rw[e,rf]at rv;cases rv);refine Ai rfl fun K hK=>G9 tm O8 rfl rfl rfl rfl (us:=uf) rfl bV q1 (hK _ _ ?_);refine Pa tm fun a tm=>?_;generalize (C3 w iW 0 uf)=w at hi hv hf bv bf ⊢;clear q1 q3;refine Be ?_;have tm:=tm.keep [1,6,7,8,9,11,12];show(A0 _ _).wp _ _ _ _;refine wsq rfl ?_;refine wsq rfl ?_;refine A6 5 1 rfl rfl ?_;refine Pm tm fun a tm=>?_;refine Wn ?_;refine wcn tm rfl _ rfl ?_;have tm:=tm.keep [1,6,7,8,9,11];cases gD:lB (gB (f43 c2) 1)with
 |true=>
  rw[gD]at hP;simp only[cond_true,Bg,Ent.tup.injEq,Cu,Leaf.agg.injEq,true_and,and_true,heq_eq_eq]at hP;obtain⟨rfl,rfl⟩:=hP;rw[if_pos rfl];refine wsq rfl ?_;refine A5O (S:=fun w'=>∀(j:Nat) u,uf[j]?=some u→w'.cell? ⟨iW,j,none⟩=some u) rfl 6 4 rfl rfl ?_;have dN:=A2j hi.z0;have hi:RdI w0 m0 _ m4 ρ cb _ oJ b1 b2 _ _:=⟨hi.sys.stay dN (fun _ _ h=>h.elim),hi.cur.keep dN (fun h=>h),hi.cr,dN.bk hi.z1 (fun h=>h),hi.r1,dN.bk hi.z2 (fun h=>h),hi.r2⟩;have bf:=dN.bk bf (fun h=>h);have hf:=hf.mono u6_ok dN.ext;generalize ({w with drawn:=w.drawn+1}:World)=w at hi bf hf ⊢;clear dN hv bv;have HS:∀(j:Nat) u,uf[j]?=some u→w.cell? ⟨iW,j,none⟩=some u:=fun j u hj=>bf.cell hj;obtain⟨q1,bP,q3⟩:=hi.set1 (vs:=[.int .i64 0,.string ⟨[].toArray⟩,.bool false,.slice none 0 0,.slice none 0 0,.int .i64 0,.int .i64 0]) rfl (fun v hv=>by simp only[Bp,Bw,or_false]at hv;rcases hv with rfl|rfl|rfl|rfl|rfl|rfl|rfl<;>rfl);have rq:=q3.bk bf (fun e=>by rw[e,hi.r1]at rf;cases rf);obtain⟨q4,aT,q6⟩:=bP.set2 (vs:=uf) (by rw[bV];rfl) (W0 (t:=.fault) hf);have uR:=q6.bk rq (fun e=>by rw[e,hi.r2]at rf;cases rf);refine Dt tm 0 rfl (by exact HS) (fun w hS=>X8 tm rfl rfl (cs:= #[.int .i64 0,.string ⟨[].toArray⟩,.bool false,.slice none 0 0,.slice none 0 0,.int .i64 0,.int .i64 0]) (by kernel_rfl)) fun a tm=>?_;refine Dt tm 1 rfl (by exact HS) (fun w hS=>I9 tm A70 O8 rfl rfl (us:=uf) bV (fun j u hj=>by rw[Bf j];exact hS j u hj)) fun a tm=>?_;refine A2Z (i:=2) (by kernel_rfl) rfl rfl fun K hK=>?_;refine G9 tm D8 rfl rfl rfl rfl (us:=[.int .i64 0,.string ⟨[].toArray⟩,.bool false,.slice none 0 0,.slice none 0 0,.int .i64 0,.int .i64 0]) rfl rfl q1 (hK _ _ (fun j u hj=>rq.cell hj) ?_);refine A2Z (i:=3) (by kernel_rfl) rfl rfl fun K hK=>?_;refine G9 tm O8 rfl rfl rfl rfl (us:=uf) rfl bV q4 (hK _ _ (fun j u hj=>uR.cell hj) ?_);refine A6x (by kernel_rfl) ?_ _;show(A0 _ _).wp _ _ _ _;exact P5 rfl (hQ _ _ _ _ _ _ _ (tm.sub ⟨rfl,rfl,trivial⟩) aT.z1 aT.z2 (A8O (.nil _ _ _ _) (.nil _ _ _ _)) ((hf.mono u6_ok q3.ext).mono u6_ok q6.ext) aT.sys.km)
 |false=>
  rw[gD]at hP;simp only[cond_false,Bg,Ent.tup.injEq,Cu,Leaf.agg.injEq,true_and,and_true,heq_eq_eq]at hP;obtain⟨rfl,rfl⟩:=hP;rw[if_neg (by simp)];refine K4 rfl ?_;show(A0 _ _).wp _ _ _ _;refine wsq rfl ?_;obtain⟨q1,bP,q3⟩:=hi.set1 (vs:=uv) (by rw[cu];rfl) (W0 (t:=.lit) hv);obtain⟨q4,aT,q6⟩:=bP.set2 (vs:=[.int .i64 0,.slice none 0 0,.slice none 0 0]) rfl (fun v hv=>by simp only[Bp,Bw,or_false]at hv;rcases hv with rfl|rfl|rfl<;>rfl);refine A6 7 4 rfl rfl ?_;refine Pv tm (I9 tm T4 D8 rfl rfl (us:=uv) cu (fun j u hj=>by rw[Bf j];exact bv.cell hj)) fun a tm=>?_;refine Pv tm (X8 tm rfl rfl (cs:= #[.int .i64 0,.slice none 0 0,.slice none 0 0]) (by kernel_rfl)) fun a tm=>?_;refine Ai rfl fun K hK=>G9 tm D8 rfl rfl rfl rfl (us:=uv) rfl cu q1 (hK _ _ ?_);refine Ai rfl fun K hK=>G9 tm O8 rfl rfl rfl rfl (us:=[.int .i64 0,.slice none 0 0,.slice none 0 0]) rfl rfl q4 (hK _ _ ?_);refine Wn ?_;exact P5 rfl (hQ _ _ _ _ _ _ _ (tm.sub ⟨rfl,rfl,trivial⟩) aT.z1 aT.z2 ((hv.mono u6_ok q3.ext).mono u6_ok q6.ext) ⟨.int _ _,.nil _ _ _ _,.nil _ _ _ _,trivial⟩ aT.sys.km)
theorem B28{I:Inv}(hb:HB I):Sound Ba U6 I 14 (sG S14):=by
 refine⟨Tryz.call14,fun ls r hr=>?_⟩;unfold sG at hr;unfold S14 at hr;split at hr
 ·rename_i src ae depth;obtain⟨h1,h2⟩:=A0A hr;have hF:∃ x f,F14 src ae depth=some (.tup [.agg .lit x,.agg .fault f]):=by
   have h3:=B0Z h1 rfl;exact⟨_,_,h3⟩
  obtain⟨x,f,hF⟩:=hF;intro w0 g vs hI hz aq _ _
  match vs,aq with
  |[v1,v2,v3],⟨e1,e2,e3,_⟩=>
   obtain rfl:=CRep.bool_inv e2.1;obtain rfl:=CRep.int_inv e3.1;refine Cr Tryz.func14 (show Tryz.f14.body=some (A0 Dq [])by kernel_rfl) ?_;refine C1C hb hI hz e1.1 hF (A5q (vs:=[v1,.bool ae,.int .i64 depth]) (show 3≤34 by decide) fun i v h=>?_) fun a w m b1 b2 u1 u2 tm lK cj ru nw hk=>?_
   ·unfold N9 at h
    match i,h with
    |0,h=>cases h;rfl
    |1,h=>cases h;rfl
    |2,h=>cases h;rfl
   ·have gm:u1.length=7:=by rw[←ru.len];rfl
    have fI:u2.length=3:=by rw[←nw.len];rfl
    refine⟨tm.dfr,.tuple #[.agg u1.toArray,.agg u2.toArray],?_,_,{g with wm:=m},rfl,?_⟩
    ·have h4:=tm.get 6 _ rfl;have h5:=tm.get 7 _ rfl;have mJ:(Cq 46 ⟨b1,0,none⟩).run Ba w=.ok (.agg u1.toArray) w:=A1S T4 D8 gm (fun j u hj=>by rw[Bf];exact lK.cell hj);have qL:(Cq 31 ⟨b2,0,none⟩).run Ba w=.ok (.agg u2.toArray) w:=A1S A70 O8 fI (fun j u hj=>by rw[Bf];exact cj.cell hj);exact A1q Ba Dq a w [.cell 6 46,.cell 7 31] (by kernel_rfl) (vs:=[.agg u1.toArray,.agg u2.toArray]) (fun f hf=>by
      simp[hf.tmp,hf.cell,h4,h5,asAddr,mJ,qL])
    ·rw[←h2,hF];exact A8c (ls:=[.agg .lit x,.agg .fault f]) (vs:=[.agg u1.toArray,.agg u2.toArray]) hk (fun _ h=>h.elim) ⟨U5 ru,U5 nw,trivial⟩ rfl _ rfl
 ·cases hr
theorem C55{I:Inv}(hb:HB I){w0:World}{m0:Nat→Nat}(hI:I w0 m0)(hz:∀ b,w0.heap.size≤b→m0 b=0){src:List Int}{depth:Int}{kX:Value}{r0:A4 .tref}{f0:Q8}{Q:Exit→Act→World→Prop}{a:Act}
  (hs:CRep U6 w0 m0 (.sl .u8 src none) kX)(hP:F17 src depth=some (.tup [.agg .tref r0,.agg .fault f0]))(tm:Tm a 31 [(0,kX),(1,.int .i64 depth)])
  (hQ:∀ a w m b1 b2 u1 u2,Tm a 31 [(4,.pointer (some ⟨b1,0,none⟩)),(5,.pointer (some ⟨b2,0,none⟩))]→Bk w b1 u1→Bk w b2 u2→LsC U6 w m (U6.cells .tref r0) u1→LsC U6 w m (U6.cells .fault f0) u2→KM w0 m0 w m (fun _=>False)→Q .ret a w):(A0 Dp []).wp Ba Q a w0:=by
 unfold F17 at hP;cases kW:okR [.sl .tok (some 1)] (F24 src)with
 |false=>rw[kW]at hP;cases hP
 |true=>
 rw[kW,cond_true]at hP;generalize fD:L7 (G6 (gL (F24 src) 0)) depth=c0 at hP;cases oD:okB [.agg .tref,.bool] G1 (f46 c0)with
 |false=>rw[oD]at hP;cases hP
 |true=>
 rw[oD,cond_true]at hP;generalize fC:J9 (f46 c0)=c1 at hP;unfold A4X at hP;cases oE:okB [.bool] G1 (f42 c1)with
 |false=>rw[oE]at hP;cases hP
 |true=>
 rw[oE,cond_true]at hP;generalize dx:J9 (f42 c1)=c2 at hP;cases oF:okB [.agg .fault,.bool] G1 (f43 c2)with
 |false=>rw[oF]at hP;cases hP
 |true=>
 rw[oF,cond_true]at hP;dsimp only at hP;refine wsq rfl ?_;refine A6 0 2 rfl rfl ?_;refine Ai rfl fun K hK=>K8 tm A1b rfl rfl rfl fun a tm=>hK _ _ ?_;refine Ai rfl fun K hK=>K8 tm O8 rfl rfl rfl fun a tm=>hK _ _ ?_;refine Be ?_;have k1:=G7 w0 m0 (.cells [.string ⟨[].toArray⟩,.string ⟨[].toArray⟩].toArray 51) hz;have s0:Sys w0 m0 (fun _=>False) w0 m0 (fun _=>0):=⟨KM.refl _ _ _ hz,fun b h=>absurd rfl h,fun b _ h=>absurd rfl h⟩;have s1:=s0.stepM k1 (fun _ _ h=>h.elim) 1;have z1:Bk (w0.alloc (.cells [.string ⟨[].toArray⟩,.string ⟨[].toArray⟩].toArray 51)) w0.heap.size [.string ⟨[].toArray⟩,.string ⟨[].toArray⟩]:=K1;have r1:A7 (fun _=>0) w0.heap.size 1 w0.heap.size=1:=H1 (Bd _);generalize w0.heap.size=b1 at tm s1 z1 r1;generalize A7 (fun _=>0) b1 1=ρ at s1 r1;generalize (w0.alloc (.cells [.string ⟨[].toArray⟩,.string ⟨[].toArray⟩].toArray 51))=w1 at tm s1 z1 k1 ⊢;have k2:=G7 w1 m0 (.cells [.int .i64 0,.slice none 0 0,.slice none 0 0].toArray 31) s1.z;have s2:=s1.stepM k2 (fun _ _ h=>h.elim) 2;have z2:Bk (w1.alloc (.cells [.int .i64 0,.slice none 0 0,.slice none 0 0].toArray 31)) w1.heap.size [.int .i64 0,.slice none 0 0,.slice none 0 0]:=K1;have r2:A7 ρ w1.heap.size 2 w1.heap.size=2:=H1 (Bd _);have r1:=(A5 (r:=2) z1.lt).trans r1;have z1:=k2.bk z1 (fun h=>h);generalize w1.heap.size=b2 at tm s2 z2 r1 r2;generalize A7 ρ b2 2=ρ at s2 r1 r2;generalize (w1.alloc (.cells [.int .i64 0,.slice none 0 0,.slice none 0 0].toArray 31))=w at s2 z1 z2 ⊢;clear k1 k2 s0 s1;show(A0 _ _).wp _ _ _ _;refine wsq rfl ?_;refine A6 1 4 rfl rfl ?_;refine Pm tm fun a tm=>?_;refine Pm tm fun a tm=>?_;refine Ai rfl fun K hK=>H6 tm rfl rfl rfl Ef rfl (S4 tm rfl rfl rfl) (call40 hb (hb.mono _ _ _ _ hI s2.km.ext) s2.z (hs.mono u6_ok s2.km.ext) kW) ?_;rintro e w1 ⟨cb,m1,ax,rfl,k1,hc,rm⟩;rw[fD]at hc;have hi:∃ ρ,RdI w0 m0 w1 m1 ρ cb c0 ax b1 b2 [.string ⟨[].toArray⟩,.string ⟨[].toArray⟩] [.int .i64 0,.slice none 0 0,.slice none 0 0]:=by
  have s3:=s2.step k1 (fun _ _ h=>h.elim) (fun _ _ h=>h.elim) 0 (fun h=>absurd rfl h);have ne:∀ b,b<w.heap.size→¬b=cb:=fun b hb e=>by omega
  refine⟨fun b=>if b=cb then 7 else A7 ρ w.heap.size 0 b,⟨s3.km,fun b hb=>?_,fun b hb hr=>?_⟩,hc,if_pos rfl,k1.bk z1 (fun h=>h),?_,k1.bk z2 (fun h=>h),?_⟩
  ·by_cases e:b=cb
   ·rw[e];exact hc.mz
   ·simp only[if_neg e]at hb;exact s3.zr b hb
  ·have cj:=Ek hb s2.km.size;simp only[if_neg (ne b cj)]at hr;exact s3.base b hb hr
  ·simp only[if_neg (ne b1 z1.lt)];rw[A5 z1.lt];exact r1
  ·simp only[if_neg (ne b2 z2.lt)];rw[A5 z2.lt];exact r2
 obtain⟨ρ',hi⟩:=hi;refine⟨_,rfl,fun a tm=>hK _ _ ?_⟩;refine Pa tm fun a tm=>?_;refine Be ?_;generalize ρ'=ρ at hi;clear k1 s2 z1 z2 r1 r2 hc rm hs kW;have gZ:∀ w m,Ext w0 m0 w m→I w m:=fun w m hx=>hb.mono _ _ _ _ hI hx;have tm:=tm.sub (fr':=[(4,.pointer (some ⟨b1,0,none⟩)),(5,.pointer (some ⟨b2,0,none⟩)),(6,.pointer (some ⟨cb,0,none⟩))]) ⟨rfl,rfl,rfl,trivial⟩;show(A0 _ _).wp _ _ _ _;refine wsq rfl ?_;refine A6 2 8 rfl rfl ?_;refine Pm tm fun a tm=>?_;refine Ai rfl fun K hK=>H6 tm rfl rfl rfl (A67 hb).enter rfl (V7 tm rfl rfl) (Y7 (A67 hb) (ls:=[]) (vs:=[]) (ks:=[.agg .tref,.bool]) (F:=f46 c0) rfl oD (gZ _ _ hi.sys.km.ext) hi.z0 trivial rfl hi.cur) ?_;rintro e w2 ⟨m2,rv,fe,rfl,k2,cu1,ex⟩;obtain⟨v1,v2,rfl,e2,e3⟩:∃ v1 v2,rv=[v1,v2]∧CRep U6 w2 m2 (.agg .tref (lA .tref (gB (f46 c0) 0))) v1∧CRep U6 w2 m2 (.bool (lB (gB (f46 c0) 1))) v2:=by
  match rv,ex with
  |[x,y],⟨e2,e3,_⟩=>exact⟨x,y,rfl,e2,e3⟩
 obtain rfl:=CRep.bool_inv e3;obtain⟨uv,rfl,hv,cu⟩:=A0S e2;have cu:uv.length=2:=cu;have hi:=hi.stepC k2 cu1;have oG:A1H (f46 c0)=c1:=fC;rw[oG]at hi;refine⟨_,rfl,fun a tm=>hK _ _ ?_⟩;refine Pm tm fun a tm=>?_;refine Pv tm (O9 tm rfl rfl (vs:=[_,_])) fun a tm=>?_;refine Pv tm (O9 tm rfl rfl (vs:=[_,_])) fun a tm=>?_;refine Ai rfl fun K hK=>K8 tm A1b rfl rfl rfl fun a tm=>hK _ _ ?_;generalize A7 ρ w1.heap.size 0=ρ at hi;clear k2 cu1 ex e2 e3;have k3:=G7 w2 m2 (.cells [.string ⟨[].toArray⟩,.string ⟨[].toArray⟩].toArray 51) hi.z0;have hi:=hi.stepN k3 3;have hv:=hv.mono u6_ok k3.ext;have bv:Bk (w2.alloc (.cells [.string ⟨[].toArray⟩,.string ⟨[].toArray⟩].toArray 51)) w2.heap.size [.string ⟨[].toArray⟩,.string ⟨[].toArray⟩]:=K1;have rv:A7 ρ w2.heap.size 3 w2.heap.size=3:=H1 (Bd _);generalize w2.heap.size=b9 at tm hi bv rv;generalize A7 ρ b9 3=ρ at hi rv;generalize (w2.alloc (.cells [.string ⟨[].toArray⟩,.string ⟨[].toArray⟩].toArray 51))=w at hi hv bv k3 ⊢;clear k3;obtain⟨q1,hi,bv,q3⟩:=hi.setBox bv (by rw[rv];decide) (vs:=uv) (by rw[cu];rfl) (W0 (t:=.tref) hv);have hv:=hv.mono u6_ok q3.ext;refine Ai rfl fun K hK=>G9 tm A1b rfl rfl rfl rfl (us:=uv) rfl cu q1 (hK _ _ ?_);refine Pa tm fun a tm=>?_;generalize (C3 w b9 0 uv)=w at hi hv bv ⊢;clear q1 q3;refine Be ?_;have tm:=tm.keep [4,5,6,7];show(A0 _ _).wp _ _ _ _;refine wsq rfl ?_;refine A6 3 2 rfl rfl ?_;refine Pm tm fun a tm=>?_;refine Ai rfl fun K hK=>H6 tm rfl rfl rfl (A2N hb).enter rfl (V7 tm rfl rfl) (Y7 (A2N hb) (ls:=[]) (vs:=[]) (ks:=[.bool]) (F:=f42 c1) rfl oE (gZ _ _ hi.sys.km.ext) hi.z0 trivial rfl hi.cur) ?_;rintro e w2 ⟨m3,za,uQ,rfl,k2,cu1,ex⟩;have oH:¬b9=cb:=fun e=>by rw[e,hi.cr]at rv;cases rv
 have rv:=(A5 (r:=0) bv.lt).trans rv;have bv:=k2.bk bv oH;have hv:=hv.mono u6_ok k2.ext;have hi:=hi.stepC k2 cu1;have fU:A1H (f42 c1)=c2:=dx;rw[fU]at hi;refine⟨_,rfl,fun a tm=>hK _ _ ?_⟩;refine Be ?_;generalize A7 ρ w.heap.size 0=ρ at hi rv;clear k2 cu1 ex;have tm:=tm.keep [4,5,6,7];show(A0 _ _).wp _ _ _ _;refine wsq rfl ?_;refine A6 4 8 rfl rfl ?_;refine Pm tm fun a tm=>?_;refine Ai rfl fun K hK=>H6 tm rfl rfl rfl (A9H hb).enter rfl (V7 tm rfl rfl) (Y7 (A9H hb) (ls:=[]) (vs:=[]) (ks:=[.agg .fault,.bool]) (F:=f43 c2) rfl oF (gZ _ _ hi.sys.km.ext) hi.z0 trivial rfl hi.cur) ?_;rintro e w3 ⟨m4,rn,oJ,rfl,k2,cu1,ex⟩;obtain⟨v1,v2,rfl,e2,e3⟩:∃ v1 v2,rn=[v1,v2]∧CRep U6 w3 m4 (.agg .fault (lA .fault (gB (f43 c2) 0))) v1∧CRep U6 w3 m4 (.bool (lB (gB (f43 c2) 1))) v2:=by
  match rn,ex with
  |[x,y],⟨e2,e3,_⟩=>exact⟨x,y,rfl,e2,e3⟩
 obtain rfl:=CRep.bool_inv e3;obtain⟨uf,rfl,hf,bV⟩:=A0S e2;have bV:uf.length=3:=bV;have oH:¬b9=cb:=fun e=>by rw[e,hi.cr]at rv;cases rv
 have rv:=(A5 (r:=0) bv.lt).trans rv;have bv:=k2.bk bv oH;have hv:=hv.mono u6_ok k2.ext;have hi:=hi.stepC k2 cu1;refine⟨_,rfl,fun a tm=>hK _ _ ?_⟩;refine Pm tm fun a tm=>?_;refine Pv tm (O9 tm rfl rfl (vs:=[_,_])) fun a tm=>?_;refine Pv tm (O9 tm rfl rfl (vs:=[_,_])) fun a tm=>?_;refine Ai rfl fun K hK=>K8 tm O8 rfl rfl rfl fun a tm=>hK _ _ ?_;generalize A7 ρ w2.heap.size 0=ρ at hi rv;clear k2 cu1 ex e2 e3;have k3:=G7 w3 m4 (.cells [.int .i64 0,.slice none 0 0,.slice none 0 0].toArray 31) hi.z0;have hi:=hi.stepN k3 4;have hv:=hv.mono u6_ok k3.ext;have hf:=hf.mono u6_ok k3.ext;have rv:=(A5 (r:=4) bv.lt).trans rv;have bv:=k3.bk bv (fun h=>h);have bf:Bk (w3.alloc (.cells [.int .i64 0,.slice none 0 0,.slice none 0 0].toArray 31)) w3.heap.size [.int .i64 0,.slice none 0 0,.slice none 0 0]:=K1;have rf:A7 ρ w3.heap.size 4 w3.heap.size=4:=H1 (Bd _);generalize w3.heap.size=iW at tm hi bf rf rv;generalize A7 ρ iW 4=ρ at hi rf rv;generalize (w3.alloc (.cells [.int .i64 0,.slice none 0 0,.slice none 0 0].toArray 31))=w at hi hv hf bv bf k3 ⊢;clear k3;obtain⟨q1,hi,bf,q3⟩:=hi.setBox bf (by rw[rf];decide) (vs:=uf) (by rw[bV];rfl) (W0 (t:=.fault) hf);have hv:=hv.mono u6_ok q3.ext;have hf:=hf.mono u6_ok q3.ext;have bv:=q3.bk bv (fun e=>by rw[e,rf]at rv;cases rv);refine Ai rfl fun K hK=>G9 tm O8 rfl rfl rfl rfl (us:=uf) rfl bV q1 (hK _ _ ?_);refine Pa tm fun a tm=>?_;generalize (C3 w iW 0 uf)=w at hi hv hf bv bf ⊢;clear q1 q3;refine Be ?_;have tm:=tm.keep [4,5,6,7,9,10];show(A0 _ _).wp _ _ _ _;refine wsq rfl ?_;refine wsq rfl ?_;refine A6 5 1 rfl rfl ?_;refine Pm tm fun a tm=>?_;refine Wn ?_;refine wcn tm rfl _ rfl ?_;have tm:=tm.keep [4,5,6,7,9];cases gD:lB (gB (f43 c2) 1)with
 |true=>
  rw[gD]at hP;simp only[cond_true,Bg,Ent.tup.injEq,Cu,Leaf.agg.injEq,true_and,and_true,heq_eq_eq]at hP;obtain⟨rfl,rfl⟩:=hP;rw[if_pos rfl];refine wsq rfl ?_;refine A5O (S:=fun w'=>∀(j:Nat) u,uf[j]?=some u→w'.cell? ⟨iW,j,none⟩=some u) rfl 6 4 rfl rfl ?_;have dN:=A2j hi.z0;have hi:RdI w0 m0 _ m4 ρ cb _ oJ b1 b2 _ _:=⟨hi.sys.stay dN (fun _ _ h=>h.elim),hi.cur.keep dN (fun h=>h),hi.cr,dN.bk hi.z1 (fun h=>h),hi.r1,dN.bk hi.z2 (fun h=>h),hi.r2⟩;have bf:=dN.bk bf (fun h=>h);have hf:=hf.mono u6_ok dN.ext;generalize ({w with drawn:=w.drawn+1}:World)=w at hi bf hf ⊢;clear dN hv bv;have HS:∀(j:Nat) u,uf[j]?=some u→w.cell? ⟨iW,j,none⟩=some u:=fun j u hj=>bf.cell hj;obtain⟨q1,bP,q3⟩:=hi.set1 (vs:=[.string ⟨[].toArray⟩,.string ⟨[].toArray⟩]) rfl (fun v hv=>by simp only[Bp,Bw,or_false]at hv;rcases hv with rfl|rfl<;>rfl);have rq:=q3.bk bf (fun e=>by rw[e,hi.r1]at rf;cases rf);obtain⟨q4,aT,q6⟩:=bP.set2 (vs:=uf) (by rw[bV];rfl) (W0 (t:=.fault) hf);have uR:=q6.bk rq (fun e=>by rw[e,hi.r2]at rf;cases rf);refine Dt tm 0 rfl (by exact HS) (fun w hS=>X8 tm rfl rfl (cs:= #[.string ⟨[].toArray⟩,.string ⟨[].toArray⟩]) (by kernel_rfl)) fun a tm=>?_;refine Dt tm 1 rfl (by exact HS) (fun w hS=>I9 tm A70 O8 rfl rfl (us:=uf) bV (fun j u hj=>by rw[Bf j];exact hS j u hj)) fun a tm=>?_;refine A2Z (i:=2) (by kernel_rfl) rfl rfl fun K hK=>?_;refine G9 tm A1b rfl rfl rfl rfl (us:=[.string ⟨[].toArray⟩,.string ⟨[].toArray⟩]) rfl rfl q1 (hK _ _ (fun j u hj=>rq.cell hj) ?_);refine A2Z (i:=3) (by kernel_rfl) rfl rfl fun K hK=>?_;refine G9 tm O8 rfl rfl rfl rfl (us:=uf) rfl bV q4 (hK _ _ (fun j u hj=>uR.cell hj) ?_);refine A6x (by kernel_rfl) ?_ _;show(A0 _ _).wp _ _ _ _;exact P5 rfl (hQ _ _ _ _ _ _ _ (tm.sub ⟨rfl,rfl,trivial⟩) aT.z1 aT.z2 ⟨.str _,.str _,trivial⟩ ((hf.mono u6_ok q3.ext).mono u6_ok q6.ext) aT.sys.km)
 |false=>
  rw[gD]at hP;simp only[cond_false,Bg,Ent.tup.injEq,Cu,Leaf.agg.injEq,true_and,and_true,heq_eq_eq]at hP;obtain⟨rfl,rfl⟩:=hP;rw[if_neg (by simp)];refine K4 rfl ?_;show(A0 _ _).wp _ _ _ _;refine wsq rfl ?_;obtain⟨q1,bP,q3⟩:=hi.set1 (vs:=uv) (by rw[cu];rfl) (W0 (t:=.tref) hv);obtain⟨q4,aT,q6⟩:=bP.set2 (vs:=[.int .i64 0,.slice none 0 0,.slice none 0 0]) rfl (fun v hv=>by simp only[Bp,Bw,or_false]at hv;rcases hv with rfl|rfl|rfl<;>rfl);refine A6 7 4 rfl rfl ?_;refine Pv tm (I9 tm B0o A1b rfl rfl (us:=uv) cu (fun j u hj=>by rw[Bf j];exact bv.cell hj)) fun a tm=>?_;refine Pv tm (X8 tm rfl rfl (cs:= #[.int .i64 0,.slice none 0 0,.slice none 0 0]) (by kernel_rfl)) fun a tm=>?_;refine Ai rfl fun K hK=>G9 tm A1b rfl rfl rfl rfl (us:=uv) rfl cu q1 (hK _ _ ?_);refine Ai rfl fun K hK=>G9 tm O8 rfl rfl rfl rfl (us:=[.int .i64 0,.slice none 0 0,.slice none 0 0]) rfl rfl q4 (hK _ _ ?_);refine Wn ?_;exact P5 rfl (hQ _ _ _ _ _ _ _ (tm.sub ⟨rfl,rfl,trivial⟩) aT.z1 aT.z2 ((hv.mono u6_ok q3.ext).mono u6_ok q6.ext) ⟨.int _ _,.nil _ _ _ _,.nil _ _ _ _,trivial⟩ aT.sys.km)
theorem B1d{I:Inv}(hb:HB I):Sound Ba U6 I 17 (sG S17):=by
 refine⟨Tryz.call17,fun ls r hr=>?_⟩;unfold sG at hr;unfold S17 at hr;split at hr
 ·rename_i src depth;obtain⟨h1,h2⟩:=A0A hr;have hF:∃ x f,F17 src depth=some (.tup [.agg .tref x,.agg .fault f]):=by
   have h3:=B0Z h1 rfl;exact⟨_,_,h3⟩
  obtain⟨x,f,hF⟩:=hF;intro w0 g vs hI hz aq _ _
  match vs,aq with
  |[v1,v3],⟨e1,e3,_⟩=>
   skip
   obtain rfl:=CRep.int_inv e3.1;refine Cr Tryz.func17 (show Tryz.f17.body=some (A0 Dp [])by kernel_rfl) ?_;refine C55 hb hI hz e1.1 hF (A5q (vs:=[v1,.int .i64 depth]) (show 2≤31 by decide) fun i v h=>?_) fun a w m b1 b2 u1 u2 tm lK cj ru nw hk=>?_
   ·unfold N9 at h
    match i,h with
    |0,h=>cases h;rfl
    |1,h=>cases h;rfl
   ·have gm:u1.length=2:=by rw[←ru.len];rfl
    have fI:u2.length=3:=by rw[←nw.len];rfl
    refine⟨tm.dfr,.tuple #[.agg u1.toArray,.agg u2.toArray],?_,_,{g with wm:=m},rfl,?_⟩
    ·have h4:=tm.get 4 _ rfl;have h5:=tm.get 5 _ rfl;have mJ:(Cq 51 ⟨b1,0,none⟩).run Ba w=.ok (.agg u1.toArray) w:=A1S B0o A1b gm (fun j u hj=>by rw[Bf];exact lK.cell hj);have qL:(Cq 31 ⟨b2,0,none⟩).run Ba w=.ok (.agg u2.toArray) w:=A1S A70 O8 fI (fun j u hj=>by rw[Bf];exact cj.cell hj);exact A1q Ba Dp a w [.cell 4 51,.cell 5 31] (by kernel_rfl) (vs:=[.agg u1.toArray,.agg u2.toArray]) (fun f hf=>by
      simp[hf.tmp,hf.cell,h4,h5,asAddr,mJ,qL])
    ·rw[←h2,hF];exact A8c (ls:=[.agg .tref x,.agg .fault f]) (vs:=[.agg u1.toArray,.agg u2.toArray]) hk (fun _ h=>h.elim) ⟨U5 ru,U5 nw,trivial⟩ rfl _ rfl
 ·cases hr
theorem C60(l:List Int)(j:Nat)(lf:L6)(h:(flat U6 .u8 l)[j]?=some lf):∃ n,l[j]?=some n∧lf=.int .u8 n:=by
 obtain⟨x,h1,h2⟩:=B2j (t:=.u8) h;have hs:U6.size .u8=1:=rfl;rw[hs,Nat.div_one]at h1;rw[hs,Nat.mod_one]at h2;exact⟨x,h1,(Cw h2).symm⟩
theorem A9k{w w2:World}{m:Nat→Nat}{l:List Int}{e:TypeId}(hl:0<l.length)(hh:w2.heap=w.heap.push (.cells (l.map (Bo .u8)).toArray e ((l.map (Bo .u8)).length,(l.map (Bo .u8)).length+1)))(h1:w2.os=w.os)(h2:w2.tape=w.tape)(h3:w2.output=w.output)(hz:∀ b,w.heap.size≤b→m b=0):
  ∃ m',CRep U6 w2 m' (.sl .u8 l none) (.slice (some ⟨w.heap.size,0,none⟩) l.length l.length)∧KM w m w2 m' (fun _=>False):=by
 have k:=C0m hh h1 h2 h3 hz;have au:(l.map (Bo .u8)).length=l.length:=Dv ..;have hm:∀ b,b≠w.heap.size→D1 m w.heap.size l.length b=m b:=fun b hb=>by simp only[D1];rw[if_neg hb]
 have aQ:∀ b,m b≤D1 m w.heap.size l.length b:=fun b=>by
  by_cases hb:b=w.heap.size
  ·rw[hb,hz _ (Bd _)];exact Ei _
  ·rw[hm b hb];exact Bd _
 refine⟨D1 m w.heap.size l.length,?_,⟨k.os,k.tape,k.output,k.size,fun b hb _=>⟨(k.heap b hb (fun h=>h)).1,hm b (by omega)⟩,⟨k.ext.ty,k.ext.cell,aQ⟩,fun b hb=>?_⟩⟩
 ·refine B1y (U:=U6) u6_ok (t:=.u8) (l:=l) (c:=(l.map (Bo .u8)).toArray) (e:=e) (fz:=((l.map (Bo .u8)).length,(l.map (Bo .u8)).length+1)) (by rw[hh];simp) l.length (Bd _) (by show l.length*1≤_;simp[D1]) (fun j lf hj=>?_) none;obtain⟨n,h4,rfl⟩:=C60 l j lf hj;exact⟨.int .u8 n,by simp[h4],.int _ _⟩
 ·have hs:w2.heap.size=w.heap.size+1:=by rw[hh];simp
  rw[hm b (by omega)];exact hz b (by omega)
theorem C0o{I:Inv}(hb:HB I){w0:World}{m0:Nat→Nat}(hI:I w0 m0)(hz:∀ b,w0.heap.size≤b→m0 b=0){Q:Exit→Act→World→Prop}{a:Act}(tm:Tm a 71 [])
  (hQ:∀ a w m,Tm a 71 [(0,.bool true)]→KM w0 m0 w m (fun _=>False)→Q .ret a w):(A0 Do []).wp Ba Q a w0:=by
 have gZ:∀ w m,Ext w0 m0 w m→I w m:=fun w m hx=>hb.mono _ _ _ _ hI hx;obtain⟨w,m,ρ,hw,s⟩:∃ w m ρ,w=w0∧Sys w0 m0 (fun _=>False) w m ρ:=⟨w0,m0,fun _=>0,rfl,KM.refl _ _ _ hz,fun b h=>absurd rfl h,fun b _ h=>absurd rfl h⟩;rw[←hw];obtain⟨wT,zb,rN,dU,zd⟩:=C1d;obtain⟨uS,ze,fu,cI,pE⟩:=C2m;obtain⟨uT,zf,zg,zh,zi⟩:=D0E;obtain⟨uU,zj,zk,zl,zn⟩:=D0O;refine wsq rfl ?_;refine A6 0 1 rfl rfl ?_;refine Pa tm fun a tm=>?_;refine Wn ?_;refine wsq rfl ?_;refine A6 1 10 rfl rfl ?_;refine Ai rfl fun K hK=>A82 tm A2i tz5 rfl rfl rfl (vs:=src71.map (Bo .u8)) (fun ev gu=>by simp[gu,src71]) (fun v hv=>by obtain⟨_,_,rfl⟩:=Cm.1 hv;rfl) rfl (by decide) (by decide) fun a tm=>hK _ _ ?_;refine Ai rfl fun K hK=>A9N tm A2i A79 rfl rfl rfl (vs:=src71.map (Bo .u8)) (w0:=w) rfl rfl fun a w2 tm hh h1 h2 h3=>hK _ _ ?_;obtain⟨m2,cs,kb⟩:=A9k (m:=m) (l:=src71) (by decide) hh h1 h2 h3 s.z;have s:=s.step kb (fun _ _ h=>h.elim) (fun _ _ h=>h.elim) 0 (fun h=>absurd rfl h);generalize A7 ρ w.heap.size 0=ρ at s;clear kb hh h1 h2 h3;refine Ai rfl fun K hK=>H6 tm rfl rfl rfl (A2K hb 8 rfl Ed).enter rfl (S4 tm rfl rfl rfl) (R5 (A2K hb 8 rfl Ed) (ls:=[.sl .u8 src71 none,.int .i64 9]) rN (gZ _ _ s.km.ext) s.z ⟨cs,.int _ _,trivial⟩ rfl) ?_;rintro e w3 ⟨v1,m3,rfl,kc,e1⟩;have s:=s.step kc (fun _ _ h=>h.elim) (fun _ _ h=>h.elim) 0 (fun h=>absurd rfl h);obtain⟨dE,rfl,e1⟩:=e1;obtain⟨x1,x2,rfl,e2,e3⟩:∃ x1 x2,dE=[x1,x2]∧CRep U6 w3 m3 (.agg .doc (wT)) x1∧CRep U6 w3 m3 (.agg .fault zb) x2:=by
  match dE,e1 with
  |[x,y],⟨e2,e3,_⟩=>exact⟨x,y,rfl,e2,e3⟩
 generalize A7 ρ w2.heap.size 0=ρ at s;obtain⟨oK,rfl,aW,kY⟩:=A0S e3;have kY:oK.length=3:=kY;obtain⟨po,rfl,aO,jq⟩:=A0S e2;have jq:po.length=1:=jq;generalize w3=w at s aW aO ⊢;generalize m3=m at s aW aO;refine⟨_,rfl,fun a tm=>hK _ _ ?_⟩;refine Pm tm fun a tm=>?_;refine Pv tm (O9 tm rfl rfl (vs:=[_,_])) fun a tm=>?_;refine Pv tm (O9 tm rfl rfl (vs:=[_,_])) fun a tm=>?_;refine Ai rfl fun K hK=>K8 tm B30 rfl rfl rfl fun a tm=>hK _ _ ?_;have ka:=G7 w m (.cells [.slice none 0 0].toArray 26) s.z;have s:=s.stepM ka (fun _ _ h=>h.elim) 1;have aW:=aW.mono u6_ok ka.ext;have aO:=aO.mono u6_ok ka.ext;have aR:Bk (w.alloc (.cells [.slice none 0 0].toArray 26)) w.heap.size [.slice none 0 0]:=K1;have bu:A7 ρ w.heap.size 1 w.heap.size=1:=H1 (Bd _);generalize w.heap.size=d1 at tm s aR bu;generalize A7 ρ d1 1=ρ at s bu;generalize (w.alloc (.cells [.slice none 0 0].toArray 26))=w at tm s aR ka aW aO ⊢;clear ka;refine Ai rfl fun K hK=>K8 tm O8 rfl rfl rfl fun a tm=>hK _ _ ?_;have ka:=G7 w m (.cells [.int .i64 0,.slice none 0 0,.slice none 0 0].toArray 31) s.z;have s:=s.stepM ka (fun _ _ h=>h.elim) 2;have bu:=(A5 (r:=2) aR.lt).trans bu;have aR:=ka.bk aR (fun h=>h);have aW:=aW.mono u6_ok ka.ext;have aO:=aO.mono u6_ok ka.ext;have aZ:Bk (w.alloc (.cells [.int .i64 0,.slice none 0 0,.slice none 0 0].toArray 31)) w.heap.size [.int .i64 0,.slice none 0 0,.slice none 0 0]:=K1;have bE:A7 ρ w.heap.size 2 w.heap.size=2:=H1 (Bd _);generalize w.heap.size=g1 at tm s aZ bE bu;generalize A7 ρ g1 2=ρ at s bE bu;generalize (w.alloc (.cells [.int .i64 0,.slice none 0 0,.slice none 0 0].toArray 31))=w at tm s aZ ka aR aW aO ⊢;clear ka;obtain⟨q1,q2,q3⟩:=aR.store (m:=m) Ba (off:=0) (vs:=po) (by rw[Bf,jq];decide) (W0 (t:=.doc) aO) (s.zr d1 (by rw[bu];decide)) s.z;rw[V4 _ po (by rw[jq];rfl)]at q2;refine Ai rfl fun K hK=>G9 tm B30 rfl rfl rfl rfl (us:=po) rfl jq q1 (hK _ _ ?_);have s:=s.stay q3 (fun b _ hs=>by rw[hs,bu];decide);have aZ:=q3.bk aZ (fun e=>by rw[e,bu]at bE;cases bE);have aW:=aW.mono u6_ok q3.ext;have aO:=aO.mono u6_ok q3.ext;have aR:=q2;generalize (C3 w d1 0 po)=w at s aR aZ aW aO ⊢;clear q1 q2 q3;obtain⟨q1,q2,q3⟩:=aZ.store (m:=m) Ba (off:=0) (vs:=oK) (by rw[Bf,kY];decide) (W0 (t:=.fault) aW) (s.zr g1 (by rw[bE];decide)) s.z;rw[V4 _ oK (by rw[kY];rfl)]at q2;refine Ai rfl fun K hK=>G9 tm O8 rfl rfl rfl rfl (us:=oK) rfl kY q1 (hK _ _ ?_);have s:=s.stay q3 (fun b _ hs=>by rw[hs,bE];decide);have aR:=q3.bk aR (fun e=>by rw[e,bE]at bu;cases bu);have aW:=aW.mono u6_ok q3.ext;have aO:=aO.mono u6_ok q3.ext;have aZ:=q2;generalize (C3 w g1 0 oK)=w at s aR aZ aW aO ⊢;clear q1 q2 q3;refine Be ?_;have tm:=tm.sub (fr':=[(1,.pointer (some ⟨d1,0,none⟩)),(2,.pointer (some ⟨g1,0,none⟩))]) ⟨rfl,rfl,trivial⟩;show(A0 _ _).wp _ _ _ _;refine wsq rfl ?_;refine A6 2 9 rfl rfl ?_;refine Ai rfl fun K hK=>A82 tm A2i tz5 rfl rfl rfl (vs:=src72.map (Bo .u8)) (fun ev gu=>by simp[gu,src72]) (fun v hv=>by obtain⟨_,_,rfl⟩:=Cm.1 hv;rfl) rfl (by decide) (by decide) fun a tm=>hK _ _ ?_;refine Ai rfl fun K hK=>A9N tm A2i A79 rfl rfl rfl (vs:=src72.map (Bo .u8)) (w0:=w) rfl rfl fun a w2 tm hh h1 h2 h3=>hK _ _ ?_;obtain⟨m2,cs,kb⟩:=A9k (m:=m) (l:=src72) (by decide) hh h1 h2 h3 s.z;have s:=s.step kb (fun _ _ h=>h.elim) (fun _ _ h=>h.elim) 0 (fun h=>absurd rfl h);have bu:=(A5 (r:=0) aR.lt).trans bu;have bE:=(A5 (r:=0) aZ.lt).trans bE;have aR:=kb.bk aR (fun h=>h);have aZ:=kb.bk aZ (fun h=>h);have aW:=aW.mono u6_ok kb.ext;have aO:=aO.mono u6_ok kb.ext;generalize A7 ρ w.heap.size 0=ρ at s bu bE;clear kb hh h1 h2 h3;refine Ai rfl fun K hK=>H6 tm rfl rfl rfl (A2K hb 11 rfl Eh).enter rfl (S4 tm rfl rfl rfl) (R5 (A2K hb 11 rfl Eh) (ls:=[.sl .u8 src72 none,.int .i64 9]) fu (gZ _ _ s.km.ext) s.z ⟨cs,.int _ _,trivial⟩ rfl) ?_;rintro e w3 ⟨v1,m3,rfl,kc,e1⟩;have s:=s.step kc (fun _ _ h=>h.elim) (fun _ _ h=>h.elim) 0 (fun h=>absurd rfl h);have bu:=(A5 (r:=0) aR.lt).trans bu;have bE:=(A5 (r:=0) aZ.lt).trans bE;have aR:=kc.bk aR (fun h=>h);have aZ:=kc.bk aZ (fun h=>h);have aW:=aW.mono u6_ok kc.ext;have aO:=aO.mono u6_ok kc.ext;obtain⟨dE,rfl,e1⟩:=e1;obtain⟨x1,x2,rfl,e2,e3⟩:∃ x1 x2,dE=[x1,x2]∧CRep U6 w3 m3 (.sl .sys (uS) (some 1)) x1∧CRep U6 w3 m3 (.agg .fault ze) x2:=by
  match dE,e1 with
  |[x,y],⟨e2,e3,_⟩=>exact⟨x,y,rfl,e2,e3⟩
 generalize A7 ρ w2.heap.size 0=ρ at s bu bE;obtain⟨oL,rfl,bG,kZ⟩:=A0S e3;have kZ:oL.length=3:=kZ;have aU:CRep U6 w3 m3 (.sl .sys uS none) x1:=e2.own none;generalize w3=w at s bG aU aR aZ aW aO ⊢;generalize m3=m at s bG aU aW aO;refine⟨_,rfl,fun a tm=>hK _ _ ?_⟩;refine Pm tm fun a tm=>?_;refine Pv tm (O9 tm rfl rfl (vs:=[_,_])) fun a tm=>?_;refine Pv tm (O9 tm rfl rfl (vs:=[_,_])) fun a tm=>?_;refine Ai rfl fun K hK=>K8 tm O8 rfl rfl rfl fun a tm=>hK _ _ ?_;have ka:=G7 w m (.cells [.int .i64 0,.slice none 0 0,.slice none 0 0].toArray 31) s.z;have s:=s.stepM ka (fun _ _ h=>h.elim) 4;have bu:=(A5 (r:=4) aR.lt).trans bu;have bE:=(A5 (r:=4) aZ.lt).trans bE;have aR:=ka.bk aR (fun h=>h);have aZ:=ka.bk aZ (fun h=>h);have aW:=aW.mono u6_ok ka.ext;have aO:=aO.mono u6_ok ka.ext;have bG:=bG.mono u6_ok ka.ext;have aU:=aU.mono u6_ok ka.ext;have bK:Bk (w.alloc (.cells [.int .i64 0,.slice none 0 0,.slice none 0 0].toArray 31)) w.heap.size [.int .i64 0,.slice none 0 0,.slice none 0 0]:=K1;have ci:A7 ρ w.heap.size 4 w.heap.size=4:=H1 (Bd _);generalize w.heap.size=g2 at tm s bK ci bu bE;generalize A7 ρ g2 4=ρ at s ci bu bE;generalize (w.alloc (.cells [.int .i64 0,.slice none 0 0,.slice none 0 0].toArray 31))=w at tm s bK ka aR aZ aW aO bG aU ⊢;clear ka;refine Pa tm fun a tm=>?_;obtain⟨q1,q2,q3⟩:=bK.store (m:=m) Ba (off:=0) (vs:=oL) (by rw[Bf,kZ];decide) (W0 (t:=.fault) bG) (s.zr g2 (by rw[ci];decide)) s.z;rw[V4 _ oL (by rw[kZ];rfl)]at q2;refine Ai rfl fun K hK=>G9 tm O8 rfl rfl rfl rfl (us:=oL) rfl kZ q1 (hK _ _ ?_);have s:=s.stay q3 (fun b _ hs=>by rw[hs,ci];decide);have aR:=q3.bk aR (fun e=>by rw[e,ci]at bu;cases bu);have aZ:=q3.bk aZ (fun e=>by rw[e,ci]at bE;cases bE);have aW:=aW.mono u6_ok q3.ext;have aO:=aO.mono u6_ok q3.ext;have bG:=bG.mono u6_ok q3.ext;have aU:=aU.mono u6_ok q3.ext;have bK:=q2;generalize (C3 w g2 0 oL)=w at s aR aZ bK aW aO bG aU ⊢;clear q1 q2 q3;generalize x1=zo at tm aU;refine Be ?_;have tm:=tm.keep [1,2,3,4];show(A0 _ _).wp _ _ _ _;refine wsq rfl ?_;refine A6 3 10 rfl rfl ?_;refine Ai rfl fun K hK=>A82 tm A2i tz5 rfl rfl rfl (vs:=src73.map (Bo .u8)) (fun ev gu=>by simp[gu,src73]) (fun v hv=>by obtain⟨_,_,rfl⟩:=Cm.1 hv;rfl) rfl (by decide) (by decide) fun a tm=>hK _ _ ?_;refine Ai rfl fun K hK=>A9N tm A2i A79 rfl rfl rfl (vs:=src73.map (Bo .u8)) (w0:=w) rfl rfl fun a w2 tm hh h1 h2 h3=>hK _ _ ?_;obtain⟨m2,cs,kb⟩:=A9k (m:=m) (l:=src73) (by decide) hh h1 h2 h3 s.z;have s:=s.step kb (fun _ _ h=>h.elim) (fun _ _ h=>h.elim) 0 (fun h=>absurd rfl h);have bu:=(A5 (r:=0) aR.lt).trans bu;have bE:=(A5 (r:=0) aZ.lt).trans bE;have ci:=(A5 (r:=0) bK.lt).trans ci;have aR:=kb.bk aR (fun h=>h);have aZ:=kb.bk aZ (fun h=>h);have bK:=kb.bk bK (fun h=>h);have aW:=aW.mono u6_ok kb.ext;have aO:=aO.mono u6_ok kb.ext;have bG:=bG.mono u6_ok kb.ext;have aU:=aU.mono u6_ok kb.ext;generalize A7 ρ w.heap.size 0=ρ at s bu bE ci;clear kb hh h1 h2 h3;refine Ai rfl fun K hK=>H6 tm rfl rfl rfl (B28 hb).enter rfl (B87 tm rfl rfl rfl rfl) (R5 (B28 hb) (ls:=[.sl .u8 src73 none,.bool false,.int .i64 9]) (by show M1 (some (okR _ (F14 src73 false 9),J4 _ _))=_;rw[zg];rfl) (gZ _ _ s.km.ext) s.z ⟨cs,.bool _,.int _ _,trivial⟩ rfl) ?_;rintro e w3 ⟨v1,m3,rfl,kc,e1⟩;have s:=s.step kc (fun _ _ h=>h.elim) (fun _ _ h=>h.elim) 0 (fun h=>absurd rfl h);have bu:=(A5 (r:=0) aR.lt).trans bu;have bE:=(A5 (r:=0) aZ.lt).trans bE;have ci:=(A5 (r:=0) bK.lt).trans ci;have aR:=kc.bk aR (fun h=>h);have aZ:=kc.bk aZ (fun h=>h);have bK:=kc.bk bK (fun h=>h);have aW:=aW.mono u6_ok kc.ext;have aO:=aO.mono u6_ok kc.ext;have bG:=bG.mono u6_ok kc.ext;have aU:=aU.mono u6_ok kc.ext;obtain⟨dE,rfl,e1⟩:=e1;obtain⟨x1,x2,rfl,e2,e3⟩:∃ x1 x2,dE=[x1,x2]∧CRep U6 w3 m3 (.agg .lit (uT)) x1∧CRep U6 w3 m3 (.agg .fault zf) x2:=by
  match dE,e1 with
  |[x,y],⟨e2,e3,_⟩=>exact⟨x,y,rfl,e2,e3⟩
 generalize A7 ρ w2.heap.size 0=ρ at s bu bE ci;obtain⟨oM,rfl,cx,k7⟩:=A0S e3;have k7:oM.length=3:=k7;obtain⟨pp,rfl,cf,jr⟩:=A0S e2;have jr:pp.length=7:=jr;generalize w3=w at s cx cf aR aZ bK aW aO bG aU ⊢;generalize m3=m at s cx cf aW aO bG aU;refine⟨_,rfl,fun a tm=>hK _ _ ?_⟩;refine Pm tm fun a tm=>?_;refine Pv tm (O9 tm rfl rfl (vs:=[_,_])) fun a tm=>?_;refine Pv tm (O9 tm rfl rfl (vs:=[_,_])) fun a tm=>?_;refine Ai rfl fun K hK=>K8 tm D8 rfl rfl rfl fun a tm=>hK _ _ ?_;have ka:=G7 w m (.cells [.int .i64 0,.string ⟨[].toArray⟩,.bool false,.slice none 0 0,.slice none 0 0,.int .i64 0,.int .i64 0].toArray 46) s.z;have s:=s.stepM ka (fun _ _ h=>h.elim) 5;have bu:=(A5 (r:=5) aR.lt).trans bu;have bE:=(A5 (r:=5) aZ.lt).trans bE;have ci:=(A5 (r:=5) bK.lt).trans ci;have aR:=ka.bk aR (fun h=>h);have aZ:=ka.bk aZ (fun h=>h);have bK:=ka.bk bK (fun h=>h);have aW:=aW.mono u6_ok ka.ext;have aO:=aO.mono u6_ok ka.ext;have bG:=bG.mono u6_ok ka.ext;have aU:=aU.mono u6_ok ka.ext;have cx:=cx.mono u6_ok ka.ext;have cf:=cf.mono u6_ok ka.ext;have cy:Bk (w.alloc (.cells [.int .i64 0,.string ⟨[].toArray⟩,.bool false,.slice none 0 0,.slice none 0 0,.int .i64 0,.int .i64 0].toArray 46)) w.heap.size [.int .i64 0,.string ⟨[].toArray⟩,.bool false,.slice none 0 0,.slice none 0 0,.int .i64 0,.int .i64 0]:=K1;have cF:A7 ρ w.heap.size 5 w.heap.size=5:=H1 (Bd _);generalize w.heap.size=d3 at tm s cy cF bu bE ci;generalize A7 ρ d3 5=ρ at s cF bu bE ci;generalize (w.alloc (.cells [.int .i64 0,.string ⟨[].toArray⟩,.bool false,.slice none 0 0,.slice none 0 0,.int .i64 0,.int .i64 0].toArray 46))=w at tm s cy ka aR aZ bK aW aO bG aU cx cf ⊢;clear ka;refine Ai rfl fun K hK=>K8 tm O8 rfl rfl rfl fun a tm=>hK _ _ ?_;have ka:=G7 w m (.cells [.int .i64 0,.slice none 0 0,.slice none 0 0].toArray 31) s.z;have s:=s.stepM ka (fun _ _ h=>h.elim) 6;have bu:=(A5 (r:=6) aR.lt).trans bu;have bE:=(A5 (r:=6) aZ.lt).trans bE;have ci:=(A5 (r:=6) bK.lt).trans ci;have cF:=(A5 (r:=6) cy.lt).trans cF;have aR:=ka.bk aR (fun h=>h);have aZ:=ka.bk aZ (fun h=>h);have bK:=ka.bk bK (fun h=>h);have cy:=ka.bk cy (fun h=>h);have aW:=aW.mono u6_ok ka.ext;have aO:=aO.mono u6_ok ka.ext;have bG:=bG.mono u6_ok ka.ext;have aU:=aU.mono u6_ok ka.ext;have cx:=cx.mono u6_ok ka.ext;have cf:=cf.mono u6_ok ka.ext;have cA:Bk (w.alloc (.cells [.int .i64 0,.slice none 0 0,.slice none 0 0].toArray 31)) w.heap.size [.int .i64 0,.slice none 0 0,.slice none 0 0]:=K1;have cQ:A7 ρ w.heap.size 6 w.heap.size=6:=H1 (Bd _);generalize w.heap.size=g3 at tm s cA cQ bu bE ci cF;generalize A7 ρ g3 6=ρ at s cQ bu bE ci cF;generalize (w.alloc (.cells [.int .i64 0,.slice none 0 0,.slice none 0 0].toArray 31))=w at tm s cA ka aR aZ bK cy aW aO bG aU cx cf ⊢;clear ka;obtain⟨q1,q2,q3⟩:=cy.store (m:=m) Ba (off:=0) (vs:=pp) (by rw[Bf,jr];decide) (W0 (t:=.lit) cf) (s.zr d3 (by rw[cF];decide)) s.z;rw[V4 _ pp (by rw[jr];rfl)]at q2;refine Ai rfl fun K hK=>G9 tm D8 rfl rfl rfl rfl (us:=pp) rfl jr q1 (hK _ _ ?_);have s:=s.stay q3 (fun b _ hs=>by rw[hs,cF];decide);have aR:=q3.bk aR (fun e=>by rw[e,cF]at bu;cases bu);have aZ:=q3.bk aZ (fun e=>by rw[e,cF]at bE;cases bE);have bK:=q3.bk bK (fun e=>by rw[e,cF]at ci;cases ci);have cA:=q3.bk cA (fun e=>by rw[e,cF]at cQ;cases cQ);have aW:=aW.mono u6_ok q3.ext;have aO:=aO.mono u6_ok q3.ext;have bG:=bG.mono u6_ok q3.ext;have aU:=aU.mono u6_ok q3.ext;have cx:=cx.mono u6_ok q3.ext;have cf:=cf.mono u6_ok q3.ext;have cy:=q2;generalize (C3 w d3 0 pp)=w at s aR aZ bK cy cA aW aO bG aU cx cf ⊢;clear q1 q2 q3;obtain⟨q1,q2,q3⟩:=cA.store (m:=m) Ba (off:=0) (vs:=oM) (by rw[Bf,k7];decide) (W0 (t:=.fault) cx) (s.zr g3 (by rw[cQ];decide)) s.z;rw[V4 _ oM (by rw[k7];rfl)]at q2;refine Ai rfl fun K hK=>G9 tm O8 rfl rfl rfl rfl (us:=oM) rfl k7 q1 (hK _ _ ?_);have s:=s.stay q3 (fun b _ hs=>by rw[hs,cQ];decide);have aR:=q3.bk aR (fun e=>by rw[e,cQ]at bu;cases bu);have aZ:=q3.bk aZ (fun e=>by rw[e,cQ]at bE;cases bE);have bK:=q3.bk bK (fun e=>by rw[e,cQ]at ci;cases ci);have cy:=q3.bk cy (fun e=>by rw[e,cQ]at cF;cases cF);have aW:=aW.mono u6_ok q3.ext;have aO:=aO.mono u6_ok q3.ext;have bG:=bG.mono u6_ok q3.ext;have aU:=aU.mono u6_ok q3.ext;have cx:=cx.mono u6_ok q3.ext;have cf:=cf.mono u6_ok q3.ext;have cA:=q2;generalize (C3 w g3 0 oM)=w at s aR aZ bK cy cA aW aO bG aU cx cf ⊢;clear q1 q2 q3;refine Be ?_;have tm:=tm.keep [1,2,3,4,5,6];show(A0 _ _).wp _ _ _ _;refine wsq rfl ?_;refine A6 4 10 rfl rfl ?_;refine Ai rfl fun K hK=>A82 tm A2i tz5 rfl rfl rfl (vs:=src74.map (Bo .u8)) (fun ev gu=>by simp[gu,src74]) (fun v hv=>by obtain⟨_,_,rfl⟩:=Cm.1 hv;rfl) rfl (by decide) (by decide) fun a tm=>hK _ _ ?_;refine Ai rfl fun K hK=>A9N tm A2i A79 rfl rfl rfl (vs:=src74.map (Bo .u8)) (w0:=w) rfl rfl fun a w2 tm hh h1 h2 h3=>hK _ _ ?_;obtain⟨m2,cs,kb⟩:=A9k (m:=m) (l:=src74) (by decide) hh h1 h2 h3 s.z;have s:=s.step kb (fun _ _ h=>h.elim) (fun _ _ h=>h.elim) 0 (fun h=>absurd rfl h);have bu:=(A5 (r:=0) aR.lt).trans bu;have bE:=(A5 (r:=0) aZ.lt).trans bE;have ci:=(A5 (r:=0) bK.lt).trans ci;have cF:=(A5 (r:=0) cy.lt).trans cF;have cQ:=(A5 (r:=0) cA.lt).trans cQ;have aR:=kb.bk aR (fun h=>h);have aZ:=kb.bk aZ (fun h=>h);have bK:=kb.bk bK (fun h=>h);have cy:=kb.bk cy (fun h=>h);have cA:=kb.bk cA (fun h=>h);have aW:=aW.mono u6_ok kb.ext;have aO:=aO.mono u6_ok kb.ext;have bG:=bG.mono u6_ok kb.ext;have aU:=aU.mono u6_ok kb.ext;have cx:=cx.mono u6_ok kb.ext;have cf:=cf.mono u6_ok kb.ext;generalize A7 ρ w.heap.size 0=ρ at s bu bE ci cF cQ;clear kb hh h1 h2 h3;refine Ai rfl fun K hK=>H6 tm rfl rfl rfl (B1d hb).enter rfl (S4 tm rfl rfl rfl) (R5 (B1d hb) (ls:=[.sl .u8 src74 none,.int .i64 9]) (by show M1 (some (okR _ (F17 src74 9),J4 _ _))=_;rw[zk];rfl) (gZ _ _ s.km.ext) s.z ⟨cs,.int _ _,trivial⟩ rfl) ?_;rintro e w3 ⟨v1,m3,rfl,kc,e1⟩;have s:=s.step kc (fun _ _ h=>h.elim) (fun _ _ h=>h.elim) 0 (fun h=>absurd rfl h);have bu:=(A5 (r:=0) aR.lt).trans bu;have bE:=(A5 (r:=0) aZ.lt).trans bE;have ci:=(A5 (r:=0) bK.lt).trans ci;have cF:=(A5 (r:=0) cy.lt).trans cF;have cQ:=(A5 (r:=0) cA.lt).trans cQ;have aR:=kc.bk aR (fun h=>h);have aZ:=kc.bk aZ (fun h=>h);have bK:=kc.bk bK (fun h=>h);have cy:=kc.bk cy (fun h=>h);have cA:=kc.bk cA (fun h=>h);have aW:=aW.mono u6_ok kc.ext;have aO:=aO.mono u6_ok kc.ext;have bG:=bG.mono u6_ok kc.ext;have aU:=aU.mono u6_ok kc.ext;have cx:=cx.mono u6_ok kc.ext;have cf:=cf.mono u6_ok kc.ext;obtain⟨dE,rfl,e1⟩:=e1;obtain⟨x1,x2,rfl,e2,e3⟩:∃ x1 x2,dE=[x1,x2]∧CRep U6 w3 m3 (.agg .tref (uU)) x1∧CRep U6 w3 m3 (.agg .fault zj) x2:=by
  match dE,e1 with
  |[x,y],⟨e2,e3,_⟩=>exact⟨x,y,rfl,e2,e3⟩
 generalize A7 ρ w2.heap.size 0=ρ at s bu bE ci cF cQ;obtain⟨oN,rfl,dF,k8⟩:=A0S e3;have k8:oN.length=3:=k8;obtain⟨pr,rfl,dG,js⟩:=A0S e2;have js:pr.length=2:=js;generalize w3=w at s dF dG aR aZ bK cy cA aW aO bG aU cx cf ⊢;generalize m3=m at s dF dG aW aO bG aU cx cf;refine⟨_,rfl,fun a tm=>hK _ _ ?_⟩;refine Pm tm fun a tm=>?_;refine Pv tm (O9 tm rfl rfl (vs:=[_,_])) fun a tm=>?_;refine Pv tm (O9 tm rfl rfl (vs:=[_,_])) fun a tm=>?_;refine Ai rfl fun K hK=>K8 tm A1b rfl rfl rfl fun a tm=>hK _ _ ?_;have ka:=G7 w m (.cells [.string ⟨[].toArray⟩,.string ⟨[].toArray⟩].toArray 51) s.z;have s:=s.stepM ka (fun _ _ h=>h.elim) 7;have bu:=(A5 (r:=7) aR.lt).trans bu;have bE:=(A5 (r:=7) aZ.lt).trans bE;have ci:=(A5 (r:=7) bK.lt).trans ci;have cF:=(A5 (r:=7) cy.lt).trans cF;have cQ:=(A5 (r:=7) cA.lt).trans cQ;have aR:=ka.bk aR (fun h=>h);have aZ:=ka.bk aZ (fun h=>h);have bK:=ka.bk bK (fun h=>h);have cy:=ka.bk cy (fun h=>h);have cA:=ka.bk cA (fun h=>h);have aW:=aW.mono u6_ok ka.ext;have aO:=aO.mono u6_ok ka.ext;have bG:=bG.mono u6_ok ka.ext;have aU:=aU.mono u6_ok ka.ext;have cx:=cx.mono u6_ok ka.ext;have cf:=cf.mono u6_ok ka.ext;have dF:=dF.mono u6_ok ka.ext;have dG:=dG.mono u6_ok ka.ext;have dX:Bk (w.alloc (.cells [.string ⟨[].toArray⟩,.string ⟨[].toArray⟩].toArray 51)) w.heap.size [.string ⟨[].toArray⟩,.string ⟨[].toArray⟩]:=K1;have eb:A7 ρ w.heap.size 7 w.heap.size=7:=H1 (Bd _);generalize w.heap.size=d4 at tm s dX eb bu bE ci cF cQ;generalize A7 ρ d4 7=ρ at s eb bu bE ci cF cQ;generalize (w.alloc (.cells [.string ⟨[].toArray⟩,.string ⟨[].toArray⟩].toArray 51))=w at tm s dX ka aR aZ bK cy cA aW aO bG aU cx cf dF dG ⊢;clear ka;refine Ai rfl fun K hK=>K8 tm O8 rfl rfl rfl fun a tm=>hK _ _ ?_;have ka:=G7 w m (.cells [.int .i64 0,.slice none 0 0,.slice none 0 0].toArray 31) s.z;have s:=s.stepM ka (fun _ _ h=>h.elim) 8;have bu:=(A5 (r:=8) aR.lt).trans bu;have bE:=(A5 (r:=8) aZ.lt).trans bE;have ci:=(A5 (r:=8) bK.lt).trans ci;have cF:=(A5 (r:=8) cy.lt).trans cF;have cQ:=(A5 (r:=8) cA.lt).trans cQ;have eb:=(A5 (r:=8) dX.lt).trans eb;have aR:=ka.bk aR (fun h=>h);have aZ:=ka.bk aZ (fun h=>h);have bK:=ka.bk bK (fun h=>h);have cy:=ka.bk cy (fun h=>h);have cA:=ka.bk cA (fun h=>h);have dX:=ka.bk dX (fun h=>h);have aW:=aW.mono u6_ok ka.ext;have aO:=aO.mono u6_ok ka.ext;have bG:=bG.mono u6_ok ka.ext;have aU:=aU.mono u6_ok ka.ext;have cx:=cx.mono u6_ok ka.ext;have cf:=cf.mono u6_ok ka.ext;have dF:=dF.mono u6_ok ka.ext;have dG:=dG.mono u6_ok ka.ext;have eG:Bk (w.alloc (.cells [.int .i64 0,.slice none 0 0,.slice none 0 0].toArray 31)) w.heap.size [.int .i64 0,.slice none 0 0,.slice none 0 0]:=K1;have eN:A7 ρ w.heap.size 8 w.heap.size=8:=H1 (Bd _);generalize w.heap.size=g4 at tm s eG eN bu bE ci cF cQ eb;generalize A7 ρ g4 8=ρ at s eN bu bE ci cF cQ eb;generalize (w.alloc (.cells [.int .i64 0,.slice none 0 0,.slice none 0 0].toArray 31))=w at tm s eG ka aR aZ bK cy cA dX aW aO bG aU cx cf dF dG ⊢;clear ka;obtain⟨q1,q2,q3⟩:=dX.store (m:=m) Ba (off:=0) (vs:=pr) (by rw[Bf,js];decide) (W0 (t:=.tref) dG) (s.zr d4 (by rw[eb];decide)) s.z;rw[V4 _ pr (by rw[js];rfl)]at q2;refine Ai rfl fun K hK=>G9 tm A1b rfl rfl rfl rfl (us:=pr) rfl js q1 (hK _ _ ?_);have s:=s.stay q3 (fun b _ hs=>by rw[hs,eb];decide);have aR:=q3.bk aR (fun e=>by rw[e,eb]at bu;cases bu);have aZ:=q3.bk aZ (fun e=>by rw[e,eb]at bE;cases bE);have bK:=q3.bk bK (fun e=>by rw[e,eb]at ci;cases ci);have cy:=q3.bk cy (fun e=>by rw[e,eb]at cF;cases cF);have cA:=q3.bk cA (fun e=>by rw[e,eb]at cQ;cases cQ);have eG:=q3.bk eG (fun e=>by rw[e,eb]at eN;cases eN);have aW:=aW.mono u6_ok q3.ext;have aO:=aO.mono u6_ok q3.ext;have bG:=bG.mono u6_ok q3.ext;have aU:=aU.mono u6_ok q3.ext;have cx:=cx.mono u6_ok q3.ext;have cf:=cf.mono u6_ok q3.ext;have dF:=dF.mono u6_ok q3.ext;have dG:=dG.mono u6_ok q3.ext;have dX:=q2;generalize (C3 w d4 0 pr)=w at s aR aZ bK cy cA dX eG aW aO bG aU cx cf dF dG ⊢;clear q1 q2 q3;obtain⟨q1,q2,q3⟩:=eG.store (m:=m) Ba (off:=0) (vs:=oN) (by rw[Bf,k8];decide) (W0 (t:=.fault) dF) (s.zr g4 (by rw[eN];decide)) s.z;rw[V4 _ oN (by rw[k8];rfl)]at q2;refine Ai rfl fun K hK=>G9 tm O8 rfl rfl rfl rfl (us:=oN) rfl k8 q1 (hK _ _ ?_);have s:=s.stay q3 (fun b _ hs=>by rw[hs,eN];decide);have aR:=q3.bk aR (fun e=>by rw[e,eN]at bu;cases bu);have aZ:=q3.bk aZ (fun e=>by rw[e,eN]at bE;cases bE);have bK:=q3.bk bK (fun e=>by rw[e,eN]at ci;cases ci);have cy:=q3.bk cy (fun e=>by rw[e,eN]at cF;cases cF);have cA:=q3.bk cA (fun e=>by rw[e,eN]at cQ;cases cQ);have dX:=q3.bk dX (fun e=>by rw[e,eN]at eb;cases eb);have aW:=aW.mono u6_ok q3.ext;have aO:=aO.mono u6_ok q3.ext;have bG:=bG.mono u6_ok q3.ext;have aU:=aU.mono u6_ok q3.ext;have cx:=cx.mono u6_ok q3.ext;have cf:=cf.mono u6_ok q3.ext;have dF:=dF.mono u6_ok q3.ext;have dG:=dG.mono u6_ok q3.ext;have eG:=q2;generalize (C3 w g4 0 oN)=w at s aR aZ bK cy cA dX eG aW aO bG aU cx cf dF dG ⊢;clear q1 q2 q3;refine Be ?_;have tm:=tm.keep [1,2,3,4,5,6,7,8];show(A0 _ _).wp _ _ _ _;refine wsq rfl ?_;obtain⟨p1,q1,uV⟩:∃ p q,oK=[.int .i64 0,p,q]:=by
  match oK,aW with
  |[x,y,z],⟨e1,_⟩=>exact⟨y,z,by rw[CRep.int_inv e1,dU]⟩
 subst uV;obtain⟨p2,q2,uW⟩:∃ p q,oL=[.int .i64 0,p,q]:=by
  match oL,bG with
  |[x,y,z],⟨e1,_⟩=>exact⟨y,z,by rw[CRep.int_inv e1,cI]⟩
 subst uW;obtain⟨p3,q3,uX⟩:∃ p q,oM=[.int .i64 0,p,q]:=by
  match oM,cx with
  |[x,y,z],⟨e1,_⟩=>exact⟨y,z,by rw[CRep.int_inv e1,zh]⟩
 subst uX;obtain⟨p4,q4,uY⟩:∃ p q,oN=[.int .i64 0,p,q]:=by
  match oN,dF with
  |[x,y,z],⟨e1,_⟩=>exact⟨y,z,by rw[CRep.int_inv e1,zl]⟩
 subst uY;refine A6 5 39 rfl rfl ?_;refine Pv tm (C1 tm A7j) fun a tm=>?_;refine Pv tm (D9 tm A84 rfl rfl (aZ.cell rfl)) fun a tm=>?_;refine Pv tm (N6 tm) fun a tm=>?_;refine Pm tm fun a tm=>?_;refine Pg tm 3 36 (C1 tm A7j) fun a tm=>?_;refine Pg tm 3 36 (D9 tm A84 rfl rfl (bK.cell rfl)) fun a tm=>?_;refine Pg tm 3 36 (N6 tm) fun a tm=>?_;refine Pv tm (Q2 tm) fun a tm=>?_;refine Pm tm fun a tm=>?_;refine Pg tm 8 41 (C1 tm A7j) fun a tm=>?_;refine Pg tm 8 41 (D9 tm A84 rfl rfl (cA.cell rfl)) fun a tm=>?_;refine Pg tm 8 41 (N6 tm) fun a tm=>?_;refine Pv tm (Q2 tm) fun a tm=>?_;refine Pm tm fun a tm=>?_;refine Pg tm 13 46 (C1 tm A7j) fun a tm=>?_;refine Pg tm 13 46 (D9 tm A84 rfl rfl (eG.cell rfl)) fun a tm=>?_;refine Pg tm 13 46 (N6 tm) fun a tm=>?_;refine Pv tm (Q2 tm) fun a tm=>?_;refine Pm tm fun a tm=>?_;refine Pg tm 18 51 (I9 tm C2t B30 rfl rfl (us:=po) jq (fun j u hj=>by rw[Bf j];exact aR.cell hj)) fun a tm=>?_;refine A3U tm (j:=18) (g:=51) rfl rfl rfl rfl fun K hK=>H6 tm rfl rfl rfl (A2K hb 9 rfl Ec).enter rfl (V7 tm rfl rfl) (R5 (A2K hb 9 rfl Ec) (ls:=[.agg .doc wT]) zd (gZ _ _ s.km.ext) s.z ⟨U5 aO,trivial⟩ rfl) ?_;rintro e w3 ⟨v1,m3,rfl,kc,e1⟩;have s:=s.step kc (fun _ _ h=>h.elim) (fun _ _ h=>h.elim) 0 (fun h=>absurd rfl h);have bu:=(A5 (r:=0) aR.lt).trans bu;have bE:=(A5 (r:=0) aZ.lt).trans bE;have ci:=(A5 (r:=0) bK.lt).trans ci;have cF:=(A5 (r:=0) cy.lt).trans cF;have cQ:=(A5 (r:=0) cA.lt).trans cQ;have eb:=(A5 (r:=0) dX.lt).trans eb;have eN:=(A5 (r:=0) eG.lt).trans eN;have aR:=kc.bk aR (fun h=>h);have aZ:=kc.bk aZ (fun h=>h);have bK:=kc.bk bK (fun h=>h);have cy:=kc.bk cy (fun h=>h);have cA:=kc.bk cA (fun h=>h);have dX:=kc.bk dX (fun h=>h);have eG:=kc.bk eG (fun h=>h);have aW:=aW.mono u6_ok kc.ext;have aO:=aO.mono u6_ok kc.ext;have bG:=bG.mono u6_ok kc.ext;have aU:=aU.mono u6_ok kc.ext;have cx:=cx.mono u6_ok kc.ext;have cf:=cf.mono u6_ok kc.ext;have dF:=dF.mono u6_ok kc.ext;have dG:=dG.mono u6_ok kc.ext;obtain rfl:=CRep.str_inv e1;generalize A7 ρ w.heap.size 0=ρ at s bu bE ci cF cQ eb eN;generalize w3=w at s aR aZ bK cy cA dX eG aW aO bG aU cx cf dF dG ⊢;generalize m3=m at s aW aO bG aU cx cf dF dG;refine⟨_,rfl,fun a tm=>hK _ _ ?_⟩;refine Pg tm 18 51 (T7 tm rfl (i:=A4Y) (j:=A4Y) rfl rfl) fun a tm=>?_;rw[show(A4Y==A4Y)=true by kernel_rfl]at tm;refine Pv tm (Q2 tm) fun a tm=>?_;refine Pm tm fun a tm=>?_;refine Pg tm 23 56 (Q9 tm) fun a tm=>?_;refine A3U tm (j:=23) (g:=56) rfl rfl rfl rfl fun K hK=>H6 tm rfl rfl rfl (A2K hb 12 rfl Eg).enter rfl (V7 tm rfl rfl) (R5 (A2K hb 12 rfl Eg) (ls:=[.sl .sys uS none]) pE (gZ _ _ s.km.ext) s.z ⟨aU,trivial⟩ rfl) ?_;rintro e w3 ⟨v1,m3,rfl,kc,e1⟩;have s:=s.step kc (fun _ _ h=>h.elim) (fun _ _ h=>h.elim) 0 (fun h=>absurd rfl h);have bu:=(A5 (r:=0) aR.lt).trans bu;have bE:=(A5 (r:=0) aZ.lt).trans bE;have ci:=(A5 (r:=0) bK.lt).trans ci;have cF:=(A5 (r:=0) cy.lt).trans cF;have cQ:=(A5 (r:=0) cA.lt).trans cQ;have eb:=(A5 (r:=0) dX.lt).trans eb;have eN:=(A5 (r:=0) eG.lt).trans eN;have aR:=kc.bk aR (fun h=>h);have aZ:=kc.bk aZ (fun h=>h);have bK:=kc.bk bK (fun h=>h);have cy:=kc.bk cy (fun h=>h);have cA:=kc.bk cA (fun h=>h);have dX:=kc.bk dX (fun h=>h);have eG:=kc.bk eG (fun h=>h);have aW:=aW.mono u6_ok kc.ext;have aO:=aO.mono u6_ok kc.ext;have bG:=bG.mono u6_ok kc.ext;have aU:=aU.mono u6_ok kc.ext;have cx:=cx.mono u6_ok kc.ext;have cf:=cf.mono u6_ok kc.ext;have dF:=dF.mono u6_ok kc.ext;have dG:=dG.mono u6_ok kc.ext;obtain rfl:=CRep.str_inv e1;generalize A7 ρ w.heap.size 0=ρ at s bu bE ci cF cQ eb eN;generalize w3=w at s aR aZ bK cy cA dX eG aW aO bG aU cx cf dF dG ⊢;generalize m3=m at s aW aO bG aU cx cf dF dG;refine⟨_,rfl,fun a tm=>hK _ _ ?_⟩;refine Pg tm 23 56 (T7 tm rfl (i:=A5j) (j:=A5j) rfl rfl) fun a tm=>?_;rw[show(A5j==A5j)=true by kernel_rfl]at tm;refine Pv tm (Q2 tm) fun a tm=>?_;refine Pm tm fun a tm=>?_;refine Pg tm 28 61 (I9 tm T4 D8 rfl rfl (us:=pp) jr (fun j u hj=>by rw[Bf j];exact cy.cell hj)) fun a tm=>?_;refine A3U tm (j:=28) (g:=61) rfl rfl rfl rfl fun K hK=>H6 tm rfl rfl rfl (B1H hb).enter rfl (V7 tm rfl rfl) (R5 (B1H hb) (ls:=[.agg .lit uT]) (by show M1 (some (okR _ (F15 uT),J4 _ _))=_;rw[zi];rfl) (gZ _ _ s.km.ext) s.z ⟨U5 cf,trivial⟩ rfl) ?_;rintro e w3 ⟨v1,m3,rfl,kc,e1⟩;have s:=s.step kc (fun _ _ h=>h.elim) (fun _ _ h=>h.elim) 0 (fun h=>absurd rfl h);have bu:=(A5 (r:=0) aR.lt).trans bu;have bE:=(A5 (r:=0) aZ.lt).trans bE;have ci:=(A5 (r:=0) bK.lt).trans ci;have cF:=(A5 (r:=0) cy.lt).trans cF;have cQ:=(A5 (r:=0) cA.lt).trans cQ;have eb:=(A5 (r:=0) dX.lt).trans eb;have eN:=(A5 (r:=0) eG.lt).trans eN;have aR:=kc.bk aR (fun h=>h);have aZ:=kc.bk aZ (fun h=>h);have bK:=kc.bk bK (fun h=>h);have cy:=kc.bk cy (fun h=>h);have cA:=kc.bk cA (fun h=>h);have dX:=kc.bk dX (fun h=>h);have eG:=kc.bk eG (fun h=>h);have aW:=aW.mono u6_ok kc.ext;have aO:=aO.mono u6_ok kc.ext;have bG:=bG.mono u6_ok kc.ext;have aU:=aU.mono u6_ok kc.ext;have cx:=cx.mono u6_ok kc.ext;have cf:=cf.mono u6_ok kc.ext;have dF:=dF.mono u6_ok kc.ext;have dG:=dG.mono u6_ok kc.ext;obtain rfl:=CRep.str_inv e1;generalize A7 ρ w.heap.size 0=ρ at s bu bE ci cF cQ eb eN;generalize w3=w at s aR aZ bK cy cA dX eG aW aO bG aU cx cf dF dG ⊢;generalize m3=m at s aW aO bG aU cx cf dF dG;refine⟨_,rfl,fun a tm=>hK _ _ ?_⟩;refine Pg tm 28 61 (T7 tm rfl (i:=A4D) (j:=A4D) rfl rfl) fun a tm=>?_;rw[show(A4D==A4D)=true by kernel_rfl]at tm;refine Pv tm (Q2 tm) fun a tm=>?_;refine Pm tm fun a tm=>?_;refine Pg tm 33 66 (I9 tm B0o A1b rfl rfl (us:=pr) js (fun j u hj=>by rw[Bf j];exact dX.cell hj)) fun a tm=>?_;refine A3U tm (j:=33) (g:=66) rfl rfl rfl rfl fun K hK=>H6 tm rfl rfl rfl (A7B hb).enter rfl (V7 tm rfl rfl) (R5 (A7B hb) (ls:=[.agg .tref uU]) (by show M1 (some (okR _ (F18 uU),J4 _ _))=_;rw[zn];rfl) (gZ _ _ s.km.ext) s.z ⟨U5 dG,trivial⟩ rfl) ?_;rintro e w3 ⟨v1,m3,rfl,kc,e1⟩;have s:=s.step kc (fun _ _ h=>h.elim) (fun _ _ h=>h.elim) 0 (fun h=>absurd rfl h);have bu:=(A5 (r:=0) aR.lt).trans bu;have bE:=(A5 (r:=0) aZ.lt).trans bE;have ci:=(A5 (r:=0) bK.lt).trans ci;have cF:=(A5 (r:=0) cy.lt).trans cF;have cQ:=(A5 (r:=0) cA.lt).trans cQ;have eb:=(A5 (r:=0) dX.lt).trans eb;have eN:=(A5 (r:=0) eG.lt).trans eN;have aR:=kc.bk aR (fun h=>h);have aZ:=kc.bk aZ (fun h=>h);have bK:=kc.bk bK (fun h=>h);have cy:=kc.bk cy (fun h=>h);have cA:=kc.bk cA (fun h=>h);have dX:=kc.bk dX (fun h=>h);have eG:=kc.bk eG (fun h=>h);have aW:=aW.mono u6_ok kc.ext;have aO:=aO.mono u6_ok kc.ext;have bG:=bG.mono u6_ok kc.ext;have aU:=aU.mono u6_ok kc.ext;have cx:=cx.mono u6_ok kc.ext;have cf:=cf.mono u6_ok kc.ext;have dF:=dF.mono u6_ok kc.ext;have dG:=dG.mono u6_ok kc.ext;obtain rfl:=CRep.str_inv e1;generalize A7 ρ w.heap.size 0=ρ at s bu bE ci cF cQ eb eN;generalize w3=w at s aR aZ bK cy cA dX eG aW aO bG aU cx cf dF dG ⊢;generalize m3=m at s aW aO bG aU cx cf dF dG;refine⟨_,rfl,fun a tm=>hK _ _ ?_⟩;refine Pg tm 33 66 (T7 tm rfl (i:=A4W) (j:=A4W) rfl rfl) fun a tm=>?_;rw[show(A4W==A4W)=true by kernel_rfl]at tm;refine Pv tm (Q2 tm) fun a tm=>?_;refine Pa tm fun a tm=>?_;refine Wn ?_;exact P5 rfl (hQ _ _ _ (tm.sub ⟨rfl,trivial⟩) s.km)
theorem C0e{I:Inv}(hb:HB I):Sound Ba U6 I 7 (sG S7):=by
 refine⟨Tryz.call7,fun ls r hr=>?_⟩;unfold sG at hr;unfold S7 at hr;split at hr
 ·obtain⟨h1,h2⟩:=A0A hr;intro w0 g vs hI hz aq _ _
  match vs,aq with
  |[],_=>
   refine Cr Tryz.func7 (show Tryz.f7.body=some (A0 Do [])by kernel_rfl) ?_;refine C0o hb hI hz (A5q (vs:=[]) (show 0≤71 by decide) fun i v h=>by cases h) fun a w m tm hk=>?_;refine⟨tm.dfr,.bool true,?_,_,{g with wm:=m},rfl,?_⟩
   ·have h0:=tm.get 0 _ rfl;exact A1q Ba Do a w [.tmp 0] (by kernel_rfl) (vs:=[.bool true]) (fun f hf=>by simp[hf.tmp,h0])
   ·rw[←h2];have cP:∀ d,(J4 [.bool] F7:E6).has d=true→False:=fun d hd=>by cases hd
    exact{os:=hk.os,tape:=hk.tape,output:=hk.output,size:=hk.size,frame:=fun b hb hn=>hk.heap b hb fun e=>e,ext:=hk.ext,zero:=hk.zero,rep:=⟨.bool _,fun _ _ _ e=>(by cases e),fun _ _ e=>(by cases e)⟩,nit:=rfl,tip:=fun d hd=>(cP d hd).elim,disj:=fun d _ _ hd=>(cP d hd).elim,mine:=fun d _ hd=>(cP d hd).elim}
 ·cases hr
end Go.Aev
namespace Go.Aev
open Go.Proofs
variable {I:Inv}
theorem B9C(hb:HB I):∀ d,H9 Ba U6 I 45 (sGB (A7O ((R45 d))))
 |0=>by
  exact⟨Ee,fun ls cs rs av h=>by
   unfold sGB A7O at h;split at h
   ·obtain⟨_,h⟩:=L8 h;cases h
   ·cases h⟩
 |d+1=>by
  have uZ:=B9C hb d;exact P1 (E45 ((R45 d))) hb rfl trivial ⟨(A80 hb),(A40 hb),uZ,(C7N hb),trivial⟩ Tryz.func45 rfl Ee (fun ls cs r h=>by
   unfold sGB A7O at h;split at h
   ·obtain⟨hc,h⟩:=L8 h;simp only[Bl,L5]at hc;obtain⟨⟨rfl,rfl⟩,rfl⟩:=hc;exact P0 (B2g NN ((R45 d))) rfl rfl h
   ·cases h)
theorem B17(hb:HB I):H9 Ba U6 I 45 (sGB S45):=(B9C hb DD)
theorem B2A(hb:HB I):Sound Ba U6 I 16 (sG S16):=F8 E16 hb rfl trivial ⟨(B17 hb),trivial⟩ Tryz.func16 rfl Tryz.call16 (fun ls r h=>by
 unfold sG S16 at h;split at h
 ·exact E2 B2C rfl h
 ·cases h)
end Go.Aev
namespace Go.Aev
open Go.Proofs
variable {I:Inv}
theorem C3N(hb:HB I):Sound Ba U6 I 5 (sG S5):=F8 E5 hb rfl ⟨(C0e hb),(B28 hb),(B1H hb),(B2A hb),(B1d hb),(A7B hb),(C2R hb),trivial⟩ trivial Tryz.func5 rfl Tryz.call5 (fun ls r h=>by
 unfold sG S5 at h;split at h
 ·exact E2 ev5 rfl h
 ·cases h)
end Go.Aev
namespace Go.Aev
def L9(c:CurT):List (List L6):=[[.sl .tok c.toks none,.int .i64 c.at_,.int .i64 c.nest,.int .i64 c.limit,.int .i64 c.kind]]
def isK(k:Int)(p:List UInt8)(c:CurT)(t:A1):Bool:=(c.kind==0)&&((t.kind==k)&&(t.text==p))
def CurT.stop(c:CurT)(k:Int):CurT:=bif c.kind==0 then{c with kind:=k}else c
def CurT.shut(c:CurT):CurT:=bif decide (c.nest>0)then{c with nest:=Bh .i64 (c.nest - 1)}else c
def CurT.opn(c:CurT):CurT:={c.next with nest:=Bh .i64 (c.nest+1)}
section
variable {c:CurT}{t:A1}{p:List UInt8}
theorem cu0(r:List L6)(c:CurT):G6 (gC (some (r,L9 c)) 0 0)=c.toks:=rfl
theorem cu1(r:List L6)(c:CurT):lI (gC (some (r,L9 c)) 0 1)=c.at_:=rfl
theorem cu2(r:List L6)(c:CurT):lI (gC (some (r,L9 c)) 0 2)=c.nest:=rfl
theorem cu3(r:List L6)(c:CurT):lI (gC (some (r,L9 c)) 0 3)=c.limit:=rfl
theorem cu4(r:List L6)(c:CurT):lI (gC (some (r,L9 c)) 0 4)=c.kind:=rfl
theorem ok0(c:CurT):okB [] [[.sl .tok none,.int .i64,.int .i64,.int .i64,.int .i64]] (some ([],L9 c))=true:=rfl
theorem ok1(b:Bool)(c:CurT):okB [.bool] [[.sl .tok none,.int .i64,.int .i64,.int .i64,.int .i64]] (some ([.bool b],L9 c))=true:=rfl
theorem okn(x:Q4)(b:Bool)(c:CurT):okB [.agg .named,.bool] [[.sl .tok none,.int .i64,.int .i64,.int .i64,.int .i64]] (some ([.agg .named x,.bool b],L9 c))=true:=rfl
theorem gb0(b:Bool)(r:List L6)(x:List (List L6)):lB (gB (some (.bool b::r,x)) 0)=b:=rfl
theorem gb1(l:L6)(b:Bool)(r:List L6)(x:List (List L6)):lB (gB (some (l::.bool b::r,x)) 1)=b:=rfl
theorem gn0(y:Q4)(r:List L6)(x:List (List L6)):M9 (gB (some (.agg .named y::r,x)) 0)=y:=rfl
theorem C4v(k:Int)(h:idx c.toks c.at_=some t):A5z k p c.toks c.at_ c.nest c.limit c.kind=some ([.bool (isK k p c t)],L9 c):=by
 simp only[A5z,gd,kC,kP,kO,h];unfold isK;cases c.kind==0<;>cases t.kind==k<;>cases t.text==p<;>rfl
theorem A42(k:Int)(c:CurT):A0T k c.toks c.at_ c.nest c.limit c.kind=some ([],L9 (c.stop k)):=by
 simp only[A0T,gd,kC,kP,kO];unfold CurT.stop;cases c.kind==0<;>rfl
theorem A72(h:idx c.toks c.at_=some t):F94 p c.toks c.at_ c.nest c.limit c.kind=some ([.bool (isK 2 p c t)],L9 c):=by
 simp only[F94,gd,kC,kP,kO,C4v 2 h];rfl
theorem B4O(h:idx c.toks c.at_=some t):A4F p c.toks c.at_ c.nest c.limit c.kind=some ([.bool (isK 2 p c t)],L9 (bif isK 2 p c t then c.next else c)):=by
 simp only[A4F,gd,kC,kP,kO,A72 h,cu0,cu1,cu2,cu3,cu4,ok1,gb0];cases isK 2 p c t<;>rfl
theorem B2c(h:idx c.toks c.at_=some t):F98 p c.toks c.at_ c.nest c.limit c.kind=some ([.bool (isK 2 p c t)],L9 (bif isK 2 p c t then c.next else c.stop 70)):=by
 simp only[F98,gd,kC,kP,kO,B4O h,cu0,cu1,cu2,cu3,cu4,ok1,gb0,cond_true];cases isK 2 p c t
 ·simp only[Bt,cond_true,cond_false,A42,ok0,cu0,cu1,cu2,cu3,cu4];rfl
 ·rfl
theorem B7K(h:idx c.toks c.at_=some t):F96 p c.toks c.at_ c.nest c.limit c.kind=some ([.bool (isK 2 p c t)],L9 (bif isK 2 p c t then c.next.shut else c.stop 70)):=by
 simp only[F96,gd,kC,kP,kO,B2c h,cu0,cu1,cu2,cu3,cu4,ok1,gb0,cond_true];cases isK 2 p c t
 ·rfl
 ·simp only[cond_true];unfold CurT.shut;show _=some (_,L9 (bif decide (c.next.nest>0)then _ else _));cases decide (c.next.nest>0)<;>rfl
theorem B8b(h:idx c.toks c.at_=some t):A4O p c.toks c.at_ c.nest c.limit c.kind=
  some ([.bool (isK 2 p c t&& !(c.nest==c.limit))],L9 (bif isK 2 p c t then bif c.nest==c.limit then c.stop 71 else c.opn else c.stop 70)):=by
 simp only[A4O,gd,kC,kP,kO,A72 h,cu0,cu1,cu2,cu3,cu4,ok1,gb0,cond_true];cases isK 2 p c t
 ·simp only[Bt,cond_true,cond_false,A42,ok0,cu0,cu1,cu2,cu3,cu4];rfl
 ·simp only[Br,cond_true,cond_false,Cb];cases c.nest==c.limit
  ·rfl
  ·simp only[cond_true,A42,ok0,cu0,cu1,cu2,cu3,cu4];rfl
def A1u(c:CurT)(t:A1):Bool:=(c.kind==0)&&(t.kind==3)
theorem C2e(c:CurT):A9f [] c.toks c.at_ c.nest c.limit c.kind=some ([.bool false],L9 c):=by
 simp only[A9f,B2q,B5g,gd,kC,kP,kO];rfl
theorem C5r(g:Bool)(h:idx c.toks c.at_=some t):A39 g c.toks c.at_ c.nest c.limit c.kind=some ([.agg .named (bif g then⟨t.text,t.pos⟩else⟨[],⟨0,0⟩⟩),.bool g],L9 (bif g then c.next else c.stop 70)):=by
 simp only[A39,gd,kC,kP,kO,h];cases g
 ·simp only[Bt,cond_true,cond_false,A42,ok0,cu0,cu1,cu2,cu3,cu4];rfl
 ·rfl
theorem B0W(h:idx c.toks c.at_=some t):F97 [] c.toks c.at_ c.nest c.limit c.kind=some ([.agg .named (bif A1u c t then⟨t.text,t.pos⟩else⟨[],⟨0,0⟩⟩),.bool (A1u c t)],L9 (bif A1u c t then c.next else c.stop 70)):=by
 simp only[F97,gd,kC,kP,kO,C2e,cu0,cu1,cu2,cu3,cu4,ok1,gb0,cond_true,h,C5r _ h,okn,gb1,gn0];unfold A1u;cases c.kind==0<;>cases t.kind==3<;>rfl
theorem C0s(h:idx c.toks c.at_=some t):F42 c.toks c.at_ c.nest c.limit c.kind=some ([.bool ((c.kind==0)&&(t.kind==0))],L9 (bif(c.kind==0)&&(t.kind==0)then c else c.stop 70)):=by
 simp only[F42,gd,kC,kP,kO,h,A42,ok0,cu0,cu1,cu2,cu3,cu4];cases c.kind==0<;>cases t.kind==0<;>rfl
theorem B86(h:idx c.toks c.at_=some t):F43 c.toks c.at_ c.nest c.limit c.kind=some ([.agg .fault (bif c.kind==0 then⟨0,[],[]⟩else⟨c.kind,[t.pos],[]⟩),.bool (!(c.kind==0))],L9 c):=by
 simp only[F43,gd,kC,kP,kO,h];cases c.kind==0<;>rfl
end
def sw{α:Type}(f:α→Nat):List α→Nat
 |[]=>0
 |x::r=>f x+sw f r
theorem A6s{α:Type}(f:α→Nat):∀(a b:List α),sw f (a++b)=sw f a+sw f b
 |[],b=>by simp[sw]
 |x::a,b=>by simp[sw,A6s f a b];omega
theorem B02{α:Type}(f:α→Nat):∀(l:List α),(∀ x∈l,1≤f x)→l.length≤sw f l
 |[],_=>by simp[sw]
 |x::l,h=>by
  have:=B02 f l (fun y hy=>h y (Cn _ hy));have:=h x Bz;simp[sw];omega
theorem A6z{α:Type}(f:α→Nat):∀(l:List α)(x:α),x∈l→f x≤sw f l
 |[],_,h=>by cases h
 |y::l,x,h=>by
  rcases Bp.1 h with rfl|h
  ·simp[sw]
  ·have:=A6z f l x h;simp[sw];omega
def A5N(t:A1):Prop:=t.text.length≤8400000∧t.value.length≤8400000∧(t.kind=7→(btF t.value).2=true)
structure TW(ts:List A1):Prop where
 ne:0<ts.length
 len:ts.length≤1100000
 ok:∀ t∈ts,A5N t
 lst:∀ i t,ts[i]?=some t→2≤t.kind→i+1<ts.length
structure CurOk(c:CurT):Prop where
 tw:TW c.toks
 at0:0≤c.at_
 at1:c.at_<(c.toks.length:Int)
 n0:0≤c.nest
 n1:c.nest≤c.limit
 n2:c.limit≤200
section
variable {c:CurT}
theorem CurOk.tok(h:CurOk c):∃ t,idx c.toks c.at_=some t∧c.toks[c.at_.toNat]?=some t∧A5N t:=by
 have h1:=h.at0;have h2:=h.at1;have hl:c.at_.toNat<c.toks.length:=by omega
 refine⟨c.toks[c.at_.toNat],?_,Bn hl,h.tw.ok _ (Cs hl)⟩;unfold idx;rw[decide_eq_true h1];exact Bn hl
theorem CurOk.next(h:CurOk c){t:A1}(ht:c.toks[c.at_.toNat]?=some t)(hk:2≤t.kind):CurOk c.next∧c.next.at_=c.at_+1:=by
 have h1:=h.at0;have h2:=h.at1;have h3:=h.tw.lst _ _ ht hk;have h4:=h.tw.len;have hw:Bh .i64 (c.at_+1)=c.at_+1:=N3 (by omega) (by omega);have ha:c.next.at_=c.at_+1:=hw;exact⟨⟨h.tw,by rw[ha];omega,by rw[ha];show c.at_+1<(c.toks.length:Int);omega,h.n0,h.n1,h.n2⟩,ha⟩
theorem CurOk.stop(h:CurOk c)(k:Int):CurOk (c.stop k)∧(c.stop k).at_=c.at_:=by
 unfold CurT.stop;cases c.kind==0 with
 |false=>exact⟨h,rfl⟩
 |true=>exact⟨⟨h.tw,h.at0,h.at1,h.n0,h.n1,h.n2⟩,rfl⟩
theorem A1n{k:Int}(hk:k≠0):(c.stop k).kind≠0:=by
 unfold CurT.stop;cases h:c.kind==0 with
 |false=>intro h2;rw[cond_false]at h2;rw[h2]at h;cases h
 |true=>exact hk
theorem CurOk.shut(h:CurOk c):CurOk c.shut∧c.shut.at_=c.at_∧c.shut.kind=c.kind∧c.shut.toks=c.toks∧(0<c.nest→c.shut.nest=c.nest - 1):=by
 unfold CurT.shut;have h1:=h.n0;have h2:=h.n1;have h3:=h.n2;by_cases hn:c.nest>0
 ·have hw:Bh .i64 (c.nest - 1)=c.nest - 1:=N3 (by omega) (by omega);rw[decide_eq_true hn,cond_true,hw];exact⟨⟨h.tw,h.at0,h.at1,by show 0≤c.nest - 1;omega,by show c.nest - 1≤c.limit;omega,h.n2⟩,rfl,rfl,rfl,fun _=>rfl⟩
 ·rw[decide_eq_false hn,cond_false];exact⟨h,rfl,rfl,rfl,fun h=>absurd h hn⟩
theorem CurOk.opn(h:CurOk c){t:A1}(ht:c.toks[c.at_.toNat]?=some t)(hk:2≤t.kind)(hn:(c.nest==c.limit)=false):CurOk c.opn∧c.opn.at_=c.at_+1∧c.opn.nest=c.nest+1:=by
 obtain⟨h1,h2⟩:=h.next ht hk;have h3:=h.n0;have h4:=h.n1;have h5:=h.n2;have az:c.nest≠c.limit:=by simpa using hn
 have hw:Bh .i64 (c.nest+1)=c.nest+1:=N3 (by omega) (by omega);have ho:c.opn.nest=c.nest+1:=hw;exact⟨⟨h1.tw,h1.at0,h1.at1,by rw[ho];omega,by rw[ho];show c.nest+1≤c.limit;omega,h.n2⟩,h2,ho⟩
end
def O0:Nat→LitT→Prop
 |0,_=>False
 |d+1,v=>1≤v.kind∧v.kind≤9∧v.text.length≤8400000∧(v.kind=4→v.block=true→(btF v.text).2=true)∧(∀ x∈v.items,O0 d x)∧∀ f∈v.fields,f.name.length≤8400000∧O0 d f.value
def wt:Nat→LitT→Nat
 |0,_=>0
 |d+1,v=>1+sw (wt d) v.items+sw (fun(f:LfT)=>1+wt d f.value) v.fields
theorem C9k{d:Nat}(h:0<d)(v:LitT):1≤wt d v:=by
 cases d with
 |zero=>omega
 |succ d=>simp only[wt];omega
def ChOk(d:Nat)(v:LitT):Prop:=(v.kind=8∨v.kind=9)∧v.text.length≤8400000∧(∀ x∈v.items,O0 d x)∧∀ f∈v.fields,f.name.length≤8400000∧O0 d f.value
def A4C(d:Nat)(v:LitT):Prop:=bif v.kind==9 then v.text.length≤8400000∧(∀ x∈v.items,O0 d x)∧∃ fs n p,v.fields=fs++[(n,F9,p)]∧n.length≤8400000∧∀ f:LfT,f∈fs→f.name.length≤8400000∧O0 d f.value else ChOk d v
def OpP:List LitT→Prop
 |[]=>True
 |v::r=>r.length<200∧A4C (200 - r.length) v∧OpP r
def OpA:List LitT→Prop
 |[]=>True
 |v::r=>r.length<200∧ChOk (200 - r.length) v∧OpP r
def OpW:List LitT→Nat
 |[]=>0
 |v::r=>(1+sw (wt (200 - r.length)) v.items+sw (fun(f:LfT)=>1+wt (200 - r.length) f.value) v.fields)+OpW r
theorem ChOk.good{d:Nat}{v:LitT}(h:ChOk d v):O0 (d+1) v:=by
 obtain⟨h1,h2,h3,h4⟩:=h;refine⟨by omega,by omega,h2,fun h5=>by omega,h3,h4⟩
def Leafy(v:LitT):Prop:=v.items=[]∧v.fields=[]∧1≤v.kind∧v.kind≤7∧v.text.length≤8400000∧(v.kind=4→v.block=true→(btF v.text).2=true)
theorem Leafy.good{v:LitT}(h:Leafy v)(d:Nat):O0 (d+1) v:=by
 obtain⟨h1,h2,h3,h4,h5,h6⟩:=h;exact⟨h3,by omega,h5,h6,fun x hx=>(by rw[h1]at hx;cases hx),fun f hf=>(by rw[h2]at hf;cases hf)⟩
theorem Leafy.wt{v:LitT}(h:Leafy v)(d:Nat):wt (d+1) v=1:=by
 obtain⟨h1,h2,_⟩:=h;simp only[Go.Aev.wt,h1,h2,sw]
theorem A36{k:Int}{text:List UInt8}{b:Bool}{p:C2}(h1:1≤k)(h2:k≤7)(h3:text.length≤8400000)(h4:k=4→b=true→(btF text).2=true):Leafy (.mk k text b [] [] p):=⟨rfl,rfl,h1,h2,h3,h4⟩
theorem C1g{t:A1}{v:LitT}(ht:A5N t)(h:W7 t=some v):Leafy v∧2≤t.kind:=by
 obtain⟨t1,t2,t3⟩:=ht;unfold W7 at h;cases h4:t.kind==4 with
 |true=>
  rw[h4,cond_true]at h;cases h;exact⟨A36 (by decide) (by decide) (t1) (fun h=>by cases h),by have:=(beq_iff_eq).1 h4;omega⟩
 |false=>
 rw[h4,cond_false]at h;cases h5:t.kind==5 with
 |true=>
  rw[h5,cond_true]at h;cases h;exact⟨A36 (by decide) (by decide) (t1) (fun h=>by cases h),by have:=(beq_iff_eq).1 h5;omega⟩
 |false=>
 rw[h5,cond_false]at h;cases h6:(t.kind==6)||(t.kind==7)with
 |true=>
  rw[h6,cond_true]at h;cases h;refine⟨A36 (by decide) (by decide) t2 (fun _ h=>t3 ((beq_iff_eq).1 h)),?_⟩;rw[Dc]at h6;rcases h6 with h6|h6<;>(have:=(beq_iff_eq).1 h6;omega)
 |false=>
 rw[h6,cond_false]at h;cases h7:(t.kind==3)&&((t.text==[116,114,117,101])||(t.text==[102,97,108,115,101]))with
 |true=>
  rw[h7,cond_true]at h;cases h;refine⟨A36 (by decide) (by decide) (t1) (fun h=>by cases h),?_⟩;have:=(beq_iff_eq).1 ((Bl _ _).mp h7).1;omega
 |false=>
 rw[h7,cond_false]at h;cases h8:(t.kind==3)&&(t.text==[110,117,108,108])with
 |true=>
  rw[h8,cond_true]at h;cases h;refine⟨A36 (by decide) (by decide) (by decide) (fun h=>by cases h),?_⟩;have:=(beq_iff_eq).1 ((Bl _ _).mp h8).1;omega
 |false=>
 rw[h8,cond_false]at h;cases h9:t.kind==3 with
 |true=>
  rw[h9,cond_true]at h;cases h;exact⟨A36 (by decide) (by decide) (t1) (fun h=>by cases h),by have:=(beq_iff_eq).1 h9;omega⟩
 |false=>rw[h9,cond_false]at h;cases h
theorem A0H(r:List L6)(c:CurT):J9 (some (r,L9 c))=c:=rfl
structure Aft(c c3:CurT):Prop where
 ok:CurOk c3
 toks:c3.toks=c.toks
 le:c.at_≤c3.at_
theorem Aft.refl{c:CurT}(h:CurOk c):Aft c c:=⟨h,rfl,Db _⟩
theorem Aft.trans{a b c:CurT}(h:Aft a b)(k:Aft b c):Aft a c:=⟨k.ok,k.toks.trans h.toks,Int.le_trans h.le k.le⟩
theorem Aft.stop{c:CurT}(h:CurOk c)(k:Int):Aft c (c.stop k):=⟨(h.stop k).1,by unfold CurT.stop;cases c.kind==0<;>rfl,by rw[(h.stop k).2];exact Db _⟩
theorem Aft.next{c:CurT}(h:CurOk c){t:A1}(ht:c.toks[c.at_.toNat]?=some t)(hk:2≤t.kind):Aft c c.next:=⟨(h.next ht hk).1,rfl,by rw[(h.next ht hk).2];omega⟩
theorem B1q{c:CurT}(h:CurOk c):∃ v c3,A09 false c=some (v,c3)∧Aft c c3∧
  (c3.kind=0→c.kind=0∧c.at_<c3.at_∧((∃ k p,(k=8∨k=9)∧v=.mk k [] false [] [] p∧c3.nest=c.nest+1∧c.nest<200)∨(Leafy v∧c3.nest=c.nest))):=by
 obtain⟨t,ht,hg,tok⟩:=h.tok;unfold A09;rw[decide_eq_true h.at0,cond_true,hg];dsimp only;cases hk:c.kind==0 with
 |false=>
  rw[Bt,cond_true];exact⟨_,_,rfl,Aft.refl h,fun e=>by rw[e]at hk;cases hk⟩
 |true=>
 rw[Br,cond_false];have eB:c.kind=0:=(beq_iff_eq).1 hk;cases hs:W7 t with
 |some v=>
  obtain⟨lf,h2⟩:=C1g tok hs;obtain⟨n1,n2⟩:=h.next hg h2;exact⟨_,_,rfl,Aft.next h hg h2,fun _=>⟨eB,by rw[n2];omega,.inr ⟨lf,rfl⟩⟩⟩
 |none=>
 dsimp only;cases hv:A0g t false with
 |true=>
  rw[cond_true];have h2:t.kind=2:=by
   unfold A0g at hv;simp only[Bl]at hv;exact(beq_iff_eq).1 hv.1.1
  obtain⟨n1,n2⟩:=h.next hg (by omega);obtain⟨t',im,lh,mr⟩:=n1.tok;have zp:f97 c.next=_:=B0W im;rw[zp,show okB [.agg .named,.bool] G1 _=true from okn _ _ _,cond_true,gn0,A0H];have a1:=Aft.next h hg (t:=t) (by omega);cases hn:A1u c.next t' with
  |false=>
   rw[cond_false];exact⟨_,_,rfl,a1.trans (Aft.stop n1 70),fun e=>absurd e (A1n (by decide))⟩
  |true=>
   have h3:t'.kind=3:=by
    unfold A1u at hn;exact(beq_iff_eq).1 ((Bl _ _).mp hn).2
   have a2:=Aft.next n1 lh (t:=t') (by omega);refine⟨_,_,rfl,a1.trans a2,fun e=>⟨eB,by have:=a2.le;rw[n2]at this;show c.at_<c.next.next.at_;omega,.inr ⟨A36 (by decide) (by decide) ?_ (fun h=>by cases h),rfl⟩⟩⟩;exact mr.1
 |false=>
 rw[cond_false];cases hb:X2 t with
 |true=>
  rw[cond_true];have h2:t.kind=2:=by
   unfold X2 at hb;exact(beq_iff_eq).1 ((Bl _ _).mp hb).1
  have u6:f103 t.text c=_:=B8b (p:=t.text) ht;have hi:isK 2 t.text c t=true:=by unfold isK;rw[hk,h2];simp
  rw[u6,show okB [.bool] G1 _=true from ok1 _ _,cond_true,A0H,hi,cond_true];cases hl:c.nest==c.limit with
  |true=>
   rw[cond_true];exact⟨_,_,rfl,Aft.stop h 71,fun e=>absurd e (A1n (by decide))⟩
  |false=>
   rw[cond_false];obtain⟨o1,o2,o3⟩:=h.opn hg (by omega) hl;refine⟨_,_,rfl,⟨o1,rfl,by rw[o2];omega⟩,fun _=>⟨eB,by rw[o2];omega,.inl ⟨_,t.pos,?_,rfl,o3,?_⟩⟩⟩
   ·cases t.text==[123]<;>simp
   ·have:=h.n1;have:=h.n2;have az:c.nest≠c.limit:=by simpa using hl
    omega
 |false=>
  rw[cond_false];have u7:f100 70 c=_:=A42 70 c;rw[u7,show okB [] G1 _=true from ok0 _,cond_true,A0H];exact⟨_,_,rfl,Aft.stop h 70,fun e=>absurd e (A1n (by decide))⟩
def W(d:Nat)(v:LitT):Nat:=1+sw (wt d) v.items+sw (fun(f:LfT)=>1+wt d f.value) v.fields
theorem C6r(d:Nat)(v:LitT):wt (d+1) v=W d v:=rfl
theorem B5T{d:Nat}(hd:0<d)(v:LitT):v.items.length≤W d v:=by
 have:=B02 (wt d) v.items (fun x _=>C9k hd x);unfold W;omega
theorem B32{d:Nat}(v:LitT):v.fields.length≤W d v:=by
 have:=B02 (fun(f:LfT)=>1+wt d f.value) v.fields (fun x _=>by omega);unfold W;omega
theorem C83{d:Nat}{v:LitT}(h:ChOk d v)(h8:v.kind=8):A4C d v:=by
 unfold A4C;rw[h8];exact h
theorem B0u{d:Nat}(hd:0<d){top v:LitT}(hp:A4C d top)(hv:O0 d v)(hw:W d top≤549755813888):∃ t',A6G top v=some t'∧ChOk d t'∧W d t'≤W d top+wt d v:=by
 unfold A6G;unfold A4C at hp;cases hk:top.kind==9 with
 |true=>
  rw[hk,cond_true]at hp;rw[cond_true];obtain⟨h1,h2,fs,n,p,hf,hn,lq⟩:=hp;have hl:top.fields.getLast? =some (n,F9,p):=by rw[hf];simp
  have dm:top.fields.dropLast=fs:=by rw[hf];simp
  have au:=B32 (d:=d) top;have cq:O2 top.fields.dropLast.length=true:=by
   unfold O2;rw[Dh,dm];have:top.fields.length=fs.length+1:=by rw[hf];simp
   omega
  rw[hl];dsimp only;rw[cq,cond_true,dm];refine⟨_,rfl,⟨.inr ((beq_iff_eq).1 hk),h1,h2,fun f hm=>?_⟩,?_⟩
  ·have gT:f∈fs++[(n,v,p)]:=hm;rcases Cy.1 gT with gT|gT
   ·exact lq f gT
   ·have:f=(n,v,p):=by simpa using gT
    subst this;exact⟨hn,hv⟩
  ·show 1+sw (wt d) top.items+sw (fun(f:LfT)=>1+wt d f.value) (fs++[(n,v,p)])≤W d top+wt d v;unfold W;rw[hf,A6s,A6s];simp only[sw];show _+(_+(1+wt d v+0))≤_;omega
 |false=>
  rw[hk,cond_false]at hp;rw[cond_false];obtain⟨h1,h2,h3,h4⟩:=hp;have au:=B5T hd top;have cq:O2 top.items.length=true:=by
   unfold O2;rw[Dh];omega
  rw[cq,cond_true];refine⟨_,rfl,⟨h1,h2,fun x hm=>?_,h4⟩,?_⟩
  ·have gT:x∈top.items++[v]:=hm;rcases Cy.1 gT with gT|gT
   ·exact h3 x gT
   ·have:x=v:=by simpa using gT
    subst this;exact hv
  ·show 1+sw (wt d) (top.items++[v])+sw (fun(f:LfT)=>1+wt d f.value) top.fields≤W d top+wt d v;unfold W;rw[A6s];simp only[sw];omega
structure Jn(c:CurT)(op:List LitT):Prop where
 nest:c.nest=(op.length:Int)
 ok:OpA op
 w:(OpW op:Int)≤c.at_
structure Jp(c:CurT)(op:List LitT):Prop where
 nest:c.nest=(op.length:Int)
 ok:OpP op
 w:(OpW op:Int)≤c.at_
def B2E(c:CurT):(A6M ⊕ (CurT×List LitT))→Prop
 | .inl (v,ok,c')=>Aft c c'∧(c'.kind=0→ok=true∧O0 201 v∧(wt 201 v:Int)≤c'.at_)
 | .inr (c',eF)=>Aft c c'∧(c'.kind=0→Jn c' eF∧c.at_<c'.at_)
theorem A4P(v:LitT)(r:List LitT):OpW (v::r)=W (200 - r.length) v+OpW r:=rfl
theorem B5N{c:CurT}(h:CurOk c){c3:CurT}(ha:Aft c c3){v:LitT}{am:List LitT}(hj:c3.kind=0→O0 (201 - am.length) v∧am.length≤200∧c3.nest=(am.length:Int)∧OpP am∧((OpW am+wt (201 - am.length) v:Nat):Int)≤c3.at_∧c.at_<c3.at_):
  ∃ r,A38 v c3 am=some r∧B2E c r:=by
 unfold A38;cases hk:c3.kind==0 with
 |false=>
  rw[Bt,cond_true];exact⟨_,rfl,ha,fun e=>by rw[e]at hk;cases hk⟩
 |true=>
  rw[Br,cond_false];obtain⟨h1,h2,h3,h4,h5,h6⟩:=hj ((beq_iff_eq).1 hk);cases am with
  |nil=>exact⟨_,rfl,ha,fun _=>⟨rfl,h1,by simpa [OpW]using h5⟩⟩
  |cons top r2=>
   obtain⟨p1,p2,p3⟩:=h4;have hd:201 - (top::r2).length=200 - r2.length:=by rw[Bj];omega
   rw[hd]at h1 h5;have uz:=ha.ok.at1;have au:=ha.ok.tw.len;rw[A4P]at h5;obtain⟨t',e1,e2,e3⟩:=B0u (d:=200 - r2.length) (by omega) p2 h1 (by omega);dsimp only;rw[e1];refine⟨_,rfl,ha,fun _=>⟨⟨by simpa using h3,⟨p1,e2,p3⟩,?_⟩,h6⟩⟩;rw[A4P];omega
theorem B9q(k:Int):okR [.str] (F95 k)=true:=by
 simp only[F95,gd,kC,kP,kO];cases k==8<;>rfl
theorem C98{c:CurT}(h:CurOk c){op:List LitT}(hj:c.kind=0→Jn c op):∃ r,A4z false c op=some r∧B2E c r:=by
 unfold A4z;cases hk:c.kind==0 with
 |false=>
  rw[Bt,cond_true];exact⟨_,rfl,Aft.refl h,fun e=>by rw[e]at hk;cases hk⟩
 |true=>
 rw[Br,cond_false];have eB:c.kind=0:=(beq_iff_eq).1 hk;obtain⟨j1,j2,j3⟩:=hj eB;have at0:=h.at0;have at1:=h.at1;have au:=h.tw.len;have k9:∀(c2:CurT)(eE:List LitT),Aft c c2→(c2.kind=0→Jp c2 eE)→eE.length≤200→∃ r,(match A09 false c2 with
    |none=>none
    |some (v,c3)=>
     bif(v.kind==8)||(v.kind==9)then
      bif O2 eE.length then some (Sum.inr (c3,v::eE))else none
     else A38 v c3 eE)=some r∧B2E c r:=fun c2 eE ha hp hl=>by
  obtain⟨v,c3,e1,a3,e2⟩:=B1q ha.ok;rw[e1];dsimp only;have a:=ha.trans a3;cases hb:(v.kind==8)||(v.kind==9)with
  |true=>
   have cq:O2 eE.length=true:=by unfold O2;rw[Dh];omega
   rw[cond_true,cq,cond_true];refine⟨_,rfl,a,fun h0=>?_⟩;obtain⟨k0,k1,k2⟩:=e2 h0;obtain⟨q1,q2,q3⟩:=hp k0;have aQ:=ha.le;rcases k2 with⟨k,p,ve,rfl,k3,k4⟩|⟨lf,_⟩
   ·have eY:eE.length<200:=by omega
    refine⟨⟨by rw[k3,q1];simp,⟨eY,⟨ve,by simp[LitT.text],fun x hx=>(by cases hx),fun f hf=>(by cases hf)⟩,q2⟩,?_⟩,by omega⟩;rw[A4P];show((1+0+0+OpW eE:Nat):Int)≤_;omega
   ·obtain⟨_,_,l3,l4,_⟩:=lf;rw[Dc]at hb;rcases hb with hb|hb<;>(have:=(beq_iff_eq).1 hb;omega)
  |false=>
   rw[cond_false];refine B5N h a fun h0=>?_;obtain⟨k0,k1,k2⟩:=e2 h0;obtain⟨q1,q2,q3⟩:=hp k0;have aQ:=ha.le;rcases k2 with⟨k,p,ve,rfl,k3,k4⟩|⟨lf,k3⟩
   ·rcases ve with rfl|rfl<;>cases hb
   ·have hd:201 - eE.length=(200 - eE.length)+1:=by omega
    rw[hd];exact⟨lf.good _,hl,by rw[k3,q1],q2,by rw[lf.wt];omega,by omega⟩
 cases op with
 |nil=>
  simp only[A6U,A5k,cond_false];exact k9 c [] (Aft.refl h) (fun _=>⟨j1,trivial,j3⟩) (by simp)
 |cons top am=>
  obtain⟨o1,o2,o3⟩:=j2;obtain⟨t,ht,hg,tok⟩:=h.tok;simp only[A6U,A8m,B9q,cond_true];rw[show f94 (lS (gL (F95 top.kind) 0)) c=_ from A72 ht,show okB [.bool] G1 _=true from ok1 _ _,cond_true,gb0,A0H];dsimp only;cases hs:isK 2 (lS (gL (F95 top.kind) 0)) c t with
  |true=>
   rw[cond_true];have h2:t.kind=2:=by
    unfold isK at hs;simp only[Bl]at hs;exact(beq_iff_eq).1 hs.2.1
   have a1:=Aft.next h hg (t:=t) (by omega);obtain⟨n1,n2⟩:=h.next hg (by omega);obtain⟨s1,s2,s3,s4,s5⟩:=n1.shut;simp only[A8b,B9q,cond_true];rw[show f96 (lS (gL (F95 top.kind) 0)) c=_ from B7K ht,show okB [.bool] G1 _=true from ok1 _ _,cond_true,A0H,hs,cond_true];dsimp only;have a2:Aft c c.next.shut:=⟨s1,s4,by rw[s2];exact a1.le⟩;refine B5N h a2 fun _=>?_;have hn:c.next.nest=c.nest:=rfl;rw[A4P]at j3;have hd:201 - am.length=(200 - am.length)+1:=by omega
   rw[hd,C6r];refine⟨o2.good,by omega,?_,o3,by rw[s2,n2];omega,by rw[s2,n2];omega⟩;have jE:c.next.nest=((am.length+1:Nat):Int):=by rw[hn,j1];rfl
   rw[s5 (by omega),jE];omega
  |false=>
   rw[cond_false];have eY:(top::am).length≤200:=by simp;omega
   simp only[A5k,A43];cases h9:top.kind==9 with
   |false=>
    rw[cond_false];dsimp only;refine k9 c (top::am) (Aft.refl h) (fun _=>⟨j1,⟨o1,?_,o3⟩,j3⟩) eY;rcases o2.1 with h8|h8
    ·exact C83 o2 h8
    ·rw[h8]at h9;cases h9
   |true=>
    rw[cond_true,show f97 c=_ from B0W ht,show okB [.agg .named,.bool] G1 _=true from okn _ _ _,cond_true,gn0,A0H];have hW:=B32 (d:=200 - am.length) top;rw[A4P]at j3;have cq:O2 top.fields.length=true:=by unfold O2;rw[Dh];omega
    cases hn:A1u c t with
    |false=>
     rw[cond_false,cond_false];obtain⟨ry,zq⟩:=h.stop 70;obtain⟨t',im,lh,mr⟩:=ry.tok;have dU:(c.stop 70).kind≠0:=A1n (by decide);have hi:isK 2 [58] (c.stop 70) t'=false:=by
      unfold isK;have:((c.stop 70).kind==0)=false:=by simpa using dU
      rw[this];rfl
     rw[show f98 [58] (c.stop 70)=_ from B2c im,show okB [.bool] G1 _=true from ok1 _ _,cond_true,cq,cond_true,A0H,hi,cond_false];dsimp only;exact k9 _ _ ((Aft.stop h 70).trans (Aft.stop ry 70)) (fun e=>absurd e (A1n (by decide))) (by simpa using eY)
    |true=>
     rw[cond_true,cond_true];have h3:t.kind=3:=by
      unfold A1u at hn;exact(beq_iff_eq).1 ((Bl _ _).mp hn).2
     obtain⟨n1,n2⟩:=h.next hg (by omega);have a1:=Aft.next h hg (t:=t) (by omega);obtain⟨t',im,lh,mr⟩:=n1.tok;rw[show f98 [58] c.next=_ from B2c im,show okB [.bool] G1 _=true from ok1 _ _,cond_true,cq,cond_true,A0H];dsimp only;cases hi:isK 2 [58] c.next t' with
     |false=>
      rw[cond_false];exact k9 _ _ (a1.trans (Aft.stop n1 70)) (fun e=>absurd e (A1n (by decide))) (by simpa using eY)
     |true=>
      rw[cond_true];have h2:t'.kind=2:=by
       unfold isK at hi;simp only[Bl]at hi;exact(beq_iff_eq).1 hi.2.1
      obtain⟨m1,m2⟩:=n1.next lh (by omega);refine k9 _ _ (a1.trans (Aft.next n1 lh (by omega))) (fun _=>⟨?_,⟨o1,?_,o3⟩,?_⟩) (by simpa using eY)
      ·show c.nest=_;rw[j1];simp
      ·unfold A4C;show bif top.kind==9 then _ else _
       rw[h9,cond_true];exact⟨o2.2.1,o2.2.2.1,top.fields,t.text,t.pos,rfl,tok.1,o2.2.2.2⟩
      ·rw[A4P,m2,n2];show(((1+sw (wt (200 - am.length)) top.items+sw (fun(f:LfT)=>1+wt (200 - am.length) f.value) (top.fields++[(t.text,F9,t.pos)]))+OpW am:Nat):Int)≤_;rw[A6s];simp only[sw];show(((1+_+(_+(1+wt (200 - am.length) F9+0)))+OpW am:Nat):Int)≤_;obtain⟨d,hd⟩:∃ d,200 - am.length=d+1:=⟨200 - am.length - 1,by omega⟩;have zt:wt (200 - am.length) F9=1:=by rw[hd];rfl
       rw[zt];unfold W at j3;omega
theorem B6q:∀(n:Nat)(c:CurT)(op:List LitT),CurOk c→(c.kind=0→Jn c op)→2*((c.toks.length:Int) - c.at_)+(if c.kind=0 then 1 else 0)<n→∃ v ok c',A1X false n c op=some (v,ok,c')∧Aft c c'∧(c'.kind=0→ok=true∧O0 201 v∧(wt 201 v:Int)≤c'.at_)
 |0,c,op,h,_,hn=>by have:=h.at1;omega
 |n+1,c,op,h,hj,hn=>by
  obtain⟨r,e1,e2⟩:=C98 h hj;unfold A1X;rw[e1]
  match r,e2 with
  | .inl (v,ok,c'),⟨a,b⟩=>exact⟨v,ok,c',rfl,a,b⟩
  | .inr (c',eF),⟨a,b⟩=>
   have aQ:=a.le;have hm:2*((c'.toks.length:Int) - c'.at_)+(if c'.kind=0 then 1 else 0)<n:=by
    rw[a.toks];by_cases h0:c'.kind=0
    ·have:=(b h0).2;rw[if_pos h0];split at hn<;>omega
    ·rw[if_neg h0];by_cases hc:c.kind=0
     ·rw[if_pos hc]at hn;omega
     ·
      exfalso;unfold A4z at e1;have:(c.kind==0)=false:=by simpa using hc
      rw[this]at e1;cases e1
   obtain⟨v,ok,c2,e3,e4,e5⟩:=B6q n c' eF a.ok (fun h0=>(b h0).1) hm;exact⟨v,ok,c2,e3,a.trans e4,e5⟩
theorem B8u{c:CurT}(h:CurOk c):∃ fm f,A4X c=some (fm,f)∧(fm=false→c.kind=0)∧(fm=true→f.kind≠0):=by
 obtain⟨t,ht,hg,tok⟩:=h.tok;unfold A4X;rw[show f42 c=_ from C0s ht,show okB [.bool] G1 _=true from ok1 _ _,cond_true,A0H];cases hb:(c.kind==0)&&(t.kind==0)with
 |true=>
  rw[cond_true,show f43 c=_ from B86 ht];have hk:c.kind=0:=(beq_iff_eq).1 ((Bl _ _).mp hb).1;refine⟨_,_,rfl,fun _=>hk,fun h=>?_⟩;rw[gb1,hk]at h;cases h
 |false=>
  rw[cond_false];obtain⟨s1,s2⟩:=h.stop 70;obtain⟨t',im,lh,mr⟩:=s1.tok;have hk:(c.stop 70).kind≠0:=A1n (by decide);have ga:((c.stop 70).kind==0)=false:=by simpa using hk
  rw[show f43 (c.stop 70)=_ from B86 im,ga];refine⟨_,_,rfl,fun h=>?_,fun _=>hk⟩;rw[gb1]at h;cases h
theorem B7a{ts:List A1}(h:TW ts)(d:Int):CurOk (L7 ts d)∧(L7 ts d).kind=0∧(L7 ts d).nest=0∧(L7 ts d).at_=0∧(L7 ts d).toks=ts:=by
 have hl:0≤(L7 ts d).limit∧(L7 ts d).limit≤200:=by
  show 0≤(if 200<(if 0>d then 0 else d)then 200 else(if 0>d then 0 else d))∧(if 200<(if 0>d then 0 else d)then 200 else(if 0>d then 0 else d))≤200;by_cases h1:0>d
  ·simp[h1]
  ·by_cases h2:200<d
   ·simp[h1,h2]
   ·simp[h1,h2];omega
 exact⟨⟨h,Db _,by show(0:Int)<_;have:=h.ne;show(0:Int)<(ts.length:Int);omega,Db _,hl.1,hl.2⟩,rfl,rfl,rfl,rfl⟩
theorem C8L{a0:List Int}{ts:List A1}(hF:F24 a0=some (.one (.sl .tok ts (some 1))))(tw:TW ts)(a1:Int):
  ∃ v f,F14 a0 false a1=some (.tup [.agg .lit v,.agg .fault f])∧(f.kind=0→O0 201 v∧wt 201 v≤1100000):=by
 obtain⟨n1,n2,n3,n4,n5⟩:=B7a tw a1;have hl:=tw.len;obtain⟨v,ok,c',e1,e2,e3⟩:=B6q NN (L7 ts a1) [] n1 (fun _=>⟨n3,trivial,by rw[n4];exact Db _⟩) (by
  rw[n4,n5,n2,if_pos rfl];have:NN=18446744073709551616:=rfl;omega)
 obtain⟨fm,f,f1,f2,f3⟩:=B8u e2.ok;have zu:f41 false (L7 ts a1)=some ([.agg .lit v,.bool ok],L9 c'):=by
  unfold f41 F41;rw[show A1X false NN ⟨(L7 ts a1).toks,(L7 ts a1).at_,(L7 ts a1).nest,(L7 ts a1).limit,(L7 ts a1).kind⟩ []=_ from e1];rfl
 unfold F14;rw[hF,show okR [.sl .tok (some 1)] (some (.one (.sl .tok ts (some 1))))=true from rfl,cond_true,show G6 (gL (some (.one (.sl .tok ts (some 1)))) 0)=ts from rfl,zu,show okB [.agg .lit,.bool] G1 (some ([.agg .lit v,.bool ok],L9 c'))=true from rfl,cond_true,A0H,f1];cases fm with
 |true=>exact⟨F9,f,rfl,fun h=>absurd h (f3 rfl)⟩
 |false=>
  obtain⟨g1,g2,g3⟩:=e3 (f2 rfl);refine⟨v,A7p,rfl,fun _=>⟨g2,?_⟩⟩;have h1:=e2.ok.at1;rw[e2.toks.trans n5]at h1;omega
section
variable {R:Type}{P:Option R→Prop}
theorem B8X{nn:Nat}{b0:List A1}{b1 b2 b3 b4:Int}{k1:(List A1)→Int→Int→Int→Int→Option R}{k3:Int→Bool→(List A1)→Int→Int→Int→Int→Option R}
  (h1:∀ c,CurOk c→c.kind≠0→P (k1 c.toks c.at_ c.nest c.limit c.kind))(h3:∀ c,CurOk c→P (k3 c.nest false c.toks c.at_ c.nest c.limit c.kind)):
  ∀(n:Nat)(c:CurT)(x:Int),x=c.nest→CurOk c→200 - c.nest<n→P (A4Z nn b0 b1 b2 b3 b4 n x c.toks c.at_ c.nest c.limit c.kind k1 k3)
 |0,c,x,_,h,hn=>by have:=h.n1;have:=h.n2;omega
 |n+1,c,x,hx,h,hn=>by
  subst hx;obtain⟨t,ht,hg,tok⟩:=h.tok;unfold A4Z;simp only[F46,A6L,A8E,A8T,gd,kC,kP,kO,A72 ht,ok1,cond_true,gb0,cu0,cu1,cu2,cu3,cu4];cases hi:isK 2 [91] c t with
  |false=>
   simp only[cond_false];exact h3 c h
  |true=>
   have h2:t.kind=2:=by
    unfold isK at hi;simp only[Bl]at hi;exact(beq_iff_eq).1 hi.2.1
   simp only[cond_true,B8b ht,ok1,gb0,cu0,cu1,cu2,cu3,cu4,hi,Cb];cases hl:c.nest==c.limit with
   |true=>
    simp only[cond_true,Br,Bt];exact h1 _ (h.stop 71).1 (A1n (by decide))
   |false=>
    simp only[cond_false,Br,Bt];obtain⟨o1,o2,o3⟩:=h.opn hg (by omega) hl;exact B8X h1 h3 n c.opn _ rfl o1 (by rw[o3];omega)
theorem B6y{nn:Nat}{b0:List A1}{b1 b2 b3 b4:Int}{k1:Bool→(List UInt8)→(List UInt8)→(List A1)→Int→Int→Int→Int→Option R}{nm:List UInt8}
  (h0:∀ c,CurOk c→c.kind≠0→P (k1 false [] [] c.toks c.at_ c.nest c.limit c.kind))
  (h1:∀ c w,CurOk c→w.length≤1000→P (k1 true nm w c.toks c.at_ c.nest c.limit c.kind)):
  ∀(n:Nat)(c:CurT)(w:List UInt8)(m:Nat),CurOk c→c.nest=(m:Int)→w.length+2*m≤600→m<n→P (A24 nn b0 b1 b2 b3 b4 n (m:Int) nm w c.toks c.at_ c.nest c.limit c.kind k1)
 |0,c,w,m,h,_,_,hn=>by omega
 |n+1,c,w,m,h,hm,hw,hn=>by
  obtain⟨t,ht,hg,tok⟩:=h.tok;unfold A24;simp only[F46,A6L,A8E,A8T,gd,kC,kP,kO,B4O ht,ok1,cond_true,gb0,cu0,cu1,cu2,cu3,cu4];have rz:∀(c2:CurT)(w2:List UInt8),CurOk c2→c2.nest=(m:Int)→w2.length+2*m≤601→P (bif(m:Int)==0 then k1 true nm w2 c2.toks c2.at_ c2.nest c2.limit c2.kind else
    bif okB [.bool] [[.sl .tok none,.int .i64,.int .i64,.int .i64,.int .i64]] (F96 [93] c2.toks c2.at_ c2.nest c2.limit c2.kind)then
     (bif !(lB (gB (F96 [93] c2.toks c2.at_ c2.nest c2.limit c2.kind) 0))then k1 false [] [] (G6 (gC (F96 [93] c2.toks c2.at_ c2.nest c2.limit c2.kind) 0 0)) (lI (gC (F96 [93] c2.toks c2.at_ c2.nest c2.limit c2.kind) 0 1)) (lI (gC (F96 [93] c2.toks c2.at_ c2.nest c2.limit c2.kind) 0 2)) (lI (gC (F96 [93] c2.toks c2.at_ c2.nest c2.limit c2.kind) 0 3)) (lI (gC (F96 [93] c2.toks c2.at_ c2.nest c2.limit c2.kind) 0 4))
     else bif decide (Ca w2+Ca ([93]:List UInt8)≤9223372036854775807)then
      A24 nn b0 b1 b2 b3 b4 n (Bh .i64 ((m:Int) - 1)) nm (w2++[93]) (G6 (gC (F96 [93] c2.toks c2.at_ c2.nest c2.limit c2.kind) 0 0)) (lI (gC (F96 [93] c2.toks c2.at_ c2.nest c2.limit c2.kind) 0 1)) (lI (gC (F96 [93] c2.toks c2.at_ c2.nest c2.limit c2.kind) 0 2)) (lI (gC (F96 [93] c2.toks c2.at_ c2.nest c2.limit c2.kind) 0 3)) (lI (gC (F96 [93] c2.toks c2.at_ c2.nest c2.limit c2.kind) 0 4)) k1
     else none)
    else none):=fun c2 w2 hc eH mw=>by
   cases lb:(m:Int)==0 with
   |true=>
    rw[cond_true];exact h1 c2 w2 hc (by omega)
   |false=>
    have py:(m:Int)≠0:=by simpa using lb
    obtain⟨t2,pE,ij,zv⟩:=hc.tok;simp only[B7K pE,ok1,cond_true,cond_false,gb0,cu0,cu1,cu2,cu3,cu4];cases hi:isK 2 [93] c2 t2 with
    |false=>
     simp only[Bt,cond_true,cond_false];exact h0 _ (hc.stop 70).1 (A1n (by decide))
    |true=>
     have h2:t2.kind=2:=by
      unfold isK at hi;simp only[Bl]at hi;exact(beq_iff_eq).1 hi.2.1
     obtain⟨n1,n2⟩:=hc.next ij (by omega);obtain⟨s1,s2,s3,s4,s5⟩:=n1.shut;have lG:c2.next.nest=(m:Int):=eH;have hs:=s5 (by omega);have zw:Bh .i64 ((m:Int) - 1)=((m - 1:Nat):Int):=by rw[N3 (by omega) (by omega)];omega
     have hd:decide (Ca w2+Ca ([93]:List UInt8)≤9223372036854775807)=true:=by
      apply decide_eq_true;simp;omega
     simp only[Br,cond_true,cond_false,hd,zw];exact B6y h0 h1 n c2.next.shut (w2++[93]) (m - 1) s1 (by rw[hs,lG];omega) (by simp;omega) (by omega)
  cases hi:isK 2 [33] c t with
  |false=>
   simp only[cond_false];exact rz c w h hm (by omega)
  |true=>
   have h2:t.kind=2:=by
    unfold isK at hi;simp only[Bl]at hi;exact(beq_iff_eq).1 hi.2.1
   obtain⟨n1,n2⟩:=h.next hg (by omega);have aQ:Ca w+Ca ([33]:List Nat)≤9223372036854775807:=by
    simp;omega
   simp only[cond_true,aQ,decide_true];exact rz c.next (w++[33]) n1 hm (by simp;omega)
theorem C1N{c:CurT}(h:CurOk c)(hn:c.nest=0):∃ nm w b c',F46 c.toks c.at_ c.nest c.limit c.kind=some ([.agg .tref ⟨nm,w⟩,.bool b],L9 c')∧CurOk c'∧(c'.kind=0→nm.length≤8400000∧w.length≤1000):=by
 let P:Option (List L6×List (List L6))→Prop:=fun o=>∃ nm w b c',o=some ([.agg .tref ⟨nm,w⟩,.bool b],L9 c')∧CurOk c'∧(c'.kind=0→nm.length≤8400000∧w.length≤1000)
 show P (F46 c.toks c.at_ c.nest c.limit c.kind);have la:NN=18446744073709551616:=rfl;simp only[F46,A6L,A8E,A8T,gd,kC,kP,kO];refine B8X (P:=P) ?_ ?_ NN c 0 hn.symm h (by rw[hn,la];decide)
 ·intro c1 k1 k2;exact⟨[],[],false,c1,rfl,k1,fun e=>absurd e k2⟩
 ·intro c1 k1;obtain⟨t,ht,hg,tok⟩:=k1.tok;simp only[B0W ht,okn,cond_true,gn0,gb1,cu0,cu1,cu2,cu3,cu4];cases hi:A1u c1 t with
  |false=>
   simp only[cond_false,Bt,cond_true];exact⟨[],[],false,c1.stop 70,rfl,(k1.stop 70).1,fun e=>absurd e (A1n (by decide))⟩
  |true=>
   have h3:t.kind=3:=by
    unfold A1u at hi;exact(beq_iff_eq).1 ((Bl _ _).mp hi).2
   obtain⟨n1,n2⟩:=k1.next hg (by omega);simp only[cond_true,Br,cond_false];have lb:=k1.n0;have wU:=k1.n1;have eH:=k1.n2;obtain⟨m,hm⟩:∃ m:Nat,c1.nest=(m:Int):=⟨c1.nest.toNat,by omega⟩;rw[hm];refine B6y (P:=P) ?_ ?_ NN c1.next [] m n1 hm (by simp;omega) (by omega)
   ·intro c2 q1 q2;exact⟨[],[],false,c2,rfl,q1,fun e=>absurd e q2⟩
   ·intro c2 w q1 q2;exact⟨t.text,w,true,c2,rfl,q1,fun _=>⟨tok.1,q2⟩⟩
end
theorem C6j{a0:List Int}{ts:List A1}(hF:F24 a0=some (.one (.sl .tok ts (some 1))))(tw:TW ts)(a1:Int):
  ∃ r f,F17 a0 a1=some (.tup [.agg .tref r,.agg .fault f])∧(f.kind=0→r.name.length≤8400000∧r.wrap.length≤1000):=by
 obtain⟨n1,n2,n3,n4,n5⟩:=B7a tw a1;obtain⟨nm,w,b,c',e1,e2,e3⟩:=C1N n1 n3;obtain⟨fm,f,f1,f2,f3⟩:=B8u e2;unfold F17;rw[hF,show okR [.sl .tok (some 1)] (some (.one (.sl .tok ts (some 1))))=true from rfl,cond_true,show G6 (gL (some (.one (.sl .tok ts (some 1)))) 0)=ts from rfl,show f46 (L7 ts a1)=_ from e1,show okB [.agg .tref,.bool] G1 (some ([.agg .tref ⟨nm,w⟩,.bool b],L9 c'))=true from rfl,cond_true,A0H,f1];cases fm with
 |true=>exact⟨B5n,f,rfl,fun h=>absurd h (f3 rfl)⟩
 |false=>exact⟨⟨nm,w⟩,A7p,rfl,fun _=>e3 (f2 rfl)⟩
def bI(s:List UInt8):List Int:=s.map fun(c:UInt8)=>(c.toNat:Int)
theorem A0E(a b:List UInt8):bI (a++b)=bI a++bI b:=Ep
theorem L4(a:List UInt8):(bI a).length=a.length:=Dv ..
theorem B3o(s:List UInt8):toB (bI s)=s:=by
 unfold toB bI;rw[List.map_map];have:((fun(n:Int)=>UInt8.ofNat n.toNat)∘fun(c:UInt8)=>(c.toNat:Int))=id:=by
  funext c
  simp
 rw[this,List.map_id]
def MB:Nat:=140737488355328
theorem B1E{n:Nat}(h:n≤MB):A3 n 1=true:=by
 unfold A3 MB at*;simp;exact h
def Z8(l:List Int):List (List L6):=[[.ptr 900000 C6,.sl .u8 l (some 92000001)]]
def A0y(l:List Int):List (List L6):=[[.sl .u8 l (some 92000000)]]
theorem o44(l:List Int):okB [] [[.ptr 900000 C6,.sl .u8 (some 92000001)]] (some ([],Z8 l))=true:=rfl
theorem R1(r:List L6)(l:List Int):E1 (gC (some (r,Z8 l)) 0 1)=l:=rfl
theorem o45(l:List Int):okB [] [[.sl .u8 (some 92000000)]] (some ([],A0y l))=true:=rfl
theorem P4(r:List L6)(l:List Int):E1 (gC (some (r,A0y l)) 0 0)=l:=rfl
theorem o62(k:Int)(l:List Int):okB [.int .i64,.any] [[.ptr 900000 C6,.sl .u8 (some 92000001)]] (some ([.int .i64 k,.any],Z8 l))=true:=rfl
theorem C9B(b:List Int):A27 b=some ([],Z8 b):=rfl
theorem R3{a:List UInt8}{b:List Int}(h:b.length+a.length≤MB):F32 a b=some ([],A0y (b++bI a)):=by
 simp only[F32,gd,kC,kP,kO,B1E h,cond_true];rfl
theorem C6W{a:List UInt8}{b:List Int}(h:b.length+a.length≤MB):F62 a b=some ([.int .i64 (a.length:Int),.any],Z8 (b++bI a)):=by
 simp only[F62,gd,kC,kP,kO,C9B,o44,R1,B1E h,cond_true];rfl
theorem L3{α:Type}(l:List α)(i:Nat):idx l (i:Int)=l[i]? :=by
 unfold idx;simp
theorem U9{i:Nat}(h:i≤4611686018427387904):Bh .i64 ((i:Int)+1)=((i+1:Nat):Int):=by
 rw[N3 (by omega) (by omega)];omega
theorem B9F{R:Type}{nn:Nat}{a1:List (List UInt8)}{b0:List Int}{k2:Int→Int→Bool→(List Int)→Option R}(hs:a1.length≤1000):∀(n i:Nat)(buf:List Int),i≤a1.length→a1.length<n+i→buf.length+(a1.drop i).flatten.length≤MB→
  A5y nn a1 b0 n (a1.length:Int) (i:Int) buf k2=k2 (a1.length:Int) (a1.length:Int) false (buf++bI (a1.drop i).flatten)
 |0,i,buf,h1,h2,h3=>by omega
 |n+1,i,buf,h1,h2,h3=>by
  unfold A5y;by_cases hi:i<a1.length
  ·have hg:a1[i]?=some a1[i]:=Bn hi;have hd:a1.drop i=a1[i]::a1.drop (i+1):=Cp hi;rw[hd]at h3 ⊢;rw[Er,Bb]at h3;have aB:decide ((i:Int)<(a1.length:Int))=true:=decide_eq_true (by omega);simp only[F27,A6T,A9B,gd,kC,kP,kO,aB,cond_true,L3,hg,C6W (a:=a1[i]) (b:=buf) (by omega),o62,R1,U9 (i:=i) (by omega)];rw[B9F hs n (i+1) (buf++bI a1[i]) (by omega) (by omega) (by rw[Bb,L4];omega),Er,A0E,Bu]
  ·have bR:i=a1.length:=by omega
   subst bR;have aB:decide ((a1.length:Int)<(a1.length:Int))=false:=decide_eq_false (by omega);simp only[F27,A6T,A9B,gd,kC,kP,kO,aB,cond_false];rw[Co];simp[bI]
theorem A0j{a:List (List UInt8)}{b:List Int}(hs:a.length≤1000)(h:b.length+a.flatten.length≤MB):F27 a b=some ([],Z8 (b++bI a.flatten)):=by
 have la:NN=18446744073709551616:=rfl;have cS:=B9F (nn:=NN) (b0:=b) (k2:=fun(x7:Int)(x8:Int)(x9:Bool)(x:List Int)=>some (([]:List L6),[[(.ptr 900000 C6:L6),.sl .u8 x (some 92000001)]])) hs NN 0 b (by omega) (by rw[la];omega) (by simpa using h);simp only[F27,A6T,A9B,gd,kC,kP,kO];exact cS
theorem B6X{i:Nat}{b:List Int}(h:b.length+2≤MB):A41 (i:Int) b=some ([],Z8 (b++bI (if i=0 then []else [44,32]))):=by
 simp only[A41,gd,kC,kP,kO,A0j (a:=[[44,32]]) (b:=b) (by decide) (by simpa using h),o44,R1,cond_true];by_cases hi:i=0
 ·subst hi;simp[bI];rfl
 ·have:decide ((i:Int)>0)=true:=decide_eq_true (by omega);rw[this,if_neg hi];rfl
theorem B5q{i:Nat}{s:List UInt8}{b:List Int}(h:b.length+s.length≤MB):F30 (i:Int) s b=some ([],A0y (b++bI (if i=0 then []else s))):=by
 simp only[F30,gd,kC,kP,kO,R3 (a:=s) (b:=b) h,o45,P4,cond_true];by_cases hi:i=0
 ·subst hi;simp[bI];rfl
 ·have:decide ((i:Int)>0)=true:=decide_eq_true (by omega);rw[this,if_neg hi];rfl
def qq(block:Bool)(text:List UInt8):List UInt8:=bif block then(btF text).1 else(qtF text).1
theorem C3j{t:List UInt8}(h:smS t=true):A2D t=some (.tup [.str (btF t).1,.bool (btF t).2]):=by unfold A2D;rw[h];rfl
theorem C1v{t:List UInt8}(h:smS t=true):A2h t=some (.tup [.str (qtF t).1,.int .i64 (qtF t).2]):=by unfold A2h;rw[h];rfl
theorem D0C{t:List UInt8}(h:smS t=true):A1E t=some (.tup [.str (btF t).1,.bool (btF t).2]):=by unfold A1E;rw[h];rfl
theorem C8k{t:List UInt8}(h:smS t=true):A1a t=some (.tup [.str (qtF t).1,.int .i64 (qtF t).2]):=by unfold A1a;rw[h];rfl
theorem oS(s:List UInt8)(b:Bool):okR [.str,.bool] (some (.tup [.str s,.bool b]))=true:=rfl
theorem oSi(s:List UInt8)(b:Int):okR [.str,.int .i64] (some (.tup [.str s,.int .i64 b]))=true:=rfl
theorem gS(s:List UInt8)(r:List L6):lS (gL (some (.tup (.str s::r))) 0)=s:=rfl
theorem gS1(s:List UInt8):lS (gL (some (.one (.str s))) 0)=s:=rfl
theorem gSb(l:L6)(b:Bool)(r:List L6):lB (gL (some (.tup (l::.bool b::r))) 1)=b:=rfl
theorem oS1(s:List UInt8):okR [.str] (some (.one (.str s)))=true:=rfl
theorem C5Z{t:List UInt8}(h:smS t=true)(bl:Bool):F86 bl t=some (.one (.str (qq bl t))):=by
 simp only[F86,gd,kC,kP,kO,C3j h,C1v h,oS,oSi,gS,cond_true];cases bl<;>rfl
theorem C8R{t:List UInt8}{b:List Int}(h:smS t=true)(bl:Bool)(hb:bl=true→(btF t).2=true)(hl:b.length+(qq bl t).length≤MB):A44 bl t b=some ([],A0y (b++bI (qq bl t))):=by
 simp only[A44,gd,kC,kP,kO,D0C h,C8k h,oS,oSi,gS,gSb,cond_true];cases bl with
 |true=>
  have h1:qq true t=(btF t).1:=rfl;rw[h1]at hl ⊢;rw[hb rfl];simp only[cond_true,R3 hl,o45,P4];rfl
 |false=>
  have h1:qq false t=(qtF t).1:=rfl;rw[h1]at hl ⊢;simp only[cond_false,R3 hl,o45,P4,cond_true];rfl
def jn:Nat→List (List UInt8)→List UInt8
 |_,[]=>[]
 |i,x::r=>(if i=0 then []else [44,32])++x++jn (i+1) r
section
variable {R:Type}{p:LitT→List UInt8}
theorem B5x{nn:Nat}{g:LitT→(List Int)→Option (List L6×List (List L6))}{a1:LitT}{b0:List Int}{k2:(List LitT)→Int→Int→Bool→(List Int)→Option R}{xs:List LitT}(hs:xs.length≤4611686018427387904)
  (hg:∀ x∈xs,∀ b:List Int,b.length+(p x).length+4≤MB→g x b=some ([],Z8 (b++bI (p x)))):∀(n i:Nat)(buf:List Int),i≤xs.length→xs.length<n+i→buf.length+(jn i ((xs.drop i).map p)).length+4≤MB→
  A21 nn g a1 b0 n xs (xs.length:Int) (i:Int) buf k2=k2 xs (xs.length:Int) (xs.length:Int) false (buf++bI (jn i ((xs.drop i).map p)))
 |0,i,buf,h1,h2,h3=>by omega
 |n+1,i,buf,h1,h2,h3=>by
  unfold A21;by_cases hi:i<xs.length
  ·have fg:xs[i]?=some xs[i]:=Bn hi;have hd:xs.drop i=xs[i]::xs.drop (i+1):=Cp hi;have cD:xs[i]∈xs:=Cs hi;generalize xs[i]=y at*;rw[hd]at h3 ⊢;simp only[Cz,jn,Bb]at h3 ⊢;have aB:decide ((i:Int)<(xs.length:Int))=true:=decide_eq_true (by omega);have hc:(bI (if i=0 then []else [44,32])).length≤2:=by rw[L4];split<;>simp
   have cC:(bI (if i=0 then []else [44,32])).length=(if i=0 then []else([44,32]:List UInt8)).length:=L4 _;have e:LitT.mk y.kind y.text y.block y.items y.fields ⟨y.pos.line,y.pos.col⟩=y:=LitT.eta y;simp only[F44,A3F,A30,A4q,A5d,gd,kC,kP,kO,aB,cond_true,L3,fg,B6X (i:=i) (b:=buf) (by omega),o44,R1,U9 (i:=i) (by omega),e];rw[hg y cD _ (by rw[Bb];omega)];simp only[o44,R1,cond_true];rw[B5x hs hg n (i+1) _ (by omega) (by omega) (by simp only[Bb,L4]at*;omega)];simp only[A0E,Bu]
  ·have bR:i=xs.length:=by omega
   subst bR;have aB:decide ((xs.length:Int)<(xs.length:Int))=false:=decide_eq_false (by omega);simp only[F44,A3F,A30,A4q,A5d,gd,kC,kP,kO,aB,cond_false];rw[Co];simp[bI,jn]
theorem B7G{nn:Nat}{g:LitT→(List Int)→Option (List L6×List (List L6))}{a1:LitT}{b0:List Int}{k2:Int→Bool→(List Int)→Option R}(hs:a1.items.length≤4611686018427387904)
  (hg:∀ x∈a1.items,∀ b:List Int,b.length+(p x).length+4≤MB→g x b=some ([],A0y (b++bI (p x)))):∀(n i:Nat)(buf:List Int),i≤a1.items.length→a1.items.length<n+i→buf.length+(jn i ((a1.items.drop i).map p)).length+4≤MB→
  A33 nn g a1 b0 n (i:Int) buf k2=k2 (a1.items.length:Int) false (buf++bI (jn i ((a1.items.drop i).map p)))
 |0,i,buf,h1,h2,h3=>by omega
 |n+1,i,buf,h1,h2,h3=>by
  unfold A33;by_cases hi:i<a1.items.length
  ·have fg:a1.items[i]?=some a1.items[i]:=Bn hi;have hd:a1.items.drop i=a1.items[i]::a1.items.drop (i+1):=Cp hi;have cD:a1.items[i]∈a1.items:=Cs hi;generalize a1.items[i]=y at*;rw[hd]at h3 ⊢;simp only[Cz,jn,Bb]at h3 ⊢;have aB:decide ((i:Int)<(a1.items.length:Int))=true:=decide_eq_true (by omega);have cC:(bI (if i=0 then []else [44,32])).length=(if i=0 then []else([44,32]:List UInt8)).length:=L4 _;have hc:(if i=0 then []else([44,32]:List UInt8)).length≤2:=by split<;>simp
   have e:LitT.mk y.kind y.text y.block y.items y.fields ⟨y.pos.line,y.pos.col⟩=y:=LitT.eta y;simp only[F45,A3l,A3T,A5A,A4r,gd,kC,kP,kO,aB,cond_true,L3,fg,B5q (i:=i) (s:=[44,32]) (b:=buf) (by show buf.length+2≤MB;omega),o45,P4,U9 (i:=i) (by omega),e];rw[hg y cD _ (by rw[Bb];omega)];simp only[o45,P4,cond_true];rw[B7G hs hg n (i+1) _ (by omega) (by omega) (by simp only[Bb,L4]at*;omega)];simp only[A0E,Bu]
  ·have bR:i=a1.items.length:=by omega
   have aB:decide ((i:Int)<(a1.items.length:Int))=false:=decide_eq_false (by omega);simp only[F45,A3l,A3T,A5A,A4r,gd,kC,kP,kO,aB,cond_false];rw[bR,Co];simp[bI,jn]
def fp(p:LitT→List UInt8)(f:LfT):List UInt8:=f.name++[58,32]++p f.value
theorem B4B{nn:Nat}{g:LitT→(List Int)→Option (List L6×List (List L6))}{a1:LitT}{b0:List Int}{k2:(List LfT)→Int→Int→Bool→(List Int)→Option R}{xs:List LfT}(hs:xs.length≤4611686018427387904)
  (hg:∀ x∈xs,∀ b:List Int,b.length+(p x.value).length+4≤MB→g x.value b=some ([],Z8 (b++bI (p x.value)))):∀(n i:Nat)(buf:List Int),i≤xs.length→xs.length<n+i→buf.length+(jn i ((xs.drop i).map (fp p))).length+4≤MB→
  A3O nn g a1 b0 n xs (xs.length:Int) (i:Int) buf k2=k2 xs (xs.length:Int) (xs.length:Int) false (buf++bI (jn i ((xs.drop i).map (fp p))))
 |0,i,buf,h1,h2,h3=>by omega
 |n+1,i,buf,h1,h2,h3=>by
  unfold A3O;by_cases hi:i<xs.length
  ·have fg:xs[i]?=some xs[i]:=Bn hi;have hd:xs.drop i=xs[i]::xs.drop (i+1):=Cp hi;have cD:xs[i]∈xs:=Cs hi;generalize xs[i]=y at*;rw[hd]at h3 ⊢;simp only[Cz,jn,Bb,fp]at h3 ⊢;have aB:decide ((i:Int)<(xs.length:Int))=true:=decide_eq_true (by omega);have cC:(bI (if i=0 then []else [44,32])).length=(if i=0 then []else([44,32]:List UInt8)).length:=L4 _;have hc:(if i=0 then []else([44,32]:List UInt8)).length≤2:=by split<;>simp
   have zx:([58,32]:List UInt8).length=2:=rfl;have hn:([y.name,[58,32]]:List (List UInt8)).flatten=y.name++[58,32]:=by simp
   have e:LitT.mk y.value.kind y.value.text y.value.block y.value.items y.value.fields ⟨y.value.pos.line,y.value.pos.col⟩=y.value:=LitT.eta y.value;have zy:F27 [y.name,[58,32]] (buf++bI (if i=0 then []else [44,32]))=some ([],Z8 ((buf++bI (if i=0 then []else [44,32]))++bI (y.name++[58,32]))):=by
    have:=A0j (a:=[y.name,[58,32]]) (b:=buf++bI (if i=0 then []else [44,32])) (by simp) (by rw[hn,Bb,Bb];omega);rw[hn]at this;exact this
   simp only[F44,A3F,A30,A4q,A5d,gd,kC,kP,kO,aB,cond_true,L3,fg,B6X (i:=i) (b:=buf) (by omega),o44,R1,U9 (i:=i) (by omega),e,zy];rw[hg y cD _ (by simp only[Bb,L4]at*;omega)];simp only[o44,R1,cond_true];rw[B4B hs hg n (i+1) _ (by omega) (by omega) (by simp only[Bb,L4]at*;omega)];simp only[A0E,Bu]
  ·have bR:i=xs.length:=by omega
   subst bR;have aB:decide ((xs.length:Int)<(xs.length:Int))=false:=decide_eq_false (by omega);simp only[F44,A3F,A30,A4q,A5d,gd,kC,kP,kO,aB,cond_false];rw[Co];simp[bI,jn]
theorem B8G{nn:Nat}{g:LitT→(List Int)→Option (List L6×List (List L6))}{a1:LitT}{b0:List Int}{k2:Int→Bool→(List Int)→Option R}(hs:a1.fields.length≤4611686018427387904)
  (hg:∀ x∈a1.fields,∀ b:List Int,b.length+(p x.value).length+4≤MB→g x.value b=some ([],A0y (b++bI (p x.value)))):∀(n i:Nat)(buf:List Int),i≤a1.fields.length→a1.fields.length<n+i→buf.length+(jn i ((a1.fields.drop i).map (fp p))).length+4≤MB→
  A3h nn g a1 b0 n (i:Int) buf k2=k2 (a1.fields.length:Int) false (buf++bI (jn i ((a1.fields.drop i).map (fp p))))
 |0,i,buf,h1,h2,h3=>by omega
 |n+1,i,buf,h1,h2,h3=>by
  unfold A3h;by_cases hi:i<a1.fields.length
  ·have fg:a1.fields[i]?=some a1.fields[i]:=Bn hi;have hd:a1.fields.drop i=a1.fields[i]::a1.fields.drop (i+1):=Cp hi;have cD:a1.fields[i]∈a1.fields:=Cs hi;generalize a1.fields[i]=y at*;rw[hd]at h3 ⊢;simp only[Cz,jn,Bb,fp]at h3 ⊢;have aB:decide ((i:Int)<(a1.fields.length:Int))=true:=decide_eq_true (by omega);have cC:(bI (if i=0 then []else [44,32])).length=(if i=0 then []else([44,32]:List UInt8)).length:=L4 _;have hc:(if i=0 then []else([44,32]:List UInt8)).length≤2:=by split<;>simp
   have zx:([58,32]:List UInt8).length=2:=rfl;have e:LitT.mk y.value.kind y.value.text y.value.block y.value.items y.value.fields ⟨y.value.pos.line,y.value.pos.col⟩=y.value:=LitT.eta y.value;have e1:F32 y.name (buf++bI (if i=0 then []else [44,32]))=some ([],A0y ((buf++bI (if i=0 then []else [44,32]))++bI y.name)):=R3 (by simp only[Bb,L4]at*;omega);have e2:F32 [58,32] ((buf++bI (if i=0 then []else [44,32]))++bI y.name)=some ([],A0y (((buf++bI (if i=0 then []else [44,32]))++bI y.name)++bI [58,32])):=R3 (by simp only[Bb,L4]at*;omega);simp only[F45,A3l,A3T,A5A,A4r,gd,kC,kP,kO,aB,cond_true,L3,fg,B5q (i:=i) (s:=[44,32]) (b:=buf) (by show buf.length+2≤MB;omega),o45,P4,U9 (i:=i) (by omega),e,e1,e2];rw[hg y cD _ (by simp only[Bb,L4]at*;omega)];simp only[o45,P4,cond_true];rw[B8G hs hg n (i+1) _ (by omega) (by omega) (by simp only[Bb,L4]at*;omega)];simp only[A0E,Bu]
  ·have bR:i=a1.fields.length:=by omega
   have aB:decide ((i:Int)<(a1.fields.length:Int))=false:=decide_eq_false (by omega);simp only[F45,A3l,A3T,A5A,A4r,gd,kC,kP,kO,aB,cond_false];rw[bR,Co];simp[bI,jn]
end
def prN:Nat→LitT→List UInt8
 |0,_=>[]
 |d+1,v=>if v.kind=1 then [36]++v.text else if v.kind=6 then [110,117,108,108]else if v.kind=4 then qq v.block v.text
  else if v.kind=8 then [91]++(jn 0 (v.items.map (prN d))++[93])else if v.kind=9 then [123]++(jn 0 (v.fields.map (fp (prN d)))++[125])else v.text
theorem B0a{α:Type}{f:α→List UInt8}{g:α→Nat}:∀(i:Nat)(l:List α),(∀ x∈l,(f x).length+2≤g x)→(jn i (l.map f)).length≤sw g l
 |_,[],_=>by simp[jn,sw]
 |i,x::r,h=>by
  have h1:=h x Bz;have h2:=B0a (i+1) r (fun y hy=>h y (Cn _ hy));have hc:(if i=0 then []else([44,32]:List UInt8)).length≤2:=by split<;>simp
  simp only[Cz,jn,Bb,sw];omega
theorem B23{α:Type}(k:Nat)(f:α→Nat):∀(l:List α),sw (fun x=>k*f x) l=k*sw f l
 |[]=>by simp[sw]
 |x::l=>by simp only[sw,B23 k f l,Nat.mul_add]
theorem Z0(l:List Int):(toB l).length=l.length:=Dv ..
theorem A9o(l:List Int):(B3 l).length≤4*l.length:=by
 unfold B3;rw[Z0];exact Bv.flat_u8F_len l
theorem A7R(a b:List Int):B3 (a++b)=B3 a++B3 b:=by
 unfold B3 toB;rw[List.flatMap_append,Ep]
theorem A0z(c:Int)(l:List Int):(B3 (c::l)).length=(u8F c).length+(B3 l).length:=by
 unfold B3;rw[Z0,Z0,Es,Bb]
theorem B4h(v:List UInt8):(C4 v).1.length≤v.length:=by
 obtain⟨_,_,h1,h2⟩:=Bv.decF_enc v.length v (Bd _);omega
theorem A45{c:Int}(h:c<128):(u8F c).length=1:=by
 unfold u8F;rw[if_pos h];rfl
theorem A8Z(n:Int)(h:n<16):Q7 n<128:=by
 unfold Q7;split<;>omega
theorem A4g(c:Int):(B3 (H0 c)).length=6:=by
 unfold H0;rw[A0z,A0z,A0z,A0z,A0z,A0z,A45 (by decide),A45 (by decide),A45 (A8Z _ (by omega)),A45 (A8Z _ (by omega)),A45 (A8Z _ (by omega)),A45 (A8Z _ (by omega))];rfl
theorem A6J(c:Int):(B3 (wrF c)).length≤12:=by
 unfold wrF;have pt:∀ a b:Int,(B3 [a,b]).length≤12:=fun a b=>by
  have:=A9o [a,b];simp at this;omega
 split
 ·exact pt _ _
 ·split
  ·exact pt _ _
  ·split
   ·exact pt _ _
   ·split
    ·exact pt _ _
    ·split
     ·exact pt _ _
     ·split
      ·exact pt _ _
      ·split
       ·rw[A7R,Bb,A4g,A4g];exact Bd _
       ·split
        ·rw[A4g];decide
        ·have:=A9o [c];simp at this;omega
theorem D0j(cs:List Int):(B3 (qtC cs)).length≤2+12*cs.length:=by
 have h:∀ l:List Int,(B3 (l.flatMap wrF)).length≤12*l.length:=fun l=>by
  induction l with
  |nil=>simp[B3,toB]
  |cons c l ih=>
   have:=A6J c;rw[Es,A7R,Bb,Bj];omega
 have e:qtC cs=[34]++cs.flatMap wrF++[34]:=rfl;have wV:(B3 [34]).length=1:=by decide
 rw[e,A7R,A7R,Bb,Bb,wV];have:=h cs;omega
theorem A9S(l:List Int):(maskF l).length≤2*l.length:=by
 induction l using maskF.induct with
 |case1 r ih=>simp only[maskF,Bj];omega
 |case2 c r h ih=>rw[maskF];simp only[Bj];omega;exact h
 |case3=>simp[maskF]
theorem C12(cs:List Int):(B3 (btC cs)).length≤32+8*cs.length:=by
 have h1:=A9o (btC cs);have h2:=A9S cs;have h3:(btC cs).length≤8+(maskF cs).length:=by
  unfold btC;simp only[Bb];have:(if(decide (1<(B4 cs).length)|| !J6 (cs.headD 0))=true then [10]else([]:List Int)).length≤1:=by split<;>simp
  simp only[Bj,Bx];omega
 omega
theorem C94(b:Bool){t:List UInt8}(h:t.length≤8400000):(qq b t).length+2≤101000000:=by
 have hd:=B4h t;cases b with
 |true=>
  show(btF t).1.length+2≤_;unfold btF;split
  ·simp
  ·split
   ·simp
   ·split
    ·simp
    ·split
     ·simp
     ·have:=C12 (C4 t).1;show(B3 (btC (C4 t).1)).length+2≤_;omega
 |false=>
  show(qtF t).1.length+2≤_;unfold qtF;split
  ·simp
  ·have:=D0j (C4 t).1;show(B3 (qtC (C4 t).1)).length+2≤_;omega
theorem A6P:∀(d:Nat)(v:LitT),O0 d v→(prN d v).length+2≤101000000*wt d v
 |0,v,h=>h.elim
 |d+1,v,h=>by
  obtain⟨h1,h2,h3,h4,h5,h6⟩:=h;have hi:(jn 0 (v.items.map (prN d))).length≤101000000*sw (wt d) v.items:=by
   rw[←B23];exact B0a 0 v.items fun x hx=>A6P d x (h5 x hx)
  have hf:(jn 0 (v.fields.map (fp (prN d)))).length≤101000000*sw (fun(f:LfT)=>1+wt d f.value) v.fields:=by
   rw[←B23];refine B0a 0 v.fields fun f hf=>?_;obtain⟨k1,k2⟩:=h6 f hf;have:=A6P d f.value k2;show(f.name++[58,32]++prN d f.value).length+2≤101000000*(1+wt d f.value);simp only[Bb,Bj,Bx];omega
  have hq:=C94 v.block h3;simp only[prN,wt];split
  ·simp only[Bb,Bj,Bx];omega
  ·split
   ·simp only[Bj,Bx];omega
   ·split
    ·omega
    ·split
     ·simp only[Bb,Bj,Bx];omega
     ·split
      ·simp only[Bb,Bj,Bx];omega
      ·omega
theorem B2Z{t:List UInt8}(h:t.length≤8400000):smS t=true:=by
 unfold smS;exact decide_eq_true (by omega)
theorem B78{d:Nat}{v:LitT}(h:wt (d+1) v≤4611686018427387903)(hg:O0 (d+1) v):v.items.length≤4611686018427387904:=by
 cases d with
 |zero=>
  have:v.items=[]:=by
   cases hv:v.items with
   |nil=>rfl
   |cons x r=>exact absurd (hg.2.2.2.2.1 x (by rw[hv];exact Bz)) (fun h=>h)
  rw[this];simp
 |succ d=>
  have:=B5T (d:=d+1) (Nat.succ_pos d) v;have h2:wt (d+1+1) v=W (d+1) v:=rfl;omega
theorem B6L{d:Nat}{v:LitT}(h:wt (d+1) v≤4611686018427387903):v.fields.length≤4611686018427387904:=by
 have:=B32 (d:=d) v;have h2:wt (d+1) v=W d v:=rfl;omega
theorem B3v:∀(d:Nat)(v:LitT)(b:List Int),O0 d v→wt d v≤1100000→b.length+(prN d v).length+4≤MB→R44 d v b=some ([],Z8 (b++bI (prN d v)))
 |0,v,b,h,_,_=>h.elim
 |d+1,v,b,h,hw,hl=>by
  have hg:=h;obtain⟨h1,h2,h3,h4,h5,h6⟩:=h;have zz:=A6P (d+1) v hg;have ji:=B78 (by omega) hg;have kg:=B6L (v:=v) (d:=d) (by omega);have qZ:∀ x∈v.items,wt d x≤1100000:=fun x hx=>by
   have:=A6z (wt d) v.items x hx;have h2:wt (d+1) v=W d v:=rfl;unfold W at h2;omega
  have rA:∀ f∈v.fields,wt d f.value≤1100000:=fun f hf=>by
   have:=A6z (fun(f:LfT)=>1+wt d f.value) v.fields f hf;have h2:wt (d+1) v=W d v:=rfl;unfold W at h2;have h3:(fun(f:LfT)=>1+wt d f.value) f=1+wt d f.value:=rfl;omega
  have la:NN=18446744073709551616:=rfl;have cq:=B2Z h3;show A3F (R44 d) v b=_;have hk:v.kind=1∨v.kind=2∨v.kind=3∨v.kind=4∨v.kind=5∨v.kind=6∨v.kind=7∨v.kind=8∨v.kind=9:=by omega
  have text:∀(k:Int),v.kind=k→k=2∨k=3∨k=5∨k=7→prN (d+1) v=v.text:=fun k e h=>by
   simp only[prN];rw[if_neg (by omega),if_neg (by omega),if_neg (by omega),if_neg (by omega),if_neg (by omega)]
  simp only[F44,A3F,A30,A4q,A5d,gd,kC,kP,kO];rcases hk with hk|hk|hk|hk|hk|hk|hk|hk|hk
  ·have hp:prN (d+1) v=([[36],v.text]:List (List UInt8)).flatten:=by simp[prN,hk]
   rw[hp]at hl ⊢;have e:=A0j (a:=[[36],v.text]) (b:=b) (by simp) (by omega);simp only[hk,e,o44,R1,cond_true];rfl
  ·have hp:=text 2 hk (by omega);rw[hp]at hl ⊢;have e:=A0j (a:=[v.text]) (b:=b) (by simp) (by simp;omega);rw[show([v.text]:List (List UInt8)).flatten=v.text by simp]at e;simp only[hk,e,o44,R1,cond_true];rfl
  ·have hp:=text 3 hk (by omega);rw[hp]at hl ⊢;have e:=A0j (a:=[v.text]) (b:=b) (by simp) (by simp;omega);rw[show([v.text]:List (List UInt8)).flatten=v.text by simp]at e;simp only[hk,e,o44,R1,cond_true];rfl
  ·have hp:prN (d+1) v=qq v.block v.text:=by simp[prN,hk]
   rw[hp]at hl ⊢;have e:=A0j (a:=[qq v.block v.text]) (b:=b) (by simp) (by simp;omega);rw[show([qq v.block v.text]:List (List UInt8)).flatten=qq v.block v.text by simp]at e;simp only[hk,C5Z cq,oS1,gS1,e,o44,R1,cond_true];rfl
  ·have hp:=text 5 hk (by omega);rw[hp]at hl ⊢;have e:=A0j (a:=[v.text]) (b:=b) (by simp) (by simp;omega);rw[show([v.text]:List (List UInt8)).flatten=v.text by simp]at e;simp only[hk,e,o44,R1,cond_true];rfl
  ·have hp:prN (d+1) v=[110,117,108,108]:=by simp[prN,hk]
   rw[hp]at hl ⊢;have e:=A0j (a:=[[110,117,108,108]]) (b:=b) (by simp) (by simp at hl ⊢;omega);rw[show([[110,117,108,108]]:List (List UInt8)).flatten=[110,117,108,108]by simp]at e;simp only[hk,e,o44,R1,cond_true];rfl
  ·have hp:=text 7 hk (by omega);rw[hp]at hl ⊢;have e:=A0j (a:=[v.text]) (b:=b) (by simp) (by simp;omega);rw[show([v.text]:List (List UInt8)).flatten=v.text by simp]at e;simp only[hk,e,o44,R1,cond_true];rfl
  ·have hp:prN (d+1) v=[91]++(jn 0 (v.items.map (prN d))++[93]):=by simp[prN,hk]
   rw[hp]at hl ⊢;simp only[Bb,Bj,Bx]at hl;have e:=A0j (a:=[[91]]) (b:=b) (by simp) (by simp;omega);have e2:=A0j (a:=[[93]]) (b:=(b++bI [91])++bI (jn 0 (v.items.map (prN d)))) (by simp) (by simp[L4,Bb];omega);rw[show([[91]]:List (List UInt8)).flatten=[91]by simp]at e;rw[show([[93]]:List (List UInt8)).flatten=[93]by simp]at e2;simp only[hk,e,o44,R1,cond_true];show A21 NN (R44 d) v b NN v.items (v.items.length:Int) ((0:Nat):Int) (b++bI [91]) _=_;rw[B5x (p:=prN d) ji (fun x hx b' bw=>B3v d x b' (h5 x hx) (qZ x hx) (by omega)) NN 0 (b++bI [91]) (by omega) (by rw[la];omega) (by simp[L4,Bb];omega)];rw[Ct];simp only[e2,o44,R1,cond_true,A0E];simp only[Bu];rfl
  ·have hp:prN (d+1) v=[123]++(jn 0 (v.fields.map (fp (prN d)))++[125]):=by simp[prN,hk]
   rw[hp]at hl ⊢;simp only[Bb,Bj,Bx]at hl;have e:=A0j (a:=[[123]]) (b:=b) (by simp) (by simp;omega);have e2:=A0j (a:=[[125]]) (b:=(b++bI [123])++bI (jn 0 (v.fields.map (fp (prN d))))) (by simp) (by simp[L4,Bb];omega);rw[show([[123]]:List (List UInt8)).flatten=[123]by simp]at e;rw[show([[125]]:List (List UInt8)).flatten=[125]by simp]at e2;simp only[hk,e,o44,R1,cond_true];show A3O NN (R44 d) v b NN v.fields (v.fields.length:Int) ((0:Nat):Int) (b++bI [123]) _=_;rw[B4B (p:=prN d) kg (fun x hx b' bw=>B3v d x.value b' (h6 x hx).2 (rA x hx) (by omega)) NN 0 (b++bI [123]) (by omega) (by rw[la];omega) (by simp[L4,Bb];omega)];rw[Ct];simp only[e2,o44,R1,cond_true,A0E];simp only[Bu];rfl
theorem B2N:∀(d:Nat)(v:LitT)(b:List Int),O0 d v→wt d v≤1100000→b.length+(prN d v).length+4≤MB→R45 d v b=some ([],A0y (b++bI (prN d v)))
 |0,v,b,h,_,_=>h.elim
 |d+1,v,b,h,hw,hl=>by
  have hg:=h;obtain⟨h1,h2,h3,h4,h5,h6⟩:=h;have zz:=A6P (d+1) v hg;have ji:=B78 (by omega) hg;have kg:=B6L (v:=v) (d:=d) (by omega);have qZ:∀ x∈v.items,wt d x≤1100000:=fun x hx=>by
   have:=A6z (wt d) v.items x hx;have h2:wt (d+1) v=W d v:=rfl;unfold W at h2;omega
  have rA:∀ f∈v.fields,wt d f.value≤1100000:=fun f hf=>by
   have:=A6z (fun(f:LfT)=>1+wt d f.value) v.fields f hf;have h2:wt (d+1) v=W d v:=rfl;unfold W at h2;have h3:(fun(f:LfT)=>1+wt d f.value) f=1+wt d f.value:=rfl;omega
  have la:NN=18446744073709551616:=rfl;have cq:=B2Z h3;show A3l (R45 d) v b=_;have hk:v.kind=1∨v.kind=2∨v.kind=3∨v.kind=4∨v.kind=5∨v.kind=6∨v.kind=7∨v.kind=8∨v.kind=9:=by omega
  have text:∀(k:Int),v.kind=k→k=2∨k=3∨k=5∨k=7→prN (d+1) v=v.text:=fun k e h=>by
   simp only[prN];rw[if_neg (by omega),if_neg (by omega),if_neg (by omega),if_neg (by omega),if_neg (by omega)]
  simp only[F45,A3l,A3T,A5A,A4r,gd,kC,kP,kO];rcases hk with hk|hk|hk|hk|hk|hk|hk|hk|hk
  ·have hp:prN (d+1) v=[36]++v.text:=by simp[prN,hk]
   rw[hp]at hl ⊢;simp only[Bb,Bj,Bx]at hl;have e:=R3 (a:=[36]) (b:=b) (by simp;omega);have e2:=R3 (a:=v.text) (b:=b++bI [36]) (by simp[L4,Bb];omega);simp only[hk,e,e2,o45,P4,cond_true,A0E];simp only[Bu];rfl
  ·have hp:=text 2 hk (by omega);rw[hp]at hl ⊢;have e:=R3 (a:=v.text) (b:=b) (by omega);simp only[hk,e,o45,P4,cond_true];rfl
  ·have hp:=text 3 hk (by omega);rw[hp]at hl ⊢;have e:=R3 (a:=v.text) (b:=b) (by omega);simp only[hk,e,o45,P4,cond_true];rfl
  ·have hp:prN (d+1) v=qq v.block v.text:=by simp[prN,hk]
   rw[hp]at hl ⊢;have e:=C8R (b:=b) cq v.block (fun hb=>h4 hk hb) (by omega);simp only[hk,e,o45,P4,cond_true];rfl
  ·have hp:=text 5 hk (by omega);rw[hp]at hl ⊢;have e:=R3 (a:=v.text) (b:=b) (by omega);simp only[hk,e,o45,P4,cond_true];rfl
  ·have hp:prN (d+1) v=[110,117,108,108]:=by simp[prN,hk]
   rw[hp]at hl ⊢;have e:=R3 (a:=[110,117,108,108]) (b:=b) (by simp at hl ⊢;omega);simp only[hk,e,o45,P4,cond_true];rfl
  ·have hp:=text 7 hk (by omega);rw[hp]at hl ⊢;have e:=R3 (a:=v.text) (b:=b) (by omega);simp only[hk,e,o45,P4,cond_true];rfl
  ·have hp:prN (d+1) v=[91]++(jn 0 (v.items.map (prN d))++[93]):=by simp[prN,hk]
   rw[hp]at hl ⊢;simp only[Bb,Bj,Bx]at hl;have e:=R3 (a:=[91]) (b:=b) (by simp;omega);have e2:=R3 (a:=[93]) (b:=(b++bI [91])++bI (jn 0 (v.items.map (prN d)))) (by simp[L4,Bb];omega);simp only[hk,e,o45,P4,cond_true];show A33 NN (R45 d) v b NN ((0:Nat):Int) (b++bI [91]) _=_;rw[B7G (p:=prN d) ji (fun x hx b' bw=>B2N d x b' (h5 x hx) (qZ x hx) (by omega)) NN 0 (b++bI [91]) (by omega) (by rw[la];omega) (by simp[L4,Bb];omega)];rw[Ct];simp only[e2,o45,P4,cond_true,A0E];simp only[Bu];rfl
  ·have hp:prN (d+1) v=[123]++(jn 0 (v.fields.map (fp (prN d)))++[125]):=by simp[prN,hk]
   rw[hp]at hl ⊢;simp only[Bb,Bj,Bx]at hl;have e:=R3 (a:=[123]) (b:=b) (by simp;omega);have e2:=R3 (a:=[125]) (b:=(b++bI [123])++bI (jn 0 (v.fields.map (fp (prN d))))) (by simp[L4,Bb];omega);simp only[hk,e,o45,P4,cond_true];show A3h NN (R45 d) v b NN ((0:Nat):Int) (b++bI [123]) _=_;rw[B8G (p:=prN d) kg (fun x hx b' bw=>B2N d x.value b' (h6 x hx).2 (rA x hx) (by omega)) NN 0 (b++bI [123]) (by omega) (by rw[la];omega) (by simp[L4,Bb];omega)];rw[Ct];simp only[e2,o45,P4,cond_true,A0E];simp only[Bu];rfl
theorem C3r{v:LitT}(h:O0 201 v)(hw:wt 201 v≤1100000):F15 v=some (.one (.str (prN 201 v)))∧F16 v=some (.one (.str (prN 201 v))):=by
 have hl:=A6P 201 v h;have au:(prN 201 v).length+4≤MB:=by unfold MB;omega
 have zA:∀ d v,O0 d v→O0 (d+1) v∧wt (d+1) v=wt d v∧prN (d+1) v=prN d v:=by
  intro d
  induction d with
  |zero=>intro v h;exact h.elim
  |succ d ih=>
   intro v h;obtain⟨h1,h2,h3,h4,h5,h6⟩:=h;have zB:∀ l:List LitT,(∀ x∈l,O0 d x)→sw (wt (d+1)) l=sw (wt d) l:=fun l=>by
    induction l with
    |nil=>intro _;rfl
    |cons x l nN=>
     intro hx;simp only[sw];rw[nN (fun y hy=>hx y (Cn _ hy)),(ih x (hx x Bz)).2.1]
   have zC:∀ l:List LfT,(∀ f∈l,f.name.length≤8400000∧O0 d f.value)→sw (fun(f:LfT)=>1+wt (d+1) f.value) l=sw (fun(f:LfT)=>1+wt d f.value) l:=fun l=>by
    induction l with
    |nil=>intro _;rfl
    |cons x l nN=>
     intro hx;simp only[sw];rw[nN (fun y hy=>hx y (Cn _ hy)),(ih x.value (hx x Bz).2).2.1]
   have mi:v.items.map (prN (d+1))=v.items.map (prN d):=Eo fun x hx=>(ih x (h5 x hx)).2.2;have mf:v.fields.map (fp (prN (d+1)))=v.fields.map (fp (prN d)):=Eo fun x hx=>by
    unfold fp;rw[(ih x.value (h6 x hx).2).2.2]
   refine⟨⟨h1,h2,h3,h4,fun x hx=>(ih x (h5 x hx)).1,fun f hf=>⟨(h6 f hf).1,(ih f.value (h6 f hf).2).1⟩⟩,?_,?_⟩
   ·show 1+sw (wt (d+1)) v.items+sw (fun(f:LfT)=>1+wt (d+1) f.value) v.fields=1+sw (wt d) v.items+sw (fun(f:LfT)=>1+wt d f.value) v.fields;rw[zB _ h5,zC _ h6]
   ·rw[show prN (d+1+1) v=(if v.kind=1 then [36]++v.text else if v.kind=6 then [110,117,108,108]else if v.kind=4 then qq v.block v.text
  else if v.kind=8 then [91]++(jn 0 (v.items.map (prN (d+1)))++[93])else if v.kind=9 then [123]++(jn 0 (v.fields.map (fp (prN (d+1))))++[125])else v.text)from rfl,mi,mf]
    rfl
 have upq:∀ k,O0 (201+k) v∧wt (201+k) v=wt 201 v∧prN (201+k) v=prN 201 v:=fun k=>by
  induction k with
  |zero=>exact⟨h,rfl,rfl⟩
  |succ k ih=>
   obtain⟨a1,a2,a3⟩:=ih;obtain⟨b1,b2,b3⟩:=zA (201+k) v a1;exact⟨b1,b2.trans a2,b3.trans a3⟩
 obtain⟨d,hd⟩:∃ k,DD=201+k:=⟨DD - 201,by have:DD=1000000:=rfl;omega⟩;obtain⟨g1,g2,g3⟩:=upq d;rw[←hd]at g1 g2 g3;have zD:F44 v []=some ([],Z8 (bI (prN 201 v))):=by
  have:=B3v DD v [] g1 (by rw[g2];omega) (by rw[g3];simpa using au);rw[g3]at this;exact this
 have zE:F45 v []=some ([],A0y (bI (prN 201 v))):=by
  have:=B2N DD v [] g1 (by rw[g2];omega) (by rw[g3];simpa using au);rw[g3]at this;exact this
 have zF:F29 (bI (prN 201 v))=some ([.str (prN 201 v)],Z8 (bI (prN 201 v))):=by
  unfold F29;rw[L4,decide_eq_true (by unfold MB at au;omega),cond_true,B3o];rfl
 constructor
 ·simp only[F15,gd,kC,kP,kO,zD,o44,R1,cond_true,zF];rfl
 ·simp only[F16,gd,kC,kP,kO,zE,o45,P4,cond_true];have:=B3o (prN 201 v);unfold toB at this;rw[this]
theorem B9I:∀(n:Nat),Dy [91] n=By n 91
 |0=>rfl
 |n+1=>by rw[Dy,B9I n];rfl
theorem B0c{R:Type}{nn:Nat}{a1:I0}{b0:List Int}{k2:Int→Bool→(List Int)→Option R}(hs:a1.wrap.length≤1000):∀(n i:Nat)(buf:List Int),i≤a1.wrap.length→a1.wrap.length<n+i→buf.length+(a1.wrap.drop i).length≤MB→
  A3D nn a1 b0 n (i:Int) buf k2=k2 (a1.wrap.length:Int) false (buf++bI (By ((a1.wrap.drop i).count 93) 91))
 |0,i,buf,h1,h2,h3=>by omega
 |n+1,i,buf,h1,h2,h3=>by
  unfold A3D;by_cases hi:i<a1.wrap.length
  ·have fg:a1.wrap[i]?=some a1.wrap[i]:=Bn hi;have hd:a1.wrap.drop i=a1.wrap[i]::a1.wrap.drop (i+1):=Cp hi;generalize a1.wrap[i]=y at*;rw[hd]at h3 ⊢;rw[Bj]at h3;have aB:decide ((i:Int)<(a1.wrap.length:Int))=true:=decide_eq_true (by omega);have e:=R3 (a:=[91]) (b:=buf) (by show buf.length+1≤MB;omega);by_cases hy:y=93
   ·subst hy;have vf:((Df 93:Nat):Int)==93:=rfl;simp only[F49,A4m,A6Z,gd,kC,kP,kO,aB,cond_true,L3,fg,vf,e,o45,P4,U9 (i:=i) (by omega)];rw[B0c hs n (i+1) (buf++bI [91]) (by omega) (by omega) (by rw[Bb,L4];show buf.length+1+_≤_;omega)];rw[List.count_cons_self,List.replicate_succ,Bu];rfl
   ·have hn:((Df y:Nat):Int)==93↔False:=by
     simp only[beq_iff_eq,iff_false];intro h;apply hy;have:y.toNat=93:=by omega
     exact UInt8.toNat_inj.1 this
    have vf:(((Df y:Nat):Int)==93)=false:=by
     cases h:((Df y:Nat):Int)==93 with
     |false=>rfl
     |true=>exact absurd (hn.1 h) (fun h=>h)
    simp only[F49,A4m,A6Z,gd,kC,kP,kO,aB,cond_true,L3,fg,vf,cond_false,U9 (i:=i) (by omega)];rw[B0c hs n (i+1) buf (by omega) (by omega) (by omega)];rw[List.count_cons_of_ne hy]
  ·have bR:i=a1.wrap.length:=by omega
   have aB:decide ((i:Int)<(a1.wrap.length:Int))=false:=decide_eq_false (by omega);simp only[F49,A4m,A6Z,gd,kC,kP,kO,aB,cond_false];rw[bR,Co];simp[bI]
theorem oI(k:Int):okR [.int .i64] (some (.one (.int .i64 k)):Option E6)=true:=rfl
theorem gI(k:Int):lI (gL (some (.one (.int .i64 k)):Option E6) 0)=k:=rfl
theorem C5f{r:I0}(h1:r.name.length≤8400000)(h2:r.wrap.length≤1000):
  ∃ t,F18 r=some (.one (.str t))∧F19 r=some (.one (.str t)):=by
 have hc:r.wrap.count 93≤1000:=Nat.le_trans List.count_le_length h2;refine⟨By (r.wrap.count 93) 91++r.name++r.wrap,?_,?_⟩
 ·have zG:F48 r.wrap [93]=some (.one (.int .i64 ((r.wrap.count 93:Nat):Int))):=by
   unfold F48;rw[B2Z (by omega)];rfl
  have zH:F47 [91] ((r.wrap.count 93:Nat):Int)=some (.one (.str (By (r.wrap.count 93) 91))):=by
   unfold F47;rw[decide_eq_true (by decide),decide_eq_true (by omega),decide_eq_true (by omega)];show(some (.one (.str (Dy [91] ((r.wrap.count 93:Nat):Int).toNat))):Option E6)=_;rw[Int.toNat_natCast,B9I]
  have d1:Ca (By (r.wrap.count 93) (91:UInt8))+Ca r.name≤9223372036854775807:=by rw[Dj];omega
  have d2:Ca (By (r.wrap.count 93) (91:UInt8)++r.name)+Ca r.wrap≤9223372036854775807:=by rw[Bb,Dj];omega
  simp only[F18,gd,kC,kP,kO,zG,oI,gI,zH,oS1,gS1,cond_true,d1,d2,decide_true]
 ·have la:NN=18446744073709551616:=rfl;have zI:F49 r []=some ([],A0y (bI (By (r.wrap.count 93) 91++r.name++r.wrap))):=by
   have e1:=R3 (a:=r.name) (b:=([]:List Int)++bI (By (r.wrap.count 93) 91)) (by rw[Cx,L4,Dj];unfold MB;omega);have e2:=R3 (a:=r.wrap) (b:=(([]:List Int)++bI (By (r.wrap.count 93) 91))++bI r.name) (by rw[Cx,Bb,L4,L4,Dj];unfold MB;omega);simp only[F49,A4m,A6Z,gd,kC,kP,kO];show A3D NN r [] NN ((0:Nat):Int) [] _=_;rw[B0c h2 NN 0 [] (by omega) (by rw[la];omega) (by simp;unfold MB;omega),Ct];simp only[e1,e2,o45,P4,cond_true];simp only[A0E,Cx,Bu];rfl
  have:=B3o (By (r.wrap.count 93) 91++r.name++r.wrap);unfold toB at this;simp only[F19,gd,kC,kP,kO,zI,o45,P4,cond_true,this]
theorem oLF(v:LitT)(f:Q8):okR [.agg .lit,.agg .fault] (some (.tup [.agg .lit v,.agg .fault f]):Option E6)=true:=rfl
theorem oTF(v:I0)(f:Q8):okR [.agg .tref,.agg .fault] (some (.tup [.agg .tref v,.agg .fault f]):Option E6)=true:=rfl
theorem C26(v:LitT)(r:List L6):A1D (gL (some (.tup (.agg .lit v::r)):Option E6) 0)=v:=rfl
theorem C5D(l:L6)(f:Q8)(r:List L6):A9X (gL (some (.tup (l::.agg .fault f::r)):Option E6) 1)=f:=rfl
theorem C9A(v:I0)(r:List L6):A9r (gL (some (.tup (.agg .tref v::r)):Option E6) 0)=v:=rfl
theorem C0K:F7=some (.one (.bool true)):=rfl
theorem oB1(b:Bool):okR [.bool] (some (.one (.bool b)):Option E6)=true:=rfl
theorem gB1(b:Bool):lB (gL (some (.one (.bool b)):Option E6) 0)=b:=rfl
theorem C1c{a0:List Int}{ts:List A1}(hF:F24 a0=some (.one (.sl .tok ts (some 1))))(tw:TW ts)(a1:Int):F5 a0 a1=some (.one (.bool true)):=by
 obtain⟨v,f,e1,e2⟩:=C8L hF tw a1;obtain⟨r,f2,e3,e4⟩:=C6j hF tw a1;have ev:LitT.mk v.kind v.text v.block v.items v.fields ⟨v.pos.line,v.pos.col⟩=v:=LitT.eta v;have er:(⟨r.name,r.wrap⟩:I0)=r:=rfl;simp only[F5,gd,kC,kP,kO,C0K,oB1,gB1,e1,e3,oLF,C26,C5D,ev,oTF,C9A,cond_true,Br,cond_false];have wW:(bif(f2.kind !=0)==false then bif okR [KD.str] (F18 ⟨r.name,r.wrap⟩)then bif okR [KD.str] (F19 ⟨r.name,r.wrap⟩)then
   some (Ent.one (Leaf.bool (lS (gL (F18 ⟨r.name,r.wrap⟩) 0)==lS (gL (F19 ⟨r.name,r.wrap⟩) 0))))else none else none else some (Ent.one (Leaf.bool true)):Option E6)=some (.one (.bool true)):=by
  by_cases h:f2.kind=0
  ·obtain⟨t,t1,t2⟩:=C5f (e4 h).1 (e4 h).2;have zJ:F18 ⟨r.name,r.wrap⟩=_:=t1;have zK:F19 ⟨r.name,r.wrap⟩=_:=t2;rw[zJ,zK,h];simp only[oS1,gS1,cond_true,beq_self_eq_true];rfl
  ·have:(f2.kind !=0)=true:=by simpa using h
   rw[this];rfl
 by_cases h:f.kind=0
 ·obtain⟨g1,g2⟩:=e2 h;obtain⟨p1,p2⟩:=C3r g1 g2;rw[h,p1,p2];simp only[oS1,gS1,cond_true,beq_self_eq_true,Br,cond_false];exact wW
 ·have:(f.kind==0)=false:=by simpa using h
  rw[this];exact wW
theorem NNv:NN=18446744073709551616:=rfl
theorem B4U{n:Int}(h1: -2147483648≤n)(h2:n<2147483648):Bh .i32 n=n:=by
 have h3:=Go.IntWalk.i32_in n ⟨h1,by omega⟩;exact h3
theorem B8e{R:Type}{nn:Nat}{c:Int}{t:List UInt8}{k1:Option R}{k3:Int→Bool→Option R}(hs:t.length≤1000):∀(n i:Nat),i≤t.length→t.length<n+i→
  A3G nn c t n (i:Int) k1 k3=if inF c (t.drop i)then k1 else k3 (t.length:Int) false
 |0,i,h1,h2=>by omega
 |n+1,i,h1,h2=>by
  unfold A3G;by_cases hi:i<t.length
  ·have fg:t[i]?=some t[i]:=Bn hi;have hd:t.drop i=t[i]::t.drop (i+1):=Cp hi;generalize t[i]=y at*;have aB:decide ((i:Int)<(t.length:Int))=true:=decide_eq_true (by omega);have hy:=y.toNat_lt;have hw:Bh .i32 ((y.toNat:Nat):Int)=((y.toNat:Nat):Int):=B4U (by omega) (by omega);rw[hd];simp only[W3,A6k,A7I,gd,kC,kP,kO,aB,cond_true,L3,fg,hw,U9 (i:=i) (by omega),inF,List.any_cons];by_cases hc:(((y.toNat:Nat):Int)==c)=true
   ·simp only[hc,cond_true,Cc,if_true]
   ·have cC:(((y.toNat:Nat):Int)==c)=false:=by simpa using hc
    simp only[cC,cond_false,Cf];exact B8e hs n (i+1) (by omega) (by omega)
  ·have bR:i=t.length:=by omega
   have aB:decide ((i:Int)<(t.length:Int))=false:=decide_eq_false (by omega);simp only[W3,A6k,A7I,gd,kC,kP,kO,aB,cond_false];rw[bR,Co];simp[inF]
theorem A4H{c:Int}{t:List UInt8}(hs:t.length≤1000):W3 c t=some (.one (.bool (inF c t))):=by
 simp only[W3,A6k,A7I,gd,kC,kP,kO];show A3G NN c t NN ((0:Nat):Int) _ _=_;rw[B8e hs NN 0 (by omega) (by rw[NNv];omega),Ct];cases inF c t<;>rfl
theorem B63{c:Int}{t:List UInt8}(h:inF c t=true):0≤c:=by
 unfold inF at h;obtain⟨b,_,hb⟩:=Dx.1 h;have:=(beq_iff_eq).1 hb;omega
def A01:List UInt8:=[97,98,99,100,101,102,103,104,105,106,107,108,109,110,111,112,113,114,115,116,117,118,119,120,121,122,65,66,67,68,69,70,71,72,73,74,75,76,77,78,79,80,81,82,83,84,85,86,87,88,89,90,95]
def A2F:List UInt8:=[48,49,50,51,52,53,54,55,56,57]
theorem C75(c:Int):A5n c=some (.one (.bool (inF c A01))):=by
 have e:W3 c A01=_:=A4H (c:=c) (t:=A01) (by decide);unfold A01 at*;simp only[A5n,gd,kC,kP,kO,e,oB1,gB1,cond_true]
theorem C7L(c:Int):A4l c=some (.one (.bool (inF c A2F))):=by
 have e:W3 c A2F=_:=A4H (c:=c) (t:=A2F) (by decide);unfold A2F at*;simp only[A4l,gd,kC,kP,kO,e,oB1,gB1,cond_true]
theorem B7g(c:Int):A2Q c=some (.one (.bool (inF c A01||inF c A2F))):=by
 have e:W3 c A01=_:=A4H (c:=c) (t:=A01) (by decide);have e2:W3 c A2F=_:=A4H (c:=c) (t:=A2F) (by decide);unfold A01 at*;unfold A2F at*;simp only[A2Q,gd,kC,kP,kO,e,e2,oB1,gB1,cond_true];cases inF c [97,98,99,100,101,102,103,104,105,106,107,108,109,110,111,112,113,114,115,116,117,118,119,120,121,122,65,66,67,68,69,70,71,72,73,74,75,76,77,78,79,80,81,82,83,84,85,86,87,88,89,90,95]<;>rfl
theorem D0V(c:Int):∃ b,A2J c=some (.one (.bool b))∧(b=true→0≤c):=by
 have e2:=A4H (c:=c) (t:=[9,10,13,32,44]) (by decide);refine⟨(c==65279)||inF c [9,10,13,32,44],?_,fun h=>?_⟩
 ·simp only[A2J,gd,kC,kP,kO,e2,oB1,gB1,cond_true];cases c==65279<;>rfl
 ·rw[Dc]at h;rcases h with h|h
  ·have:=(beq_iff_eq).1 h;omega
  ·exact B63 h
theorem F4{α:Type}{P:α→Prop}{c:Bool}{a b:α}(h1:c=true→P a)(h2:c=false→P b):P (bif c then a else b):=by
 cases c with
 |true=>exact h1 rfl
 |false=>exact h2 rfl
theorem B79(c:Int):∃ b,A1x c=some (.one (.bool b)):=by
 let P:Option E6→Prop:=fun o=>∃ b,o=some (.one (.bool b))
 show P (A1x c);simp only[A1x,gd,kC,kP,kO]
 repeat' (refine F4 (P:=P) (fun _=>?_) (fun _=>?_))
 all_goals exact⟨_,rfl⟩
theorem C8F(c:Int):∃ b,A29 c=some (.one (.bool b)):=by
 let P:Option E6→Prop:=fun o=>∃ b,o=some (.one (.bool b))
 show P (A29 c);have e:=A4H (c:=c) (t:=[9,10,13]) (by decide);obtain⟨b,e2⟩:=B79 c;simp only[A29,gd,kC,kP,kO,e,e2,oB1,gB1,cond_true]
 repeat' (refine F4 (P:=P) (fun _=>?_) (fun _=>?_))
 all_goals exact⟨_,rfl⟩
theorem C7r(c:Int):∃ l:List Int,A3m c=some (.one (.sl .u8 l (some 1)))∧l.length≤4:=by
 let P:Option E6→Prop:=fun o=>∃ l:List Int,o=some (.one (.sl .u8 l (some 1)))∧l.length≤4
 show P (A3m c);obtain⟨b,e2⟩:=B79 c;simp only[A3m,gd,kC,kP,kO,e2,oB1,gB1,cond_true]
 repeat' (refine F4 (P:=P) (fun _=>?_) (fun _=>?_))
 all_goals exact⟨_,rfl,by simp⟩
theorem oU(l:List Int):okR [.sl .u8 (some 1)] (some (.one (.sl .u8 l (some 1))):Option E6)=true:=rfl
theorem gU(l:List Int):E1 (gL (some (.one (.sl .u8 l (some 1))):Option E6) 0)=l:=rfl
section
variable {R:Type}{P:Option R→Prop}
theorem B8n{nn:Nat}{l:List Int}{k1:Option R}{k3:(List Int)→Int→Bool→Option R}(hs:l.length≤1099511627776)(h1:P k1)(h3:∀ b:List Int,b.length≤4*l.length→P (k3 b (l.length:Int) false)):
  ∀(n i:Nat)(buf:List Int),i≤l.length→l.length<n+i→buf.length≤4*i→P (A5s nn l n buf (i:Int) k1 k3)
 |0,i,buf,a1,a2,a3=>by omega
 |n+1,i,buf,a1,a2,a3=>by
  unfold A5s;by_cases hi:i<l.length
  ·have fg:l[i]?=some l[i]:=Bn hi;generalize l[i]=y at*;have aB:decide ((i:Int)<(l.length:Int))=true:=decide_eq_true (by omega);obtain⟨u,e,hu⟩:=C7r y;have hr:=B1E (n:=buf.length+u.length) (by unfold MB;omega);simp only[A2P,A65,A8N,gd,kC,kP,kO,aB,cond_true,L3,fg,e,oU,gU,hr,U9 (i:=i) (by omega)];refine F4 (P:=P) (fun _=>h1) (fun _=>?_);exact B8n hs h1 h3 n (i+1) (buf++u) (by omega) (by omega) (by rw[Bb];omega)
  ·have bR:i=l.length:=by omega
   have aB:decide ((i:Int)<(l.length:Int))=false:=decide_eq_false (by omega);simp only[A2P,A65,A8N,gd,kC,kP,kO,aB,cond_false];subst bR;exact h3 buf a3
theorem l53{nn:Nat}{l:List Int}{a1:Bool}{k2:(List Int)→Int→Bool→Option R}(hs:l.length≤1099511627776)(h2:∀ b:List Int,b.length=l.length→P (k2 b (l.length:Int) false)):
  ∀(n i:Nat)(buf:List Int),i≤l.length→l.length<n+i→buf.length=i→P (A4B nn l a1 n buf (i:Int) k2)
 |0,i,buf,a1,a2,a3=>by omega
 |n+1,i,buf,a1,a2,a3=>by
  unfold A4B;by_cases hi:i<l.length
  ·have fg:l[i]?=some l[i]:=Bn hi;generalize l[i]=y at*;have aB:decide ((i:Int)<(l.length:Int))=true:=decide_eq_true (by omega);obtain⟨b,e⟩:=C8F y;have hr:A3 (buf.length+1) 4=true:=by unfold A3;exact decide_eq_true (by omega)
   simp only[F53,A6I,A83,gd,kC,kP,kO,aB,cond_true,L3,fg,e,oB1,gB1,hr,U9 (i:=i) (by omega)];refine F4 (P:=P) (fun _=>?_) (fun _=>?_)
   ·exact l53 hs h2 n (i+1) (buf++[y]) (by omega) (by omega) (by rw[Bb];simp;omega)
   ·exact l53 hs h2 n (i+1) (buf++[-1]) (by omega) (by omega) (by rw[Bb];simp;omega)
  ·have bR:i=l.length:=by omega
   have aB:decide ((i:Int)<(l.length:Int))=false:=decide_eq_false (by omega);simp only[F53,A6I,A83,gd,kC,kP,kO,aB,cond_false];subst bR;exact h2 buf a3
end
theorem C7i{l:List Int}(hs:l.length≤1099511627776):∃ t b,A2P l=some (.tup [.str t,.bool b])∧t.length≤4*l.length:=by
 let P:Option E6→Prop:=fun o=>∃ t b,o=some (.tup [.str t,.bool b])∧t.length≤4*l.length
 show P (A2P l);simp only[A2P,A65,A8N,gd,kC,kP,kO];refine B8n (P:=P) hs ?_ ?_ NN 0 [] (by omega) (by rw[NNv];omega) (by simp)
 ·exact⟨[],false,rfl,by simp⟩
 ·intro b hb;exact⟨_,true,rfl,by simpa using hb⟩
theorem B9W{l:List Int}(a1:Bool)(hs:l.length≤1099511627776):∃ s:List Int,F53 l a1=some (.one (.sl .i32 s (some 1)))∧s.length≤l.length+2∧∃ x:Int,s[l.length]?=some x∧x<0:=by
 let P:Option E6→Prop:=fun o=>∃ s:List Int,o=some (.one (.sl .i32 s (some 1)))∧s.length≤l.length+2∧∃ x:Int,s[l.length]?=some x∧x<0
 show P (F53 l a1);simp only[F53,A6I,A83,gd,kC,kP,kO];refine l53 (P:=P) hs ?_ NN 0 [] (by omega) (by rw[NNv];omega) rfl;intro b hb;have r1:A3 (b.length+1) 4=true:=by unfold A3;exact decide_eq_true (by omega)
 have r2:A3 ((b++[(-1:Int)]).length+1) 4=true:=by unfold A3;exact decide_eq_true (by simp;omega)
 simp only[r1,r2,cond_true];refine F4 (P:=P) (fun _=>?_) (fun _=>?_)
 ·refine⟨_,rfl,by simp;omega, -1,?_,by decide⟩;rw[←hb];simp
 ·refine⟨_,rfl,by simp;omega, -2,?_,by decide⟩;rw[←hb];simp
structure Stp(s:List Int)(M:Nat):Prop where
 x:∃ x:Int,s[M]?=some x∧x<0
 pos:∀ j,j<M→∃ y:Int,s[j]?=some y∧0≤y
 sz:M≤1048576
theorem Stp.at{s:List Int}{M i:Nat}(h:Stp s M)(hi:i≤M):∃ y:Int,s[i]?=some y∧(0≤y→i<M)∧(y<0→i=M):=by
 rcases Ej i M with h1|h1
 ·obtain⟨y,h2,h3⟩:=h.pos i h1;exact⟨y,h2,fun _=>h1,fun h4=>by omega⟩
 ·obtain⟨x,h2,h3⟩:=h.x;have:i=M:=by omega
  subst this;exact⟨x,h2,fun h4=>by omega,fun _=>rfl⟩
theorem beqT{b:Bool}:((b==true)=true)=(b=true):=by cases b<;>simp
theorem beqF{b:Bool}:((b==false)=true)=(b=false):=by cases b<;>simp
section
variable {R:Type}{P:Option R→Prop}{s:List Int}{M:Nat}
theorem B6h{nn:Nat}{a1:Int}{k2:Int→Bool→Option R}(hs:Stp s M):∀(n i:Nat),i≤M→M<n+i→(∀ j b,i≤j→j≤M→(∀ y,s[i]?=some y→inF y A01=true→i<j)→P (k2 ((j:Nat):Int) b))→P (A4u nn s a1 n (i:Int) k2)
 |0,i,a2,a3,_=>by omega
 |n+1,i,a2,a3,h2=>by
  obtain⟨y,hy,hp,hn⟩:=hs.at a2;have aC:=hs.sz;unfold A4u;simp only[A3i,A8Q,B2U,gd,kC,kP,kO,L3,hy,B7g,oB1,gB1,cond_true,U9 (i:=i) (by omega)];refine F4 (P:=P) (fun hc=>?_) (fun hc=>?_)
  ·have h0:0≤y:=by
    rw[Dc]at hc;rcases hc with hc|hc<;>exact B63 hc
   have:=hp h0;exact B6h hs n (i+1) (by omega) (by omega) fun j b h3 h4 _=>h2 j b (by omega) h4 fun _ _ _=>by omega
  ·refine h2 i _ (Bd _) a2 fun y' oO hl=>?_;rw[hy]at oO;cases oO;rw[hl]at hc;cases hc
theorem D1n(hs:Stp s M){i:Nat}(hi:i≤M):∃ j:Nat,A3i s (i:Int)=some (.one (.int .i64 (j:Int)))∧i≤j∧j≤M∧(∀ y,s[i]?=some y→inF y A01=true→i<j):=by
 let P:Option E6→Prop:=fun o=>∃ j:Nat,o=some (.one (.int .i64 (j:Int)))∧i≤j∧j≤M∧(∀ y,s[i]?=some y→inF y A01=true→i<j)
 show P (A3i s (i:Int));have aC:=hs.sz;simp only[A3i,A8Q,B2U,gd,kC,kP,kO];exact B6h (P:=P) hs NN i hi (by rw[NNv];omega) fun j b h1 h2 h3=>⟨j,rfl,h1,h2,h3⟩
theorem B6Y{nn:Nat}{a1:Int}{k2:Int→Bool→Option R}(hs:Stp s M):∀(n i:Nat),i≤M→M<n+i→(∀ j b y,i≤j→j≤M→s[j]?=some y→(y<0∨y=10∨y=13)→P (k2 ((j:Nat):Int) b))→P (A4x nn s a1 n (i:Int) k2)
 |0,i,a2,a3,_=>by omega
 |n+1,i,a2,a3,h2=>by
  obtain⟨y,hy,hp,hn⟩:=hs.at a2;have aC:=hs.sz;unfold A4x;simp only[A2L,A6d,A8e,A88,gd,kC,kP,kO,L3,hy,U9 (i:=i) (by omega)];have stop:∀ b,(y<0∨y=10∨y=13)→P (k2 (i:Int) b):=fun b h=>h2 i b y (Bd _) a2 hy h;refine F4 (P:=P) (fun hc=>?_) (fun hc=>?_)
  ·rw[beqT]at hc;have h0:=of_decide_eq_true hc;have aB:=hp h0;refine F4 (P:=P) (fun hc=>?_) (fun hc=>?_)
   ·refine F4 (P:=P) (fun hc=>?_) (fun hc=>?_)
    ·exact B6Y hs n (i+1) (by omega) (by omega) fun j b y h3 h4=>h2 j b y (by omega) h4
    ·exact stop _ (.inr (.inr (by simpa using hc)))
   ·have:y=10:=by
     cases h:(y !=10)with
     |true=>rw[h]at hc;cases hc
     |false=>simpa using h
    exact stop _ (.inr (.inl this))
  ·have:¬(y≥0):=fun h=>by rw[decide_eq_true h]at hc;cases hc
   exact stop _ (.inl (by omega))
theorem B3S{nn:Nat}{a1:Int}{k2:Int→Option R}(hs:Stp s M)(lG:M<nn):∀(n i:Nat),i≤M→M<n+i→(∀ j,i≤j→j≤M→P (k2 ((j:Nat):Int)))→P (A3j nn s a1 n (i:Int) k2)
 |0,i,a2,a3,_=>by omega
 |n+1,i,a2,a3,h2=>by
  obtain⟨y,hy,hp,hn⟩:=hs.at a2;have aC:=hs.sz;obtain⟨b,e,hb⟩:=D0V y;unfold A3j;simp only[A2L,A6d,A8e,A88,gd,kC,kP,kO,L3,hy,e,oB1,gB1,cond_true,U9 (i:=i) (by omega)];refine F4 (P:=P) (fun hc=>?_) (fun hc=>?_)
  ·have aB:=hp (hb hc);exact B3S hs lG n (i+1) (by omega) (by omega) fun j h3 h4=>h2 j (by omega) h4
  ·refine F4 (P:=P) (fun hc=>?_) (fun hc=>?_)
   ·exact h2 i (Bd _) a2
   ·have AF:y=35:=by simpa using hc
    refine B6Y hs nn i a2 (by omega) fun j b y' h3 h4 oO hx=>?_;have az:i≠j:=fun e=>by
     subst e;rw[hy]at oO;cases oO;omega
    exact B3S hs lG n j h4 (by omega) fun j' h5 h6=>h2 j' (by omega) h6
theorem D0Z(hs:Stp s M){i:Nat}(hi:i≤M):∃ j:Nat,A2L s (i:Int)=some (.one (.int .i64 (j:Int)))∧i≤j∧j≤M:=by
 let P:Option E6→Prop:=fun o=>∃ j:Nat,o=some (.one (.int .i64 (j:Int)))∧i≤j∧j≤M
 show P (A2L s (i:Int));have aC:=hs.sz;simp only[A2L,A6d,A8e,A88,gd,kC,kP,kO];exact B3S (P:=P) hs (by rw[NNv];omega) NN i hi (by rw[NNv];omega) fun j h1 h2=>⟨j,rfl,h1,h2⟩
end
theorem C3G(x:Int):∃ k,A3e x=some (.one (.int .i64 k)):=by
 let P:Option E6→Prop:=fun o=>∃ k,o=some (.one (.int .i64 k))
 show P (A3e x);simp only[A3e,gd,kC,kP,kO]
 repeat' (refine F4 (P:=P) (fun _=>?_) (fun _=>?_))
 all_goals exact⟨_,rfl⟩
theorem D0u(x c:Int):∃ k,A1P x c=some (.one (.int .i64 k))∧(c<0→k<0):=by
 by_cases hc:c<0
 ·let P:Option E6→Prop:=fun o=>∃ k,o=some (.one (.int .i64 k))∧(c<0→k<0)
  show P (A1P x c);have h1:decide (c≥48)=false:=decide_eq_false (by omega);have h2:(c==45)=false:=by simp;omega
  have h3:(c==48)=false:=by simp;omega
  have h4:(c==46)=false:=by simp;omega
  have h5:(c==101)=false:=by simp;omega
  have h6:(c==69)=false:=by simp;omega
  have h7:(c==43)=false:=by simp;omega
  simp only[A1P,gd,kC,kP,kO,h1,h2,h3,h4,h5,h6,h7]
  repeat' (refine F4 (P:=P) (fun _=>?_) (fun _=>?_))
  all_goals first|exact⟨_,rfl,fun _=>by decide⟩|exact absurd (by assumption:(false==true)=true) (by decide)|exact absurd (by assumption:(false==false)=false) (by decide)|exact absurd (by assumption:false=true) (by decide)
 ·let P:Option E6→Prop:=fun o=>∃ k,o=some (.one (.int .i64 k))∧(c<0→k<0)
  show P (A1P x c);simp only[A1P,gd,kC,kP,kO]
  repeat' (refine F4 (P:=P) (fun _=>?_) (fun _=>?_))
  all_goals exact⟨_,rfl,fun h=>absurd h hc⟩
section
variable {R:Type}{P:Option R→Prop}{s:List Int}{M:Nat}
theorem A1T{α:Type}{l:List α}{i:Nat}{y:α}(h:l[i]?=some y):i<l.length:=(Dk.1 h).1
theorem B2R{nn:Nat}{a1:Int}{k1:Int→Int→Int→Option R}{k3:Int→Int→Int→Int→Bool→Option R}(hs:Stp s M)(i0:Nat)(h1:∀(j:Nat) a b,i0≤j→j≤M→P (k1 (j:Int) a b)):
  ∀(n i x7:Nat)(x8 x9:Int),i≤M→M<n+i→i0≤x7→x7≤i→P (A5c nn s a1 n (x7:Int) x8 x9 (i:Int) k1 k3)
 |0,i,x7,x8,x9,a2,a3,_,_=>by omega
 |n+1,i,x7,x8,x9,a2,a3,a4,a5=>by
  obtain⟨y,hy,hp,hn⟩:=hs.at a2;have aC:=hs.sz;have hl:=A1T hy;obtain⟨k,e,hk⟩:=D0u x9 y;obtain⟨k',e'⟩:=C3G k;have aB:decide ((i:Int)<(s.length:Int))=true:=decide_eq_true (by omega);unfold A5c;simp only[A2H,A8v,B2K,gd,kC,kP,kO,aB,cond_true,L3,hy,e,e',oI,gI,U9 (i:=i) (by omega)];refine F4 (P:=P) (fun hc=>?_) (fun hc=>?_)
  ·exact h1 x7 _ _ a4 (by omega)
  ·have eB:¬k<0:=fun h=>by rw[decide_eq_true h]at hc;cases hc
   have aB:=hp (by rcases Int.lt_or_le y 0 with h|h;exact absurd (hk h) eB;exact h);refine F4 (P:=P) (fun hc=>?_) (fun hc=>?_)
   ·exact B2R hs i0 h1 n (i+1) (i+1) _ _ (by omega) (by omega) (by omega) (by omega)
   ·exact B2R hs i0 h1 n (i+1) x7 _ _ (by omega) (by omega) (by omega) (by omega)
theorem C5V(hs:Stp s M){i:Nat}(hi:i≤M):∃(j:Nat)(a b:Int),A2H s (i:Int)=some (.tup [.int .i64 (j:Int),.int .i64 a,.int .i64 b])∧i≤j∧j≤M:=by
 let P:Option E6→Prop:=fun o=>∃(j:Nat)(a b:Int),o=some (.tup [.int .i64 (j:Int),.int .i64 a,.int .i64 b])∧i≤j∧j≤M
 show P (A2H s (i:Int));have aC:=hs.sz;obtain⟨y,hy,_,_⟩:=hs.at hi;have hl:=A1T hy;have d1:decide ((i:Int)<0)=false:=decide_eq_false (by omega);have d2:decide ((i:Int)>(s.length:Int))=false:=decide_eq_false (by omega);simp only[A2H,A8v,B2K,gd,kC,kP,kO,d1,d2,beq_self_eq_true,cond_true,cond_false];exact B2R (P:=P) hs i (fun j a b h1 h2=>⟨j,a,b,rfl,h1,h2⟩) NN i i 0 0 hi (by rw[NNv];omega) (Bd _) (Bd _)
theorem o3i(a b c:Int):okR [.int .i64,.int .i64,.int .i64] (some (.tup [.int .i64 a,.int .i64 b,.int .i64 c]):Option E6)=true:=rfl
theorem B3G(a:Int)(r:List L6):lI (gL (some (.tup (.int .i64 a::r)):Option E6) 0)=a:=rfl
theorem A4j(l:L6)(a:Int)(r:List L6):lI (gL (some (.tup (l::.int .i64 a::r)):Option E6) 1)=a:=rfl
theorem C9g(l l':L6)(a:Int)(r:List L6):lI (gL (some (.tup (l::l'::.int .i64 a::r)):Option E6) 2)=a:=rfl
theorem C2Y(hs:Stp s M){i:Nat}(hi:i≤M):∃(j:Nat)(k:Int),A0J s (i:Int)=some (.tup [.int .i64 (j:Int),.int .i64 k])∧i≤j∧j≤M∧(k=1∨((k=4∨k=5)∧i<j)):=by
 let P:Option E6→Prop:=fun o=>∃(j:Nat)(k:Int),o=some (.tup [.int .i64 (j:Int),.int .i64 k])∧i≤j∧j≤M∧(k=1∨((k=4∨k=5)∧i<j))
 show P (A0J s (i:Int));obtain⟨j,a,b,e,h1,h2⟩:=C5V hs hi;obtain⟨y,hy,_,_⟩:=hs.at h2;simp only[A0J,gd,kC,kP,kO,e,o3i,B3G,A4j,C9g,cond_true,L3,hy,B7g,oB1,gB1];have fm:P (some (.tup [.int .i64 (i:Int),.int .i64 1])):=⟨i,1,rfl,Bd _,hi,.inl rfl⟩;have good:∀ k,(k=4∨k=5)→((j:Int)==(i:Int))=false→P (some (.tup [.int .i64 (j:Int),.int .i64 k])):=fun k hk az=>⟨j,k,rfl,h1,h2,.inr ⟨hk,by
  have:(j:Int)≠(i:Int):=by simpa using az
  omega⟩⟩
 cases ee:(j:Int)==(i:Int)with
 |true=>exact fm
 |false=>
  simp only[beq_self_eq_true,cond_true]
  repeat' (refine F4 (P:=P) (fun _=>?_) (fun _=>?_))
  all_goals first|exact fm|exact good 4 (.inl rfl) ee|exact good 5 (.inr rfl) ee
end
theorem V2{i k:Nat}(h:i+k≤4611686018427387904):Bh .i64 ((i:Int)+(k:Int))=((i+k:Nat):Int):=by
 rw[N3 (by omega) (by omega)];omega
section
variable {R:Type}{P:Option R→Prop}{s:List Int}{M:Nat}
theorem A9p(hs:Stp s M){i:Nat}(hi:i≤M){c:Int}(hc:0≤c):∃ b,A08 s (i:Int) c=some (.one (.bool b))∧(b=true→i+3≤M):=by
 let P:Option E6→Prop:=fun o=>∃ b,o=some (.one (.bool b))∧(b=true→i+3≤M)
 show P (A08 s (i:Int) c);have aC:=hs.sz;obtain⟨y,hy,hp,hn⟩:=hs.at hi;have w1:Bh .i64 ((i:Int)+1)=((i+1:Nat):Int):=V2 (k:=1) (by omega);have w2:Bh .i64 ((i:Int)+2)=((i+2:Nat):Int):=V2 (k:=2) (by omega);have no:P (some (.one (.bool false))):=⟨false,rfl,fun h=>by cases h⟩;simp only[A08,gd,kC,kP,kO,w1,w2,L3,hy];refine F4 (P:=P) (fun h1=>?_) (fun _=>no);have au:i+2<s.length:=by
  have:=of_decide_eq_true (beqT.mp h1);omega
 have g1:s[i+1]?=some s[i+1]:=Bn (by omega);have g2:s[i+2]?=some s[i+2]:=Bn au;generalize s[i+1]=y1 at*;generalize s[i+2]=y2 at*;simp only[g1,g2];refine F4 (P:=P) (fun h2=>?_) (fun _=>no);refine F4 (P:=P) (fun h3=>?_) (fun _=>no);refine⟨_,rfl,fun h4=>?_⟩;have e0:y=c:=by simpa using h2
 have e1:y1=c:=by simpa using h3
 have e2:y2=c:=by simpa using h4
 have k0:=hp (by omega);obtain⟨z1,q1,q2,_⟩:=hs.at (i:=i+1) (by omega);rw[g1]at q1;cases q1;have k1:=q2 (by omega);obtain⟨z2,q3,q4,_⟩:=hs.at (i:=i+2) (by omega);rw[g2]at q3;cases q3;have k2:=q4 (by omega);omega
theorem B31{nn:Nat}{a1:Int}{k2:Int→Option R}{k3:Int→Bool→Option R}(hs:Stp s M)(i0:Nat)(h2:∀ j:Nat,i0+3≤j→j≤M→P (k2 (j:Int)))(h3:∀ j b,P (k3 j b)):
  ∀(n i:Nat),i≤M→M<n+i→i0≤i→P (A3X nn s a1 n (i:Int) k2 k3)
 |0,i,a2,a3,_=>by omega
 |n+1,i,a2,a3,a4=>by
  obtain⟨y,hy,hp,hn⟩:=hs.at a2;have aC:=hs.sz;have w1:Bh .i64 ((i:Int)+1)=((i+1:Nat):Int):=V2 (k:=1) (by omega);have w3:Bh .i64 ((i:Int)+3)=((i+3:Nat):Int):=V2 (k:=3) (by omega);have w4:Bh .i64 ((i:Int)+4)=((i+4:Nat):Int):=V2 (k:=4) (by omega);obtain⟨b,e,hb⟩:=A9p hs a2 (c:=34) (by decide);unfold A3X;simp only[A23,A7V,B2W,gd,kC,kP,kO,L3,hy,w1,w3,w4,e,oB1,gB1,cond_true];refine F4 (P:=P) (fun hc=>?_) (fun _=>h3 _ _);have aB:=hp (of_decide_eq_true hc);obtain⟨b',e',bw⟩:=A9p hs (i:=i+1) (by omega) (c:=34) (by decide);simp only[e',oB1,gB1,cond_true];have next:P (A3X nn s a1 n ((i+1:Nat):Int) k2 k3):=B31 hs i0 h2 h3 n (i+1) (by omega) (by omega) (by omega);refine F4 (P:=P) (fun hc=>?_) (fun hc=>?_)
  ·refine F4 (P:=P) (fun hc=>?_) (fun hc=>?_)
   ·have:=bw hc;exact B31 hs i0 h2 h3 n (i+4) (by omega) (by omega) (by omega)
   ·refine F4 (P:=P) (fun hc=>?_) (fun hc=>next);exact h2 (i+3) (by omega) (hb hc)
  ·simp only[cond_false];refine F4 (P:=P) (fun hc=>?_) (fun hc=>next);exact h2 (i+3) (by omega) (hb hc)
theorem C2D(hs:Stp s M){i:Nat}(hi:i+3≤M):∃ j:Nat,A23 s (i:Int)=some (.one (.int .i64 (j:Int)))∧(j=i∨(i+6≤j∧j≤M)):=by
 let P:Option E6→Prop:=fun o=>∃ j:Nat,o=some (.one (.int .i64 (j:Int)))∧(j=i∨(i+6≤j∧j≤M))
 show P (A23 s (i:Int));have aC:=hs.sz;have w3:Bh .i64 ((i:Int)+3)=((i+3:Nat):Int):=V2 (k:=3) (by omega);simp only[A23,A7V,B2W,gd,kC,kP,kO,w3];exact B31 (P:=P) hs (i+3) (fun j h1 h2=>⟨j,rfl,.inr ⟨by omega,h2⟩⟩) (fun j b=>⟨i,rfl,.inl rfl⟩) NN (i+3) hi (by rw[NNv];omega) (Bd _)
theorem B1x{nn:Nat}{a1:Int}{k1:Int→Option R}{k3:Int→Bool→Option R}(hs:Stp s M)(i0:Nat)(h0:P (k1 a1))(h1:∀ j:Nat,i0+1≤j→j≤M→P (k1 (j:Int)))(h3:∀ j b,P (k3 j b)):
  ∀(n i:Nat),i≤M→M<n+i→i0≤i→P (A2C nn s a1 n (i:Int) k1 k3)
 |0,i,a2,a3,_=>by omega
 |n+1,i,a2,a3,a4=>by
  obtain⟨y,hy,hp,hn⟩:=hs.at a2;have aC:=hs.sz;have w1:Bh .i64 ((i:Int)+1)=((i+1:Nat):Int):=V2 (k:=1) (by omega);unfold A2C;simp only[A3W,A7X,B1s,gd,kC,kP,kO,L3,hy,w1];refine F4 (P:=P) (fun hc=>?_) (fun _=>h3 _ _);have aB:=hp (of_decide_eq_true (beqT.mp hc));obtain⟨y',oO,sB,AG⟩:=hs.at (i:=i+1) (by omega);have w2:Bh .i64 (((i+1:Nat):Int)+1)=((i+1+1:Nat):Int):=V2 (k:=1) (by omega);simp only[oO,w2];have next:P (A2C nn s a1 n ((i+1:Nat):Int) k1 k3):=B1x hs i0 h0 h1 h3 n (i+1) (by omega) (by omega) (by omega);refine F4 (P:=P) (fun hc=>?_) (fun _=>h3 _ _);refine F4 (P:=P) (fun hc=>?_) (fun _=>h3 _ _);refine F4 (P:=P) (fun hc=>?_) (fun hc=>?_)
  ·exact h1 (i+1) (by omega) (by omega)
  refine F4 (P:=P) (fun hc=>?_) (fun hc=>next);refine F4 (P:=P) (fun hc=>?_) (fun hc=>?_)
  ·have zL:¬y'<0:=fun h=>by rw[decide_eq_true h]at hc;cases hc
   have nQ:=sB (by omega);have rB:P (A2C nn s a1 n ((i+1+1:Nat):Int) k1 k3):=B1x hs i0 h0 h1 h3 n (i+2) (by omega) (by omega) (by omega);refine F4 (P:=P) (fun hc=>?_) (fun hc=>?_)
   ·exact F4 (P:=P) (fun _=>h0) (fun _=>rB)
   ·simp only[cond_true];exact h0
  ·simp only[cond_true];exact h0
theorem C8N(hs:Stp s M){i:Nat}(hi:i<M):∃ j:Nat,A3W s (i:Int)=some (.one (.int .i64 (j:Int)))∧(j=i∨(i+2≤j∧j≤M)):=by
 let P:Option E6→Prop:=fun o=>∃ j:Nat,o=some (.one (.int .i64 (j:Int)))∧(j=i∨(i+2≤j∧j≤M))
 show P (A3W s (i:Int));have aC:=hs.sz;have w1:Bh .i64 ((i:Int)+1)=((i+1:Nat):Int):=V2 (k:=1) (by omega);simp only[A3W,A7X,B1s,gd,kC,kP,kO,w1];exact B1x (P:=P) hs (i+1) ⟨i,rfl,.inl rfl⟩ (fun j h1 h2=>⟨j,rfl,.inr ⟨by omega,h2⟩⟩) (fun j b=>⟨i,rfl,.inl rfl⟩) NN (i+1) (by omega) (by rw[NNv];omega) (Bd _)
theorem B5t{nn:Nat}{i:Nat}{t:List UInt8}{k1:Int→Option R}{k3:(List UInt8)→Int→Bool→Option R}{y:Int}(hs:t.length≤1000)(hy:s[i]?=some y)(hi:i≤1048576)(h1:0≤y→P (k1 ((i+1:Nat):Int)))(h3:∀ j b,P (k3 t j b)):
  ∀(n x:Nat),x≤t.length→t.length<n+x→P (A5m nn s (i:Int) n t (x:Int) k1 k3)
 |0,x,a2,a3=>by omega
 |n+1,x,a2,a3=>by
  unfold A5m;have w1:Bh .i64 ((i:Int)+1)=((i+1:Nat):Int):=V2 (k:=1) (by omega);by_cases hx:x<t.length
  ·have fg:t[x]?=some t[x]:=Bn hx;generalize t[x]=z at*;have aB:decide ((x:Int)<(t.length:Int))=true:=decide_eq_true (by omega);have hz:=z.toNat_lt;have hw:Bh .i32 ((z.toNat:Nat):Int)=((z.toNat:Nat):Int):=B4U (by omega) (by omega);simp only[A2l,A6a,A8J,gd,kC,kP,kO,aB,cond_true,L3,fg,hy,hw,w1,U9 (i:=x) (by omega)];refine F4 (P:=P) (fun hc=>?_) (fun hc=>?_)
   ·have:y=((z.toNat:Nat):Int):=by simpa using hc
    exact h1 (by omega)
   ·exact B5t hs hy hi h1 h3 n (x+1) (by omega) (by omega)
  ·have aB:decide ((x:Int)<(t.length:Int))=false:=decide_eq_false (by omega);simp only[A2l,A6a,A8J,gd,kC,kP,kO,aB,cond_false];exact h3 _ _
theorem C5s(hs:Stp s M){i:Nat}(hi:i≤M):∃ j:Nat,A2l s (i:Int)=some (.one (.int .i64 (j:Int)))∧i≤j∧j≤M:=by
 let P:Option E6→Prop:=fun o=>∃ j:Nat,o=some (.one (.int .i64 (j:Int)))∧i≤j∧j≤M
 show P (A2l s (i:Int));have aC:=hs.sz;obtain⟨y,hy,hp,hn⟩:=hs.at hi;obtain⟨b,e,hb⟩:=A9p hs hi (c:=46) (by decide);have w3:Bh .i64 ((i:Int)+3)=((i+3:Nat):Int):=V2 (k:=3) (by omega);simp only[A2l,A6a,A8J,gd,kC,kP,kO,e,oB1,gB1,cond_true,w3];refine B5t (P:=P) (by decide) hy (by omega) (fun h=>⟨i+1,rfl,by omega,by have:=hp h;omega⟩) (fun j b'=>?_) NN 0 (by omega) (by rw[NNv];decide);refine F4 (P:=P) (fun hc=>?_) (fun hc=>?_)
 ·exact⟨i+3,rfl,by omega,hb hc⟩
 ·exact⟨i,rfl,by omega,by omega⟩
end
end Go.Aev
namespace Go.Aev.Bv
open Go.Proofs Go.Lib
theorem C45(cur x:List Int):H3 cur (10::x)=cur::H3 [] x:=by rw[W4,A2T];simp
theorem C4r:btF []=([34,34,34,34,34,34],true):=by rw[A69,if_pos rfl]
theorem C1u(l:List Int)(h:Q6 l=true):(E3 l).all M8=true:=by
 fun_induction E3 l with
 |case1 r ih=>exact ih h
 |case2 c r az ih=>
  have he:M3 (c::r)=false:=by
   cases he:M3 (c::r)with
   |false=>rfl
   |true=>
    obtain⟨z,hz⟩:=A26.1 he;simp only[Cu]at hz;exact absurd hz.2 (fun e=>az z hz.1 e)
  rw[A9M he]at h;split at h
  ·cases h
  ·rename_i hc;simp only[Dc,Ea,not_or,Bool.not_eq_false]at hc;rw[Dm,hc.1,ih h];rfl
 |case3=>rfl
def clean(c:Int):Bool:=M8 c&&(!(c==10)&& !(c==13))
theorem A5R:∀(m cur:List Int),cur.all clean=true→m.all M8=true→∀ l∈H3 cur m,l.all clean=true
 |[],cur,hc,_,l,hl=>by simp[H3]at hl;rw[hl];exact hc
 |c::r,cur,hc,hm,l,hl=>by
  simp only[Dm,Bl]at hm;rw[W4,A2T]at hl;by_cases fh:c=10
  ·rw[if_pos fh]at hl;simp only[if_true]at hl;rcases Bp.1 hl with rfl|hl
   ·exact hc
   ·exact A5R r [] rfl hm.2 l hl
  ·rw[if_neg fh]at hl;by_cases iw:c=13
   ·rw[if_pos iw,if_pos iw]at hl;split at hl
    ·rcases Bp.1 hl with rfl|hl
     ·exact hc
     ·exact A5R r [] rfl hm.2 l hl
    ·exact A5R r cur hc hm.2 l hl
   ·rw[if_neg iw,if_neg iw]at hl;simp only[Bool.false_eq_true,if_false]at hl;refine A5R r _ ?_ hm.2 l hl;rw[Fa,hc];simp[clean,hm.1,fh,iw]
theorem B0U:∀(l cur x:List Int),l.all clean=true→H3 cur (l++x)=H3 (cur++l) x
 |[],cur,x,_=>by simp
 |c::r,cur,x,h=>by
  simp only[Dm,Bl]at h;have hc:=h.1;simp only[clean,Bl,Ea,beq_eq_false_iff_ne]at hc;rw[Ey,A2n _ _ _ hc.2.1 hc.2.2,B0U r _ x h.2];simp
theorem B54:∀(D:List (List Int)),D≠[]→(∀ x∈D,x.all clean=true)→B4 (H7 D)=D
 |[l],_,h=>by
  have e:H7 [l]=l++[]:=by simp[H7]
  have:=B0U l [] [] (h l Bz);rw[e];unfold B4;rw[this];simp[H3]
 |l::x::r,_,h=>by
  rw[A7W (by simp)];have ih:=B54 (x::r) (by simp) fun y hy=>h y (Cn _ hy);unfold B4 at ih ⊢;rw[B0U l [] _ (h l Bz),C45,ih];simp
theorem B7i{p:Int→Bool}(fh:p 10=true):∀(D:List (List Int)),(∀ x∈D,x.all p=true)→(H7 D).all p=true
 |[],_=>rfl
 |[l],h=>by
  have e:H7 [l]=l:=by simp[H7]
  rw[e];exact h l Bz
 |l::x::r,h=>by
  rw[A7W (by simp),Fa,Dm,h l Bz,fh,B7i fh (x::r) fun y hy=>h y (Cn _ hy)];rfl
theorem C1R{c:Int}{ls:List (List Int)}{x:List Int}(h:x∈A0O c ls):∃ y∈ls,∃ n,x=y.drop n:=by
 unfold A0O at h;rcases Cy.1 h with h|h
 ·exact⟨x,List.mem_of_mem_take h,0,by simp⟩
 ·obtain⟨y,hy,rfl⟩:=Cm.1 h;exact⟨y,Du hy,_,rfl⟩
theorem C9I{p:Int→Bool}{ls:List (List Int)}(h:∀ x∈ls,x.all p=true):∀ x∈I5 ls,x.all p=true:=by
 intro x hx;have h1:=(B3H (N8 ls)).subset hx;rw[A9t]at h1;obtain⟨y,hy,n,rfl⟩:=C1R h1;exact Cj.2 fun z hz=>Cj.1 (h y hy) z (Du hz)
theorem C51{X:List (List Int)}{x:List Int}(h:x∈X)(hb:B5 x=false):x∈Q5 X:=by
 have keep:∀(l:List (List Int)),x∈l→x∈l.dropWhile B5:=fun l hl=>by
  rw[←Em (p:=B5) (l:=l)]at hl;rcases Cy.1 hl with hl|hl
  ·have:=Cj.1 (List.all_takeWhile (p:=B5) (l:=l)) x hl;rw[hb]at this;cases this
  ·exact hl
 unfold Q5;exact Ds.2 (keep _ (Ds.2 (keep _ h)))
theorem B6m{l:List (List Int)}{x:List Int}{r:List (List Int)}(h:l.dropWhile B5=x::r):B5 x=false:=by
 induction l with
 |nil=>cases h
 |cons a t ih=>
  cases hb:B5 a with
  |true=>rw[Ev hb]at h;exact ih h
  |false=>
   rw[Dw (by rw[hb];simp)]at h;simp only[Cu]at h;rw[←h.1];exact hb
theorem B71{X:List (List Int)}(h:Q5 X≠[]):B5 ((Q5 X).headD [])=false∧B5 ((Q5 X).getLastD [])=false:=by
 have dl:X.dropWhile B5=Q5 X++((X.dropWhile B5).reverse.takeWhile B5).reverse:=by
  unfold Q5;rw[←List.reverse_append,Em,En]
 constructor
 ·match hD:Q5 X,h with
  |a::t,_=>
   rw[hD,Ey]at dl;exact B6m dl
 ·have hr:(Q5 X).reverse=(X.dropWhile B5).reverse.dropWhile B5:=by unfold Q5;rw[En]
  have az:(Q5 X).reverse≠[]:=by simpa using h
  rw[List.getLastD_eq_getLast?,List.getLast?_eq_head?_reverse]
  match hZ:(Q5 X).reverse,az with
  |a::t,_=>
   rw[hZ]at hr;exact B6m hr.symm
theorem C4X{x:List Int}{r:List (List Int)}(h:∀ y∈r,B5 y=true):(Q5 (x::r)).length≤1:=by
 unfold Q5;rw[List.length_reverse];cases hb:B5 x with
 |true=>
  have:(x::r).dropWhile B5=[]:=by
   rw[Ev hb];have:=Ew (p:=B5) (l₁:=r) (l₂:=[]) h;simpa using this
  rw[this];simp
 |false=>
  rw[Dw (by rw[hb];simp),List.reverse_cons,Ew (fun y hy=>h y (Ds.1 hy)),Dw (by rw[hb];simp)];simp
theorem B9v:∀(ls:List (List Int))(m:Int),U0 m ls=m∨∃ l∈ls,B5 l=false∧G2 l=U0 m ls
 |[],m=>.inl rfl
 |x::ls,m=>by
  rw[B1J];rcases B9v ls (if !B5 x&&(decide (m<0)||decide (G2 x<m))then G2 x else m)with h|⟨l,hl,h1,h2⟩
  ·rw[h];split
   ·rename_i hc;simp only[Bl,Ea]at hc;exact .inr ⟨x,Bz,hc.1,rfl⟩
   ·exact .inl rfl
  ·exact .inr ⟨l,Cn _ hl,h1,h2⟩
theorem C9N(l:List Int):M5 (l.drop (M5 l))=0:=by
 induction l with
 |nil=>rfl
 |cons x r ih=>
  cases hw:J6 x with
  |true=>
   have e:M5 (x::r)=M5 r+1:=by rw[A2W,if_pos hw]
   rw[e,List.drop_succ_cons];exact ih
  |false=>
   have e:M5 (x::r)=0:=by rw[A2W,if_neg (by rw[hw];simp)]
   rw[e];exact e
theorem C7j{ls:List (List Int)}(az:I5 ls≠[]):S8 (I5 ls)=true:=by
 obtain⟨h1,h2⟩:=B71 (X:=N8 ls) az;have h3:(decide ((I5 ls).length=1)||(I5 ls).any A0s)=true:=by
  have hs:=(B3y (ls.drop 1) (-1)).2;rcases B9v (ls.drop 1) (-1)with h|⟨l,hl,hb,hi⟩
  ·have bO:∀ y∈ls.drop 1,B5 y=true:=fun y hy=>by
    cases hb:B5 y with
    |true=>rfl
    |false=>have:=hs y hy hb;omega
   have au:(I5 ls).length≤1:=by
    match ls,bO with
    |[],_=>exact Nat.le_of_lt_succ (by decide)
    |x::r,bO=>
     have rC:∀ y∈r,B5 y=true:=bO;have hc:N8 (x::r)=x::r.map fun l=>l.drop (U4 (x::r)).toNat:=rfl;show(Q5 (N8 (x::r))).length≤1;rw[hc];refine C4X fun y hy=>?_;obtain⟨z,hz,rfl⟩:=Cm.1 hy;exact Cj.2 fun a ha=>Cj.1 (rC z hz) a (Du ha)
   have:(I5 ls).length≠0:=fun e=>az (Et e);rw[decide_eq_true (by omega)];rfl
  ·have cD:l.drop (M5 l)∈N8 ls:=by
    rw[A9t];unfold A0O;refine List.mem_append_right _ (Cm.2 ⟨l,hl,?_⟩);rw[←hi];rfl
   have cj:B5 (l.drop (M5 l))=false:=by rw[C9d fun _=>Bd _];exact hb
   have cL:l.drop (M5 l)∈I5 ls:=C51 cD cj;have lC:A0s (l.drop (M5 l))=true:=by
    unfold A0s G2;rw[cj,C9N];rfl
   rw[Dx.2 ⟨_,cL,lC⟩,Cd]
 unfold S8;have e1:B5 ((I5 ls).headD [])=false:=h1;have e2:B5 ((I5 ls).getLastD [])=false:=h2;rw[e1,e2];exact h3
theorem C4O{l:List Int}(h:l.all clean=true):l.all okC=true:=Cj.2 fun x hx=>by
 have:=Cj.1 h x hx;simp only[clean,Bl]at this;simp only[okC,Bl];exact⟨this.1,this.2.2⟩
theorem block_again{l:List Int}(h:(W1 l).2=0):(btF (W1 l).1).2=true∧(C4 (W1 l).1).1.length≤2*l.length+1∧(W1 l).1.length≤8*l.length+4:=by
 rw[B9c]at h ⊢;cases hm:Q6 l with
 |false=>rw[hm]at h;cases h
 |true=>
  rw[hm]at h;cases ho:A2z (Y5 0 l)with
  |false=>rw[ho]at h;cases h
  |true=>
   have cm:∀ x∈I5 (B4 (E3 l)),x.all clean=true:=C9I (A5R _ [] rfl (C1u l hm));have cK:(H7 (I5 (B4 (E3 l)))).all okC=true:=B7i (by decide) _ fun x hx=>C4O (cm x hx);have hv:=B2m cK;have hd:=B8A _ hv;have t1:=B9D (B4 (E3 l));have t2:=A6N (E3 l);have t3:=B8x (I5 (B4 (E3 l)));have t4:(E3 l).length≤l.length:=B1F l;have t5:=A2p (H7 (I5 (B4 (E3 l))));simp only[Bool.and_self,if_true];rw[A6Y hv];dsimp only;refine⟨?_,?_,by omega⟩
   ·by_cases hD:I5 (B4 (E3 l))=[]
    ·rw[hD];exact congrArg Prod.snd C4r
    ·have vg:=B54 _ hD cm;have lC:=C7j hD;rw[A69,hd];dsimp only;rw[cK,vg,lC];have az:B3 (H7 (I5 (B4 (E3 l))))≠[]:=fun e=>by
      have hj:H7 (I5 (B4 (E3 l)))=[]:=by
       have:=C0b (H7 (I5 (B4 (E3 l))));rw[e]at this;exact Et (by simpa using this)
      rw[hj]at vg;have hb:=(B71 (X:=N8 (B4 (E3 l))) hD).1;have bw:B5 ((I5 (B4 (E3 l))).headD [])=false:=hb;rw[←vg]at bw;cases bw
     rw[if_neg az,if_neg (Nat.lt_irrefl _)];rfl
   ·rw[hd];dsimp only;omega
end Go.Aev.Bv
