/-
  Part 1 of what the claim leans on: contracts of the functions that the law reaches, and plain facts. Conditions: the theorems' own.
-/
import Derived.RangeFuncNested
import Derived.RangeFuncBound
import Derived.RangeFuncCalls
import Derived.RangeFuncLeaves
import Derived.WalkKit
import Derived.OwnWalkIn
import Derived.TacticsInMore
import Derived.LoopNIn
import Derived.LoopIn
import Derived.WalkLawsBesides
import Derived.WalkSpells
import Derived.Lib.Hide
import Derived.Lib.ValidU
import Derived.Deep.MidRow
import Derived.IntWalk
import Derived.Laws.AppendOwn
import Derived.Shelf.Abstract
import Derived.OrdersIn
import Derived.Scope
import Derived.MapKept
import Derived.Lib.Builder
import Derived.Lib.Strings
import Derived.Laws.Externs
import Derived.Laws.BytesArg
import Derived.RangeFuncBox
import Derived.BigQuiet
import Derived.Deep.QuietTactic
import Derived.ChangeSame
import Derived.Lib.AppendStr
import Derived.Laws.Tables
import Derived.Laws.OwnMore
import Derived.Shelf.RegionOpenPlain
import Derived.Deep.LoopGhost
import Derived.Sort.WalkB12
import Derived.Lib.SlicesMore
import Derived.Test.YtkfaoeobfigagaaGreatDoorProg
set_option linter.all false
set_option maxRecDepth 100000
set_option maxHeartbeats 16000000
namespace Go.Tm
open Go.Proofs Go.RowKit Go.Proofs.Tryz
variable{k:Nat}
def K9:=@List.getD_eq_getElem?_getD
def CV:=@List.getElem?_map
def Km:=@List.getElem?_eq_getElem
def OU:=@Option.map_some
def Q6:=@Nat.le_refl
def Qj:=@Nat.le_trans
def QW:=@Array.getElem?_eq_some_iff
def NH:=@Below.heap_alloc
def Sg:=@Below.heap_setCell
def N3:=@World.putObj_heap_other
def Qt:=@World.alloc_heap_new
def T5:=@World.size_alloc
def CI:=@World.putObj_heap_same
def J5:=@callsIn_wide
def Xg:=@List.mem_cons
def Zv:=@List.length_append
def Xf:=@List.length_cons
def nB:=@List.drop_eq_nil_of_le
def DT:=@List.getElem?_eq_some_iff
def Ji:=@List.length_take
def E5:=@List.getElem?_take_of_lt
def T6:=@List.getElem?_drop
def LM:=@Nat.add_assoc
def Jj:=@Nat.mul_comm
def Nc:=@List.take_succ_cons
def Nd:=@List.take_of_length_le
def L0:=@List.getElem_cons_succ
def ZC:=@List.getElem_of_mem
def Dq:=@List.drop_eq_getElem_cons
def Xi:=@Nat.zero_le
def Zp:=@List.getElem_mem
def F9:=@IntWalk.wrap64_in
def Qc:=@Lib.hid
def FR:=@List.drop_length
def X6:=@beq_eq_false_iff_ne
def Hx:=@ByteArray.toList_eq
def E6:=@ByteArray.ext
def BT:=@Bool.and_eq_false_iff
def Rg:=@decide_eq_false_iff_not
def wC:=@List.eq_nil_of_length_eq_zero
def Rh:=@run_underlying
def Z3:=@Nat.zero_add
def Aaa:=@Nat.add_mul
def FT:=@Nat.mul_le_mul_right
def Yz:=@World.ownsRow_nil
def CW:=@List.length_eq_zero_iff
def FU:=@List.drop_zero
def Hi:=@Option.map_eq_some_iff
def LO:=@Prod.mk.injEq
def Y0:=@List.cons_append
def Y1:=@List.append_assoc
def OV:=@run_append_own
def Vv:=@Sem.run_bind
def N4:=@Sem.run_pure
def Yd:=@Result.andThen_ok
def Zy:=@List.map_cons
def EV:=@List.map_nil
def Vj:=@cell_of_row
def Vp:=@List.length_nil
def FV:=@List.any_eq_true
def Vc:=@List.take_length
def OW:=@List.range_succ
def Vw:=@List.mem_range
def X3:=@enters_of
def VL:=@decide_eq_decide
def Qe:=@if_pos
def Qa:=@if_neg
def Yr:=@List.mem_cons_self
def Kk:=@List.mem_cons_of_mem
def X1:=@Bool.and_eq_true
def Y2:=@Bool.or_eq_true
def Vf:=@List.all_eq_true
def FA:=@Bool.not_eq_true'
def Zz:=@decide_eq_true_eq
def Eo:=@mem_ready
def OX:=@Array.getElem?_eq_getElem
def LP:=@List.pairwise_cons
def OY:=@List.pairwise_append
def NI:=@List.filterMap_append
def ZD:=@List.filterMap_cons
def Kn:=@List.mem_append
def OZ:=@getD_set_ne
def T7:=@List.mem_append_left
def Pa:=@List.range_succ_eq_map
def Gj:=@List.size_toArray
def MJ:=@List.getElem?_toArray
def Pb:=@MapKept.run_getObj_map
def VM:=@MapKept.run_checkKey
def VN:=@MapKept.run_findKey
def gU:=@MapKept.run_setObj_map
def Ka:=@List.map_map
def EW:=@List.map_congr_left
def Ye:=@Nat.mod_eq_of_lt
def Xq:=@List.mem_map
def Je:=@Lib.frozen_of_heap
def Gk:=@info_parts
def Rd:=@Lib.cell_of_heap
def LQ:=@wpList_append_own
def NJ:=@Lib.BuilderAt.put
def T8:=@run_convert_bytes_back
def Vq:=@List.length_map
def wD:=@Array.getElem?_toList
def Qdi:=@Array.replicate_succ
def Qdj:=@Array.replicate_zero
def VO:=@List.push_toArray
def nC:=@List.append_toArray
def Ri:=@List.nil_append
def Xs:=@bodyPost_ret
def Dr:=@results_none
def Nf:=@callsIn_of_wp
def Qgd:=@Array.getElem_modify_self
def Rj:=@Nat.pow_le_pow_right
def LR:=@Nat.mul_le_mul
def T9:=@Nat.and_two_pow_sub_one_eq_mod
def Gl:=@List.take_succ_eq_append_getElem
def FW:=@List.take_append_drop
def MK:=@List.getElem?_append_right
def L3:=@List.getElem?_append_left
def Hj:=@Nat.mod_lt
def Ng:=@Nat.two_pow_pos
def N5:=@Nat.mul_add
def TA:=@Nat.div_add_mod
def Vx:=@run_takeDeferred
def Vy:=@callsIn_of_wp_marks
def Pc:=@Nat.succ_mul
def Cb:=@Nat.pow_add
def CJ:=@Nat.zero_mul
def FX:=@Nat.sub_zero
abbrev Qv := List Nat
def Zi(xs:Qv)(i:Nat):Nat:=xs.getD i 0
abbrev Qo := ByteArray
def Qf(s:Qo):Qv:=s.data.toList.map (·.toNat)
def Q9(s:Qo):(Qf s).length=s.size:=by simp[Qf]
def Cc(s:Qo)(h:k<s.size):Zi (Qf s) k=(s[k]).toNat:=by
 have h':k<s.data.toList.length:=by simpa using h
 simp only[Zi,Qf,K9,CV,Km h',OU,Option.getD_some];rfl
def wF(s:Qo)(k:Nat):Zi (Qf s) k<256:=by
 unfold Zi Qf;rw[K9,CV];cases s.data.toList[k]? with
 |none=>simp
 |some c=>simpa using c.toNat_lt
def wG{P:Prop}(h:P:=by
 simp only[IntKind.wrap,IntKind.bits,IntKind.signed];simp;omega):P:=h
def X7{x:Int}(h0:0<=x)(h1:x<18446744073709551616):IntKind.u64.wrap x=x:=by
 exact wG
abbrev Qm := World
structure Ac(S:Nat->Obj->Prop)(w w':Qm):Prop where
 os:w'.os=w.os
 tape:w'.tape=w.tape
 output:w'.output=w.output
 size:w.heap.size<=w'.heap.size
 same:∀(b:Nat) (o:Obj),w.heap[b]? =some o->S b o->w'.heap[b]? =some o
abbrev All:Nat->Obj->Prop:=fun _ _=>True
abbrev Qd(w w':Qm):Prop:=Ac All w w'
section
variable{S S':Nat->Obj->Prop}{a b c w w':Qm}
def Ac.refl(S:Nat->Obj->Prop)(w:Qm):Ac S w w:=⟨rfl,rfl,rfl,Q6 _,fun _ _ h _=>h⟩
def Ac.trans(h:Ac S a b)(k:Ac S b c):Ac S a c:=
 ⟨k.os.trans h.os,k.tape.trans h.tape,k.output.trans h.output,Qj h.size k.size,fun i o q j=>k.same i o (h.same i o q j) j⟩
def Ac.mono(h:Ac S w w')(hs:∀b o,w.heap[b]? =some o->S' b o->S b o):Ac S' w w':=
 ⟨h.os,h.tape,h.output,h.size,fun b o j q=>h.same b o j (hs b o j q)⟩
def Ac.of_same(h:Qd w w'):Ac S w w':=h.mono fun _ _ _ _=>trivial
def Ac.drew(h:Ac S a w):Ac S a w.drew:=⟨h.os,h.tape,h.output,h.size,h.same⟩
def Ac.drewN(h:Ac S a w)(n:Nat):Ac S a (w.drewN n):=⟨h.os,h.tape,h.output,h.size,h.same⟩
def Qg{w:Qm}{b:Nat}{o:Obj}(h:w.heap[b]? =some o):b<w.heap.size:=(QW.1 h).1
def oM{p:Prop}(h:p:=by omega):p:=h
def dM{p:Prop}(h:p:=by decide):p:=h
def sM{p:Prop}(h:p:=by simp):p:=h
def kM{α:Sort _}{a b:α}(h:a=b:=by kernel_rfl):a=b:=h
def Ac.alloc(h:Ac S a w)(o:Obj):Ac S a (w.alloc o):=
 h.trans ⟨rfl,rfl,rfl,sM,fun b o' j _=>(NH w o b (Qg j)).trans j⟩
abbrev Q0 := Value
def Ac.setCell(h:Ac S a w){p:Addr}(v:Q0)(hp:∀o,w.heap[p.block]? =some o->S p.block o->p.block<a.heap.size->False):Ac S a (w.setCell p v):=
 ⟨h.os,h.tape,h.output,Qj h.size (by simp[World.setCell]),fun b o q j=>by
  have y:=h.same b o q j;rw[Sg]
  ·exact y
  ·rintro rfl;exact hp o y j (Qg q)⟩
def Ac.putObj(h:Ac S a w){r:Nat}(v:Obj)(hp:∀o,w.heap[r]? =some o->S r o->r<a.heap.size->False):Ac S a (w.putObj r v):=
 ⟨h.os,h.tape,h.output,Qj h.size sM,fun b o q j=>by
  have y:=h.same b o q j;rw[N3]
  ·exact y
  ·rintro rfl;exact hp o y j (Qg q)⟩
def Ac.grown(h:Ac S a w){row:Option Nat}(hg:w.grownBy w' row)(hr:∀r,row=some r->∀o,w.heap[r]? =some o->S r o->r<a.heap.size->False):Ac S a w':=
 ⟨hg.os.trans h.os,hg.tape.trans h.tape,hg.output.trans h.output,Qj h.size hg.size,fun b o v q=>by
  have j:=h.same b o v q;rw[hg.block b (Qg j) (fun e=>hr b e.symm o j q (Qg v))];exact j⟩
def Ac.below{B:Nat}(h:Below B w w')(hS:∀b o,w.heap[b]? =some o->S b o->b<B):Ac S w w':=
 ⟨h.os,h.tape,h.output,h.size,fun b o j q=>(h.block b (hS b o j q)).trans j⟩
def Ac.AB(h:Below w.heap.size w w'):Qd w w':=Ac.below h fun b _ j _=>Qg j
def Ql{w:Qm}{o:Obj}{b:Nat}(hb:b=w.heap.size):(w.alloc o).heap[b]? =some o:=by subst hb;exact Qt w o
def Qb{w:Qm}{o x:Obj}{b:Nat}(h:w.heap[b]? =some x):(w.alloc o).heap[b]? =some x:=(NH w o b (Qg h)).trans h
def Ac.cell(h:Ac S w w'){p:Addr}{v:Q0}(hc:w.cell? p=some v)(hS:∀o,w.heap[p.block]? =some o->S p.block o):w'.cell? p=some v:=by
 unfold World.cell? at hc|-;cases ho:w.heap[p.block]? with
 |none=>rw[ho]at hc;cases hc
 |some o=>rw[h.same _ o ho (hS o ho)];rw[ho]at hc;exact hc
def TB{w:Qm}{p:Addr}{v:Q0}(hc:w.cell? p=some v):∃o,w.heap[p.block]? =some o/\o.isCells=true:=by
 unfold World.cell? at hc;cases ho:w.heap[p.block]? with
 |none=>rw[ho]at hc;cases hc
 |some o=>rw[ho]at hc;cases o<;>first|exact⟨_,rfl,rfl⟩| (cases hc)
def Ac.boxed(h:Ac S w w'){b:Nat}{t:TypeId}{v:Q0}(hb:Boxed w b t v)(hS:S b (.cells #[v] t (0,0))):Boxed w' b t v:=h.same b _ hb hS
end
def J2{w:Qm}{p:Addr}{v:Q0}{l:Nat}{r:Loop}(hc:w.cell? p=some v)(hl:w.heap[l]? =some (.loop r)):p.block≠l:=by
 rintro rfl;obtain⟨o,j,q⟩:=TB hc;rw[hl]at j;cases j;cases q
def Hk(P:Program)(g:Nat)(lb:Array Q0)(n:Nat)(E:Nat->Array Q0->Qm->Prop)(Sb Si:Nat->Obj->Prop)(Fin:Qm->Prop)(FinX:Nat->Qm->Prop)(W:Qm):Prop:=
 ∀(l:Nat) (J Jx:Nat->Qm->Prop),(∀i A,J i A->∃r,A.heap[l]? =some (.loop r))->
  (∀i A B,J i A->Ac Si A B->J i B)->(∀i A B,Jx i A->Ac Si A B->Jx i B)->
  (∀i v A,i<n->J i A->E i v A->YieldAt Fence.wide 0 P l v A fun e B=>
   Ac (fun b o=>b≠l/\Sb b o) A B/\((e=.returned (.bool true)/\J (i+1) B)∨(e=.returned (.bool false)/\Jx i B)))->
  J 0 W->
  CallsIn Fence.wide 0 P g (#[.func (.yield l) #[] #[]]++lb) W fun e B=>(∃v,e=.returned v)/\((J n B/\Fin B)∨(∃i,i<n/\Jx i B/\FinX i B))
@[simp,go_sem] theorem Qin(f:FuncId):Fence.wide.fn f=True:=rfl
@[simp,go_sem] theorem Qge:Fence.wide.depth=none:=rfl
attribute [go_sem] Oper.semAt_some
def TC(Sb:Nat->Obj->Prop)(I:Nat->Qm->Prop)(Ix:Nat->Code->Qm->Prop)(i:Nat)(A:Qm):Exit->Act->Qm->Prop
 | .normal,_,B=>Ac Sb A B/\I (i+1) B
 | .ret,_,B=>Ac Sb A B/\Ix i .ret B
 | .exit id,_,B=>Ac Sb A B/\Ix i (.exit id) B
 | .goto t,_,B=>Ac Sb A B/\Ix i (.goto t) B
 | .panic _,_,_=>False
 | .outgrown,_,_=>False
variable{P:Program}{w:Qm}
def Jt{g:Operand}{ps:Array Tmp}{assign body:Code}{Q:Exit->Act->Qm->Prop}{a:Act}{gf:Nat}{lb:Array Q0}
  (hg:a.eval g=.func (.func gf) #[] lb)(eg:∀args w,(callFunc gf args).run P w=.ok (.enter gf args) w)
  (n:Nat)(E:Nat->Array Q0->Qm->Prop)(Sb Si:Nat->Obj->Prop)(Fin:Qm->Prop)(FinX:Nat->Qm->Prop)
  (hit:∀W,Qd w W->W.heap.size=w.heap.size+2->Hk P gf lb n E Sb Si Fin FinX W)
  (hSb:∀b o,w.heap.size<=b->o.isCells=false->Sb b o)(hSi:∀b o,w.heap.size<=b->b<w.heap.size+2->o.isCells=false->Si b o)
  (I:Nat->Qm->Prop)(Ix:Nat->Code->Qm->Prop)
  (hI:∀i A B,I i A->Ac (fun b o=>(b<w.heap.size∨o.isCells=true)/\Si b o) A B->I i B)
  (hIx:∀i c A B,Ix i c A->Ac (fun b o=>(b<w.heap.size∨o.isCells=true)/\Si b o) A B->Ix i c B)
  (hE:∀i v A B,E i v A->Ac (fun b o=>b<w.heap.size∨o.isCells=true) A B->E i v B)
  (hFin:∀A B,Fin A->Ac (fun b o=>b<w.heap.size∨o.isCells=true) A B->Fin B)
  (hFinX:∀i A B,FinX i A->Ac (fun b o=>b<w.heap.size∨o.isCells=true) A B->FinX i B)
  (hEs:∀i v A,E i v A->v.size=ps.size)
  (h0:I 0 w)(Ax:Nat->Array Q0->Act->Qm->Prop)
  (hAx:∀i v a' A B,Ax i v a' A->Ac (fun b o=>(b<w.heap.size∨o.isCells=true)) A B->Ax i v a' B)
  (hassign:∀(l i:Nat) (v:Array Q0) (A:Qm) (K:Act->Qm->Prop),i<n->I i A->E i v A->(∀a' A',Qd A A'->I i A'->E i v A'->Ax i v a' A'->K a' A')->
   assign.wpIn (Fence.wide.inRound l) 0 P (Exit.then K (fun _ _ _=>False)) {tmps:=(ps.zip v).foldl (fun t (p,x)=>t.setIfInBounds p x) a.tmps,defers:=[]} A)
  (hbody:∀(l i:Nat) (v:Array Q0) (a':Act) (A:Qm),w.heap.size<=l->(∃r,A.heap[l]? =some (.loop r))->i<n->I i A->E i v A->Ax i v a' A->
   body.wpIn (Fence.wide.inRound l) 0 P (TC Sb I Ix i A) a' A)
  (hdone:∀(D:Nat) (W:Qm),w.heap.size<=D->I n W->Fin W->Ac (fun b o=>Sb b o/\Si b o) w W->W.heap[D]? =some (.deferred (some []))->
   Q .normal {a with defers:={target:=.collected D,args:=#[]}::a.defers} W)
  (hstop:∀(D i:Nat) (c:Code) (W:Qm),w.heap.size<=D->i<n->Ix i c W->FinX i W->Ac (fun b o=>Sb b o/\Si b o) w W->W.heap[D]? =some (.deferred (some []))->
   c.wpIn Fence.wide 0 P Q {a with defers:={target:=.collected D,args:=#[]}::a.defers} W):
  (Code.rangeFunc g ps assign body).wpIn Fence.wide 0 P Q a w:=by
 refine wpIn_rangeFunc ?_
 intro fn b4
 show∃(l:Nat) (mark:List Deferred) (w₁:Qm) (d:Deferred) (w₁':Qm) (f:FuncId) (args:Array Q0) (w₂:Qm),_
 obtain⟨j,q⟩:∃j:LoopState->Option Code->Loop,j=fun st pe=>{state:=st,pending:=pe,fn,tmps:=a.tmps,params:=ps,assign,body,defers:=w.heap.size}:=⟨_,rfl⟩
 obtain⟨W1,a7⟩:∃W1,(w.alloc (.deferred (some []))).alloc (.loop (j .ready none))=W1:=⟨_,rfl⟩
 have b1:W1.heap[w.heap.size+1]? =some (.loop (j .ready none)):=by
  rw[<-a7];have:=Qt (w.alloc (.deferred (some []))) (.loop (j .ready none));rwa [T5]at this
 have ah:W1.heap[w.heap.size]? =some (.deferred (some [])):=by
  rw[<-a7];exact(NH _ _ _ sM).trans (Qt w _)
 have ab:Qd w W1:=by rw[<-a7];exact((Ac.refl _ w).alloc _).alloc _
 have b8:W1.heap.size=w.heap.size+2:=by rw[<-a7];simp
 have af:I 0 W1:=hI _ _ _ h0 (Ac.of_same ab)
 refine⟨w.heap.size+1,[{target:=.collected w.heap.size,args:=#[]}],W1,{target:=.fn (.func gf) lb,args:=#[.func (.yield (w.heap.size+1)) #[] #[]]},W1,gf,
  #[.func (.yield (w.heap.size+1)) #[] #[]]++lb,W1,?_,?_,?_,?_,fun h=>by simp at h,?_⟩
 ·rw[<-a7,q];exact run_enterLoop_outer _ _ _ _ _
 ·simp only[resolve,hg];simp[go_sem]
 ·intro f' _;trivial
 ·simp[invoke,go_sem,eg]
 ·have a6:∀(A:Qm) (r:Loop) (o:Obj),A.heap[w.heap.size+1]? =some (.loop r)->Ac (fun b o=>b<w.heap.size∨o.isCells=true) A (A.putObj (w.heap.size+1) o):=fun A r o hA=>
   (Ac.refl _ A).putObj o fun o' ac hS _=>by rw[hA]at ac;cases ac;simp[Obj.isCells]at hS;omega
  have z:∀(A:Qm) (r:Loop) (o:Obj),A.heap[w.heap.size+1]? =some (.loop r)->Ac (fun b o=>(b<w.heap.size∨o.isCells=true)/\Si b o) A (A.putObj (w.heap.size+1) o):=fun A r o hA=>
   (a6 A r o hA).mono fun _ _ _ h=>h.1
  have u:∀(A:Qm) (o:Obj),Ac (fun b o=>Sb b o/\Si b o) w A->Ac (fun b o=>Sb b o/\Si b o) w (A.putObj (w.heap.size+1) o):=fun A o hA=>
   hA.putObj o fun _ _ _ h=>oM
  refine((hit W1 ab b8) (w.heap.size+1)
   (fun i W=>I i W/\W.heap[w.heap.size+1]? =some (.loop (j .ready none))/\W.heap[w.heap.size]? =some (.deferred (some []))/\Ac (fun b o=>Sb b o/\Si b o) w W)
   (fun i W=>∃c,Ix i c W/\W.heap[w.heap.size+1]? =some (.loop (j .done (some c)))/\W.heap[w.heap.size]? =some (.deferred (some []))/\Ac (fun b o=>Sb b o/\Si b o) w W)
   (fun _ _ h=>⟨_,h.2.1⟩) ?_ ?_ ?_ ⟨af,b1,ah,Ac.of_same ab⟩).mono ?_
  ·rintro i A B ⟨h1,h2,h3,h4⟩ hk;exact⟨hI _ _ _ h1 (hk.mono fun _ _ _ h=>h.2),hk.same _ _ h2 (hSi _ _ oM oM rfl),hk.same _ _ h3 (hSi _ _ (Q6 _) oM rfl),h4.trans (hk.mono fun _ _ _ h=>h.2)⟩
  ·rintro i A B ⟨c,h1,h2,h3,h4⟩ hk;exact⟨c,hIx _ _ _ _ h1 (hk.mono fun _ _ _ h=>h.2),hk.same _ _ h2 (hSi _ _ oM oM rfl),hk.same _ _ h3 (hSi _ _ (Q6 _) oM rfl),h4.trans (hk.mono fun _ _ _ h=>h.2)⟩
  ·rintro i v W a8 ⟨hi,hl,hk,hS⟩ he;have hy:=run_yield (P:=P) (args:=v) hl (by rw[q];exact hEs i v W he);rw[q]at hy;refine⟨fn,_,assign,body,hy,roundIn_of_wpIn b4 (hassign _ i v W _ a8 hi he ?_)⟩;clear hy;intro a' Wa k b0 b7 ag;have a9:=k.same _ _ hl trivial;have b5:=k.same _ _ hk trivial;refine⟨_,run_beginRound a9 (by rw[q]),?_⟩;have ae:w.heap.size+1<Wa.heap.size:=Qg a9;have ad:(Wa.putObj (w.heap.size+1) (.loop {j .ready none with state:=.busy})).heap[w.heap.size+1]? =some (.loop {j .ready none with state:=.busy}):=CI ae;have b6:(Wa.putObj (w.heap.size+1) (.loop {j .ready none with state:=.busy})).heap[w.heap.size]? =some (.deferred (some [])):=(N3 oM).trans b5;have t2:=a6 Wa _ (.loop {j .ready none with state:=.busy}) a9;refine wpIn_mono (hbody _ i v a' _ oM ⟨_,ad⟩ a8 (hI _ _ _ b0 (z Wa _ _ a9)) (hE _ _ _ _ b7 t2) (hAx _ _ _ _ _ ag t2)) ?_;have b3:Ac (fun b o=>Sb b o/\Si b o) w (Wa.putObj (w.heap.size+1) (.loop {j .ready none with state:=.busy})):=u _ _ (hS.trans (Ac.of_same k));have aa:∀(jump:Option Code) (W3:Qm),Ac Sb (Wa.putObj (w.heap.size+1) (.loop {j .ready none with state:=.busy})) W3->
     (Instr.endRound (w.heap.size+1) jump).run P W3=.ok (.bool jump.isNone) (W3.putObj (w.heap.size+1) (.loop (j (if jump.isNone then .ready else .done) jump)))/\
     W3.heap[w.heap.size+1]? =some (.loop {j .ready none with state:=.busy})/\
     (W3.putObj (w.heap.size+1) (.loop (j (if jump.isNone then .ready else .done) jump))).heap[w.heap.size+1]? =some (.loop (j (if jump.isNone then .ready else .done) jump))/\
     (W3.putObj (w.heap.size+1) (.loop (j (if jump.isNone then .ready else .done) jump))).heap[w.heap.size]? =some (.deferred (some []))/\
     Ac (fun b o=>Sb b o/\Si b o) w (W3.putObj (w.heap.size+1) (.loop (j (if jump.isNone then .ready else .done) jump)))/\
     Ac (fun b o=>b≠w.heap.size+1/\Sb b o) W (W3.putObj (w.heap.size+1) (.loop (j (if jump.isNone then .ready else .done) jump))):=fun jump W3 y=>by
    have m:=y.same _ _ ad (hSb _ _ oM rfl)
    have b2:=y.same _ _ b6 (hSb _ _ (Q6 _) rfl)
    have:=run_endRound (P:=P) jump m
    rw[q]at this|-
    rw[q]at m
    refine⟨this,m,CI (Qg m),(N3 oM).trans b2,u _ _ (b3.trans (y.mono fun _ _ _ h=>h.1)),?_⟩
    refine⟨y.os.trans k.os,y.tape.trans k.tape,y.output.trans k.output,by have:=y.size;have:=k.size;simp at*;omega,fun b o hb hs=>?_⟩
    rw[N3 hs.1]
    exact y.same b o ((N3 hs.1).trans (k.same b o hb trivial)) hs.2
   rintro e a3 W3 hp;cases e with
   |normal=>
    obtain⟨y,a4⟩:=hp;obtain⟨hr,m,a0,a5,a2,a1⟩:=aa none W3 y;exact⟨_,_,hr,a1,.inl ⟨rfl,hI _ _ _ a4 (z W3 _ _ m),a0,a5,a2⟩⟩
   |ret=>
    obtain⟨y,a4⟩:=hp;obtain⟨hr,m,a0,a5,a2,a1⟩:=aa (some .ret) W3 y;exact⟨_,_,hr,a1,.inr ⟨rfl,.ret,hIx _ _ _ _ a4 (z W3 _ _ m),a0,a5,a2⟩⟩
   |exit id=>
    obtain⟨y,a4⟩:=hp;obtain⟨hr,m,a0,a5,a2,a1⟩:=aa (some (.exit id)) W3 y;exact⟨_,_,hr,a1,.inr ⟨rfl,.exit id,hIx _ _ _ _ a4 (z W3 _ _ m),a0,a5,a2⟩⟩
   |goto t=>
    obtain⟨y,a4⟩:=hp;obtain⟨hr,m,a0,a5,a2,a1⟩:=aa (some (.goto t)) W3 y;exact⟨_,_,hr,a1,.inr ⟨rfl,.goto t,hIx _ _ _ _ a4 (z W3 _ _ m),a0,a5,a2⟩⟩
   |panic ch=>exact hp.elim
   |outgrown=>exact hp.elim
  ·rintro e W2 ⟨⟨v,rfl⟩,(⟨⟨hi,hl,hk,hs⟩,hf⟩| ⟨i,a8,⟨c,hi,hl,hk,hs⟩,hf⟩)⟩
   ·have t2:=a6 W2 _ (.loop {j .ready none with state:=.exhausted}) hl;refine⟨none,_,by have:=run_endLoop (P:=P) hl (by rw[q];simp);rw[q]at this;exact this,?_⟩
    have:=hdone w.heap.size _ (Q6 _) (hI _ _ _ hi (z W2 _ _ hl)) (hFin _ _ hf t2) (u _ _ hs) ((N3 oM).trans hk);rw[q]at this;exact this
   ·have t2:=a6 W2 _ (.loop {j .done (some c)with state:=.exhausted}) hl;refine⟨some c,_,by have:=run_endLoop (P:=P) hl (by rw[q];simp);rw[q]at this;exact this,?_⟩
    have:=hstop w.heap.size i c _ (Q6 _) a8 (hIx _ _ _ _ hi (z W2 _ _ hl)) (hFinX _ _ _ hf t2) (u _ _ hs) ((N3 oM).trans hk);rw[q]at this;exact this
def Hl{f:FuncId}{args:Array Q0}{R:Ending->Qm->Prop}{m:Nat}(l:Nat)(h:Calls P f args w R):CallsIn (Fence.wide.inRound l) m P f args w R:=CallsIn.inRound l (J5.2 h)
def Qr{f:FuncId}{args:Array Q0}{R:Ending->Qm->Prop}{m:Nat}(h:Calls P f args w R):CallsIn Fence.wide m P f args w R:=J5.2 h
def RoundIn.inRound{F:Fence}{m:Nat}{l':Nat}{f:FuncId}{tmps:Array Q0}{assign body:Code}{R:Ending->Qm->Prop}(l:Nat)(h:RoundIn F m P l' f tmps assign body w R):RoundIn (F.inRound l) m P l' f tmps assign body w R:=h
def E7{v:Array Q0}{n:Nat}(hn:n=1)(h:v.size=n):∃x,v=#[x]:=by
 subst hn;rcases v with⟨_| ⟨x,_|_⟩⟩<;>simp at h;exact⟨x,rfl⟩
def TD{v:Array Q0}{n:Nat}(hn:n=2)(h:v.size=n):∃x y,v=#[x,y]:=by
 subst hn;rcases v with⟨_| ⟨x,_| ⟨y,_|_⟩⟩⟩<;>simp at h;exact⟨x,y,rfl⟩
def Rx{g:Operand}{ps:Array Tmp}{assign body:Code}{Q:Exit->Act->Qm->Prop}{a:Act}{gf:Nat}{lb:Array Q0}
  (hg:a.eval g=.func (.func gf) #[] lb)(eg:∀args w,(callFunc gf args).run P w=.ok (.enter gf args) w)
  (n:Nat)(E:Nat->Array Q0->Qm->Prop)(Sb Si:Nat->Obj->Prop)(Fin:Qm->Prop)(FinX:Nat->Qm->Prop)
  (hit:∀W,Qd w W->W.heap.size=w.heap.size+2->Hk P gf lb n E Sb Si Fin FinX W)
  (hSb:∀b o,w.heap.size<=b->o.isCells=false->Sb b o)(hSi:∀b o,w.heap.size<=b->b<w.heap.size+2->o.isCells=false->Si b o)
  (I:Nat->Qm->Prop)(Ix:Nat->Code->Qm->Prop)
  (hI:∀i A B,I i A->Ac (fun b o=>(b<w.heap.size∨o.isCells=true)/\Si b o) A B->I i B)
  (hIx:∀i c A B,Ix i c A->Ac (fun b o=>(b<w.heap.size∨o.isCells=true)/\Si b o) A B->Ix i c B)
  (hE:∀i v A B,E i v A->Ac (fun b o=>b<w.heap.size∨o.isCells=true) A B->E i v B)
  (hFin:∀A B,Fin A->Ac (fun b o=>b<w.heap.size∨o.isCells=true) A B->Fin B)
  (hFinX:∀i A B,FinX i A->Ac (fun b o=>b<w.heap.size∨o.isCells=true) A B->FinX i B)
  (hEs:∀i v A,E i v A->v.size=ps.size)
  (h0:I 0 w)
  (hround:∀(i:Nat) (v:Array Q0),v.size=ps.size->∃a1,
   (∀(l:Nat) (A:Qm) (K:Act->Qm->Prop),K a1 A->assign.wpIn (Fence.wide.inRound l) 0 P (Exit.then K (fun _ _ _=>False)) {tmps:=(ps.zip v).foldl (fun t (p,x)=>t.setIfInBounds p x) a.tmps,defers:=[]} A)/\
   ∀(l:Nat) (A:Qm),w.heap.size<=l->(∃r,A.heap[l]? =some (.loop r))->i<n->I i A->E i v A->body.wpIn (Fence.wide.inRound l) 0 P (TC Sb I Ix i A) a1 A)
  (hdone:∀(D:Nat) (W:Qm),w.heap.size<=D->I n W->Fin W->Ac (fun b o=>Sb b o/\Si b o) w W->W.heap[D]? =some (.deferred (some []))->
   Q .normal {a with defers:={target:=.collected D,args:=#[]}::a.defers} W)
  (hstop:∀(D i:Nat) (c:Code) (W:Qm),w.heap.size<=D->i<n->Ix i c W->FinX i W->Ac (fun b o=>Sb b o/\Si b o) w W->W.heap[D]? =some (.deferred (some []))->
   c.wpIn Fence.wide 0 P Q {a with defers:={target:=.collected D,args:=#[]}::a.defers} W):
  (Code.rangeFunc g ps assign body).wpIn Fence.wide 0 P Q a w:=by
 refine Jt hg eg n E Sb Si Fin FinX hit hSb hSi I Ix hI hIx hE hFin hFinX hEs h0
  (fun i v a' _=>∀(l:Nat) (A:Qm),w.heap.size<=l->(∃r,A.heap[l]? =some (.loop r))->i<n->I i A->E i v A->body.wpIn (Fence.wide.inRound l) 0 P (TC Sb I Ix i A) a' A)
  (fun _ _ _ _ _ h _=>h) ?_ (fun l i v a' A y z d u k m=>m l A y z d u k) hdone hstop
 intro l i v A K hi q j f
 obtain⟨a1,y,z⟩:=hround i v (hEs i v A j)
 exact y l A K (f a1 A (Ac.refl _ A) q j z)
def Za(c:Nat):Bool:=decide (48<=c)&&decide (c<=57)
def Xb(s:Qv):Bool:= !s.isEmpty&&decide (s.length<=400)&& !(s.head? ==some 48&&decide (1<s.length))&&s.all Za
def valOf(s:Qv):Nat:=s.foldl (fun v c=>10*v+(c-48)) 0
def Nt(s:Qv):Nat × Bool:=if Xb s&&decide (valOf s<18446744073709551616)then(valOf s,true)else(0,false)
abbrev LB:Nat:=1000000000
def Jf(l:Qv):Qv:=(l.reverse.dropWhile (· ==0)).reverse
def Qdk:Nat->Qv->List (Qv)
 |0,_=>[]
 |k+1,s=>if s.isEmpty then[]else s.drop (s.length-9)::Qdk k (s.take (s.length-9))
def Y3(n:Nat):Qv:=if n=0 then[]else if n<LB then[n]else if n<LB*LB then[n % LB,n/LB]else[n % LB,n/LB % LB,n/LB/LB]
def Rk(a b:Qv):Nat->Nat->Nat->Qv
 |0,_,c=>Y3 c
 |k+1,i,c=>(c+(Zi a i+Zi b i)) % LB::Rk a b k (i+1) ((c+(Zi a i+Zi b i))/LB)
def NK(a b:Qv):Qv:=Rk a b (max a.length b.length) 0 0
def Ga(ai:Nat):Qv->Nat->Nat->Qv->Qv
 | [],p,c,out=>out.set p (c % 4294967296)
 |bk::r,p,c,out=>Ga ai r (p+1) ((Zi out p+ai*bk+c)/LB) (out.set p ((Zi out p+ai*bk+c) % LB))
def H6(b:Qv):Qv->Nat->Qv->Qv
 | [],_,out=>out
 |ai::r,i,out=>H6 b r (i+1) (Ga ai b i 0 out)
def EX(a b:Qv):Qv:=Jf (H6 b a 0 (List.replicate (a.length+b.length) 0))
def VP(b:Qv):Nat->Qv->Option (Qv)
 |0,out=>some out
 |k+1,out=>if 45< (EX out b).length then none else VP b k (EX out b)
def LS:Qv->Qv->Option (Qv)
 | [],out=>some out
 |c::r,out=>if 45< (NK (EX out [256]) (Y3 c)).length then none else LS r (NK (EX out [256]) (Y3 c))
structure Dc where
 neg:Bool
 digits:Qo
 exp:Int
 deriving DecidableEq
def Ju:Dc:=⟨false,⟨#[48]⟩,0⟩
def Ko:Dc:=⟨false,⟨#[]⟩,0⟩
def Kt(n most:Int):Bool:=decide (-most<=n)&&decide (n<=most)
def Q2(d:Dc):Bool:=decide (d=Ju)||(Xb (Qf d.digits)&&decide (d.digits.size<=100)&&Kt d.exp 100&& !((Qf d.digits).getLast? ==some 48))
def Z9(d:Dc):Bool × Nat × Bool:=
 if !Q2 d||decide (d.exp<0)||decide (20<d.exp)then(false,0,false)
 else((Nt (Qf d.digits++List.replicate d.exp.toNat 48)).2&&d.neg,Nt (Qf d.digits++List.replicate d.exp.toNat 48))
def Gf(w:Int):Option (Nat × Nat × Nat):=if w=16 then some (10,5,16)else if w=32 then some (23,8,32)else if w=64 then some (52,11,64)else none
def Zl(n:Nat):Nat:=if n=0 then 0 else Nat.log2 n+1
def Qw(n:Nat):Nat:=2^n-1
def Kg(fr wd sign exp frac:Nat):Nat:=(sign<<<(wd-1)|||exp<<<fr)|||frac
def Kx(b:Nat)(w:Int):Nat × Int:=
 match Gf w with
 |none=>(0,2)
 |some (fr,ex,wd)=>
  if wd<Zl b then(0,2)else
  let sign:=b>>>(wd-1)&&&1
  let exp:=b>>>fr&&&Qw ex
  let frac:=b&&&Qw fr
  if wd=64 then(b,0)
  else if exp=Qw ex then(Kg 52 64 sign 2047 (frac<<<(52-fr)),0)
  else if exp=0/\frac=0 then(Kg 52 64 sign 0 0,0)
  else if exp=0 then
   let up:=fr+1-Zl frac
   (Kg 52 64 sign (1+1023-Qw (ex-1)-up) ((frac<<<up&&&Qw fr)<<<(52-fr)),0)
  else(Kg 52 64 sign (exp+1023-Qw (ex-1)) (frac<<<(52-fr)),0)
def X2(fr wd sign exp frac low:Nat):Nat × Bool:=if frac&&&Qw low≠0 then(0,false)else(Kg fr wd sign exp (frac>>>low),true)
def Xx(b:Nat)(w:Int):Nat × Bool:=
 match Gf w with
 |none=>(0,false)
 |some (fr,ex,wd)=>
  if wd=64 then(b,true)else
  let sign:=b>>>63&&&1
  let exp:=b>>>52&&&2047
  let frac:=b&&&Qw 52
  let e:Int:=exp-1023+Qw (ex-1)
  if exp=2047 then X2 fr wd sign (Qw ex) frac (52-fr)
  else if exp=0/\frac=0 then X2 fr wd sign 0 0 (52-fr)
  else if 0<e/\e<Qw ex then X2 fr wd sign e.toNat frac (52-fr)
  else if 0<exp/\e<=0/\ -(fr:Int)<e then X2 fr wd sign 0 (frac|||2^52) (52-fr+1-e).toNat
  else(0,false)
def Rt(b:Nat):Int:=if(Xx b 16).2 then 16 else if(Xx b 32).2 then 32 else 64
structure Hd where
 kind:Int
 b:Bool
 d:Dc
 u:Nat
 w:Int
 s:Qo
 deriving DecidableEq
inductive Aa where
 |node (h:Hd) (l:List Aa)
def Aa.hd:Aa->Hd
 | .node h _=>h
abbrev Qp := List Aa
def Aa.l:Aa->Qp
 | .node _ l=>l
@[simp] theorem Aa.Ae(h:Hd)(l:Qp):(Aa.node h l).hd=h:=rfl
@[simp] theorem Aa.Ag(h:Hd)(l:Qp):(Aa.node h l).l=l:=rfl
def Aa.eta(t:Aa):Aa.node t.hd t.l=t:=by cases t;rfl
mutual
def Aa.same:Aa->Aa->Bool
 | .node h l,.node g m=>decide (h=g)&&BU l m
def BU:Qp->Qp->Bool
 | [],[]=>true
 |x::l,y::m=>x.same y&&BU l m
 |_,_=>false
end
mutual
def Aa.count:Aa->Nat
 | .node _ l=>1+Q7 l
def Q7:Qp->Nat
 | []=>0
 |x::l=>x.count+Q7 l
end
mutual
def Aa.depth:Aa->Nat
 | .node _ l=>Xr l+1
def Xr:Qp->Nat
 | []=>0
 |x::l=>max x.depth (Xr l)
end
mutual
def Aa.flat:Aa->Qp
 | .node h l=>.node h l::Re l
def Re:Qp->Qp
 | []=>[]
 |x::l=>x.flat++Re l
end
mutual
def Ru:∀a b:Aa,a.same b=true↔a=b
 | .node h l,.node g m=>by simp[Aa.same,ZE l m]
def ZE:∀l m:Qp,BU l m=true↔l=m
 | [],[]=>by simp[BU]
 | [],_::_=>by simp[BU]
 |_::_,[]=>by simp[BU]
 |x::l,y::m=>by simp[BU,Ru x y,ZE l m]
end
mutual
def DU:∀a:Aa,a.flat.length=a.count
 | .node h l=>by simp[Aa.flat,Aa.count,EY l,Nat.add_comm]
def EY:∀l:Qp,(Re l).length=Q7 l
 | []=>rfl
 |x::l=>by simp[Re,Q7,DU x,EY l]
end
def Aa.Bl(t:Aa):0<t.count:=by cases t;simp[Aa.count];omega
def Aa.ind{P:Aa->Prop}(h:∀hd l,(∀x∈l,P x)->P (.node hd l)):∀t,P t
 | .node hd l=>h hd l (go l)
 where
 go:∀l:Qp,∀x∈l,P x
  | [],x,hx=>absurd hx sM
  |y::l,x,hx=>by
   rcases Xg.1 hx with e|hx'
   ·rw[e];exact Aa.ind h y
   ·exact go l x hx'
def Qh(k:Int):Hd:=⟨k,false,Ko,0,0,⟨#[]⟩⟩
def Zb:Qp->Qp
 | []=>[]
 | [x]=>[x]
 |x::_::l=>x::Zb l
def Ct(l:Qp)(i:Nat):Bool:=match l[i]? with
 |some x=>(l.take i).any fun y=>x.same y
 |none=>false
def J8(l:Qp):Bool:=(List.range l.length).any (Ct l)
def Zr(t:Aa)(h:Hd):Bool:=t.l.isEmpty&&decide (t.hd={h with kind:=t.hd.kind})
def Gm(s:Qo):Bool:=Lib.validD s.data.toList
def Ac.s{w w':Qm}(h:Qd w w'){b:Nat}{o:Obj}(hb:w.heap[b]? =some o):w'.heap[b]? =some o:=h.same _ _ hb trivial
def Xc(t:Aa):Bool:=
 if t.hd.kind=1 then Zr t (Qh 1)
 else if t.hd.kind=2 then Zr t {Qh 2 with b:=t.hd.b}
 else if t.hd.kind=3 then Zr t {Qh 3 with d:=t.hd.d}&&Q2 t.hd.d
 else if t.hd.kind=4 then Zr t {Qh 4 with u:=t.hd.u,w:=t.hd.w}&&decide ((Kx t.hd.u t.hd.w).2=0)
 else if t.hd.kind=5 then Zr t {Qh 5 with s:=t.hd.s}&&decide (t.hd.s.size<=400)&&Gm t.hd.s
 else if t.hd.kind=6 then Zr t {Qh 6 with s:=t.hd.s}&&decide (t.hd.s.size<=400)
 else if t.hd.kind=7 then decide (t.hd=Qh 7)
 else if t.hd.kind=8 then decide (t.hd=Qh 8)&&decide (t.l.length % 2=0)&& !J8 (Zb t.l)
 else if t.hd.kind=9 then decide (t.hd={Qh 9 with u:=t.hd.u})&&decide (t.l.length=1)
 else if t.hd.kind=10 then Zr t {Qh 10 with u:=t.hd.u}&&decide (t.hd.u<=255)&&(decide (t.hd.u<20)||decide (t.hd.u=23)||decide (31<t.hd.u))
 else if t.hd.kind=11 then Zr t {Qh 11 with u:=t.hd.u,s:=t.hd.s}&&decide (t.hd.u<=255)&&decide (t.hd.s.size<=400)
 else false
def Jv(form:Int)(t:Aa):Bool:=
 if t.hd.kind=5 then true
 else if form=1 then false
 else if t.hd.kind=3 then(Z9 t.hd.d).2.2
 else decide (t.hd.kind=6)||decide (t.hd.kind=2)||decide (t.hd.kind=1)
def Zj(form:Int)(t:Aa):Bool:=
 if t.hd.kind=4 then decide (form=2)||(decide (form=3)&&decide (Rt (Kx t.hd.u t.hd.w).1=t.hd.w))||(decide (form=4)&&decide (16<t.hd.w))
 else if t.hd.kind=3 then decide (form=1)||((decide (form=2)||decide (form=3))&&(Z9 t.hd.d).2.2)||(decide (form=4)&&(Z9 t.hd.d).2.2&&(!(Z9 t.hd.d).1||decide ((Z9 t.hd.d).2.1<=9223372036854775808)))
 else if t.hd.kind=6 then decide (form=2)||decide (form=3)||decide (form=4)
 else if t.hd.kind=9∨t.hd.kind=10 then decide (form=2)||decide (form=3)
 else if t.hd.kind=11 then decide (form=4)
 else if t.hd.kind=8 then(decide (form=1)||decide (form=2)||decide (form=3)||decide (form=4))&&(Zb t.l).all (Jv form)
 else decide (form=1)||decide (form=2)||decide (form=3)||decide (form=4)
def gV(a b:Int):wrap64 (wrap64 a+wrap64 b)=wrap64 (a+b):=by unfold wrap64;omega
def NL(i:Nat):wrap64 (wrap64 (i:Int)+1)=wrap64 ((i+1:Nat):Int):=by unfold wrap64;push_cast;omega
def Yk(t:Aa):Int:=wrap64 (t.count:Int)
def checkFrom(form:Int):Qp->Int->Int
 | [],e=>e
 |x::l,e=>if !Xc x then 60 else checkFrom form l (if Zj form x then e else 61)
def Q5(t:Aa)(form:Int):Int:=if 16<t.depth∨300<Yk t then 60 else checkFrom form t.flat 0
def Hd.ok(h:Hd):Prop:=
 (-9223372036854775808<=h.kind/\h.kind<=9223372036854775807)/\(-9223372036854775808<=h.d.exp/\h.d.exp<=9223372036854775807)/\(-9223372036854775808<=h.w/\h.w<=9223372036854775807)/\
  h.u<18446744073709551616/\h.d.digits.size<=1099511627776/\h.s.size<=1099511627776
abbrev FY(d:Dc):Q0:=.agg #[.bool d.neg,.string d.digits,.int .i64 d.exp]
abbrev Kb := List Value
abbrev Qn(h:Hd)(lv:Q0):Kb:=[.int .i64 h.kind,.bool h.b,.bool h.d.neg,.string h.d.digits,.int .i64 h.d.exp,.int .u64 h.u,.int .i64 h.w,.string h.s,lv]
abbrev Qu(h:Hd)(lv:Q0):Q0:=.agg #[.int .i64 h.kind,.bool h.b,.bool h.d.neg,.string h.d.digits,.int .i64 h.d.exp,.int .u64 h.u,.int .i64 h.w,.string h.s,lv]
def J9{w:Qm}{b:Nat}{o:Obj}(h:w.heap[b]? =some o):w.drew.heap[b]? =some o:=h
def Q4{w:Qm}{b:Nat}{a:Q0}{t:TypeId}{f:Nat × Nat}(h:w.heap[b]? =some (.cells #[a] t f)):w.cell? ⟨b,0,none⟩=some a:=by unfold World.cell?;rw[h];rfl
def Ys{w:Qm}{b:Nat}{a c:Q0}{t:TypeId}{f:Nat × Nat}(h:w.heap[b]? =some (.cells #[a,c] t f)):w.cell? ⟨b,0,none⟩=some a/\w.cell? ⟨b,1,none⟩=some c:=by unfold World.cell?;rw[h];exact⟨rfl,rfl⟩
def Q1{w:Qm}{b:Nat}{a c d:Q0}{t:TypeId}{f:Nat × Nat}(h:w.heap[b]? =some (.cells #[a,c,d] t f)):w.cell? ⟨b,0,none⟩=some a/\w.cell? ⟨b,1,none⟩=some c/\w.cell? ⟨b,2,none⟩=some d:=by unfold World.cell?;rw[h];exact⟨rfl,rfl,rfl⟩
def Qi{w:Qm}{b:Nat}{a0 a1 a2 a3 a4 a5 a6 a7 a8:Q0}{t:TypeId}{f:Nat × Nat}(h:w.heap[b]? =some (.cells #[a0,a1,a2,a3,a4,a5,a6,a7,a8] t f)):
  w.cell? ⟨b,0,none⟩=some a0/\w.cell? ⟨b,1,none⟩=some a1/\w.cell? ⟨b,2,none⟩=some a2/\w.cell? ⟨b,3,none⟩=some a3/\w.cell? ⟨b,4,none⟩=some a4/\w.cell? ⟨b,5,none⟩=some a5/\w.cell? ⟨b,6,none⟩=some a6/\w.cell? ⟨b,7,none⟩=some a7/\w.cell? ⟨b,8,none⟩=some a8:=by
 unfold World.cell?;rw[h];exact⟨rfl,rfl,rfl,rfl,rfl,rfl,rfl,rfl,rfl⟩
abbrev Qz := Nat → Prop
def AK(S:Qz)(w:Qm)(lv:Q0)(n:Nat)(xs:Kb):Prop:=
 n<=1099511627776/\((lv=.slice none 0 0/\n=0/\xs=[])∨
  ∃b off cap cur f,lv=.slice (some ⟨b,off,none⟩) n cap/\S b/\w.heap[b]? =some (.cells cur 27 f)/\n<=cap/\off+9*n<=cur.size/\xs=(cur.toList.drop off).take (9*n))
mutual
def Aa.Bp(S:Qz)(w:Qm):Aa->Kb->Prop
 | .node h l,cs=>h.ok/\∃lv xs,cs=Qn h lv/\AK S w lv l.length xs/\Ak S w l xs
def Ak(S:Qz)(w:Qm):Qp->Kb->Prop
 | [],xs=>xs=[]
 |x::l,xs=>∃cs rest,xs=cs++rest/\x.Bp S w cs/\Ak S w l rest
end
def Rep.length{S:Qz}{w:Qm}:∀{t:Aa} {cs:Kb},t.Bp S w cs->cs.length=9
 | .node h l,cs,⟨_,lv,xs,e,_⟩=>by rw[e];rfl
def Ak.length{S:Qz}{w:Qm}:∀{l:Qp} {xs:Kb},Ak S w l xs->xs.length=9*l.length
 | [],xs,h=>by rw[Ak]at h;simp[h]
 |x::l,xs,h=>by
  rw[Ak]at h;obtain⟨cs,rest,e,h1,h2⟩:=h;rw[e,Zv,Rep.length h1,Ak.length h2,Xf];omega
def AK.Af{S:Qz}{K:Nat->Obj->Prop}{w w':Qm}{lv:Q0}{n:Nat}{xs:Kb}(hk:Ac K w w')(hK:∀b,S b->∀c f,K b (.cells c 27 f))(h:AK S w lv n xs):AK S w' lv n xs:=by
 obtain⟨z,h| ⟨b,v,q,j,f,e,y,m,t,u,d⟩⟩:=h
 ·exact⟨z,.inl h⟩
 ·exact⟨z,.inr ⟨b,v,q,j,f,e,y,hk.same _ _ m (hK b y _ _),t,u,d⟩⟩
def AK.mono{S S':Qz}{w:Qm}{lv:Q0}{n:Nat}{xs:Kb}(hS:∀b,b<w.heap.size->S b->S' b)(h:AK S w lv n xs):AK S' w lv n xs:=by
 obtain⟨m,h| ⟨b,y,v,j,f,e,q,z,d,u,c⟩⟩:=h
 ·exact⟨m,.inl h⟩
 ·exact⟨m,.inr ⟨b,y,v,j,f,e,hS b (Qg z) q,z,d,u,c⟩⟩
mutual
def Aa.Bp.Af{S:Qz}{K:Nat->Obj->Prop}{w w':Qm}(hk:Ac K w w')(hK:∀b,S b->∀c f,K b (.cells c 27 f)):∀{t:Aa} {cs:Kb},t.Bp S w cs->t.Bp S w' cs
 | .node h l,cs,hh=>by
  rw[Aa.Bp]at hh|-;obtain⟨ho,lv,xs,e,h1,h2⟩:=hh;exact⟨ho,lv,xs,e,h1.Af hk hK,Ak.Af hk hK h2⟩
def Ak.Af{S:Qz}{K:Nat->Obj->Prop}{w w':Qm}(hk:Ac K w w')(hK:∀b,S b->∀c f,K b (.cells c 27 f)):∀{l:Qp} {xs:Kb},Ak S w l xs->Ak S w' l xs
 | [],xs,h=>by rw[Ak]at h|-;exact h
 |x::l,xs,h=>by
  rw[Ak]at h|-;obtain⟨cs,rest,e,h1,h2⟩:=h;exact⟨cs,rest,e,h1.Af hk hK,Ak.Af hk hK h2⟩
end
mutual
def Aa.Bp.mono{S S':Qz}{w:Qm}(hS:∀b,b<w.heap.size->S b->S' b):∀{t:Aa} {cs:Kb},t.Bp S w cs->t.Bp S' w cs
 | .node h l,cs,hh=>by
  rw[Aa.Bp]at hh|-;obtain⟨ho,lv,xs,e,h1,h2⟩:=hh;exact⟨ho,lv,xs,e,h1.mono hS,Ak.mono hS h2⟩
def Ak.mono{S S':Qz}{w:Qm}(hS:∀b,b<w.heap.size->S b->S' b):∀{l:Qp} {xs:Kb},Ak S w l xs->Ak S' w l xs
 | [],xs,h=>by rw[Ak]at h|-;exact h
 |x::l,xs,h=>by
  rw[Ak]at h|-;obtain⟨cs,rest,e,h1,h2⟩:=h;exact⟨cs,rest,e,h1.mono hS,Ak.mono hS h2⟩
end
def Ak.get{S:Qz}{w:Qm}:∀{l:Qp} {xs:Kb} (i:Nat) (hi:i<l.length),Ak S w l xs->(l[i]).Bp S w ((xs.drop (9*i)).take 9)
 |x::l,xs,0,hi,h=>by
  rw[Ak]at h;obtain⟨cs,rest,e,h1,h2⟩:=h;have j:=Rep.length h1;subst e;simpa[j] using(show x.Bp S w ((cs++rest).take 9) from by rw[<-j,List.take_left'];exact h1;rfl)
 |x::l,xs,i+1,hi,h=>by
  rw[Ak]at h;obtain⟨cs,rest,e,h1,h2⟩:=h;have j:=Rep.length h1
  have:=Ak.get i (by simpa using hi) h2;subst e;rw[show 9*(i+1)=cs.length+9*i by omega,List.drop_append,nB (show cs.length<=cs.length+9*i by omega)];simpa using this
def Ad(S:Qz)(w:Qm)(l:Qp)(lv:Q0):Prop:=∃xs,AK S w lv l.length xs/\Ak S w l xs
def Kc{S:Qz}{w:Qm}{h:Hd}{l:Qp}{cs:Kb}:(Aa.node h l).Bp S w cs↔h.ok/\∃lv,cs=Qn h lv/\Ad S w l lv:=by
 rw[Aa.Bp];constructor
 ·rintro⟨j,lv,q,e,v,y⟩;exact⟨j,lv,e,q,v,y⟩
 ·rintro⟨j,lv,e,q,v,y⟩;exact⟨j,lv,q,e,v,y⟩
def Ad.Af{S:Qz}{K:Nat->Obj->Prop}{w w':Qm}{l:Qp}{lv:Q0}(hk:Ac K w w')(hK:∀b,S b->∀c f,K b (.cells c 27 f))(h:Ad S w l lv):Ad S w' l lv:=by
 obtain⟨q,j,v⟩:=h;exact⟨q,j.Af hk hK,v.Af hk hK⟩
def Ad.same{S:Qz}{w w':Qm}{l:Qp}{lv:Q0}(hk:Qd w w')(h:Ad S w l lv):Ad S w' l lv:=h.Af hk fun _ _ _ _=>trivial
def Ad.mono{S S':Qz}{w:Qm}{l:Qp}{lv:Q0}(hS:∀b,b<w.heap.size->S b->S' b)(h:Ad S w l lv):Ad S' w l lv:=by
 obtain⟨q,j,v⟩:=h;exact⟨q,j.mono hS,v.mono hS⟩
def Ad.Ab{S:Qz}{w:Qm}{l:Qp}{lv:Q0}(h:Ad S w l lv):∃a cap,lv=.slice a l.length cap:=by
 obtain⟨z,⟨d,h| ⟨b,q,cap,j,f,e,y,m,c,n,u⟩⟩,v⟩:=h
 ·exact⟨none,0,by rw[h.1,h.2.1]⟩
 ·exact⟨_,cap,e⟩
def Ad.nil(S:Qz)(w:Qm):Ad S w [] (.slice none 0 0):=⟨[],⟨sM,.inl ⟨rfl,rfl,rfl⟩⟩,by rw[Ak]⟩
def VQ{P:Prop}(h:P:=by
 have:=(DT.1 hj).1;simp only[Ji]at this;omega):P:=h
def Ad.shape{S:Qz}{w:Qm}{l:Qp}{lv:Q0}(h:Ad S w l lv):l.length<=1099511627776/\∃a cap,lv=.slice a l.length cap/\l.length<=cap/\
  ∀i (hi:i<l.length),∃b off lv',a=some ⟨b,off,none⟩/\S b/\(∃cur f,w.heap[b]? =some (.cells cur 27 f))/\Ad S w (l[i]).l lv'/\(l[i]).hd.ok/\w.rangeAt b (off+i*9) (Qn (l[i]).hd lv'):=by
 obtain⟨x,⟨m,h| ⟨b,off,cap,cur,f,e,u,y,k,p,t⟩⟩,d⟩:=h
 ·exact⟨m,none,0,by rw[h.1,h.2.1],oM,fun i hi=>absurd hi oM⟩
 ·refine⟨m,_,cap,e,k,fun i hi=>?_⟩;have z:=d.get i hi;have hx:l[i]=.node (l[i]).hd (l[i]).l:=(Aa.eta _).symm;rw[hx,Kc]at z;obtain⟨c,lv',e',n⟩:=z;refine⟨b,off,lv',rfl,u,⟨cur,f,y⟩,n,c,fun j v hj=>?_⟩;rw[<-e']at hj;have q:j<9:=by
   exact VQ
  rw[E5 q,T6,t,E5 oM,T6]at hj;unfold World.cell?;simp only[y];simpa[LM,Jj i 9] using hj
def Ak.take{S:Qz}{w:Qm}:∀{l:Qp} {xs:Kb} (k:Nat),Ak S w l xs->Ak S w (l.take k) (xs.take (9*k))
 | [],xs,k,h=>by rw[Ak]at h;subst h;simp[Ak]
 |x::l,xs,0,h=>by simp[Ak]
 |x::l,xs,k+1,h=>by
  rw[Ak]at h;obtain⟨cs,rest,e,h1,h2⟩:=h;rw[Nc,Ak];refine⟨cs,rest.take (9*k),?_,h1,h2.take k⟩;subst e;have j:=Rep.length h1;rw[List.take_append,Nd oM,j,show 9*(k+1)-9=9*k by omega]
def Ad.take{S:Qz}{w:Qm}{l:Qp}{b off cap:Nat}(h:Ad S w l (.slice (some ⟨b,off,none⟩) l.length cap))(k:Nat)(hk:k<=l.length):Ad S w (l.take k) (.slice (some ⟨b,off,none⟩) k cap):=by
 obtain⟨n,⟨d,h| ⟨b',v,y,q,f,e,m,u,x,t,c⟩⟩,z⟩:=h
 ·cases h.1
 ·cases e;have j:(l.take k).length=k:=by rw[Ji];omega
  refine⟨n.take (9*k),⟨oM,.inr ⟨b,off,_,q,f,by rw[j],m,u,oM,oM,?_⟩⟩,z.take k⟩;rw[c,j,List.take_take];congr 1;omega
def Qgf(w:Qm)(b o:Nat)(h:Hd)(lv:Q0):Prop:=
 w.cell? ⟨b,o,none⟩=some (.int .i64 h.kind)/\w.cell? ⟨b,o+1,none⟩=some (.bool h.b)/\w.cell? ⟨b,o+2,none⟩=some (.bool h.d.neg)/\w.cell? ⟨b,o+3,none⟩=some (.string h.d.digits)/\
 w.cell? ⟨b,o+4,none⟩=some (.int .i64 h.d.exp)/\w.cell? ⟨b,o+5,none⟩=some (.int .u64 h.u)/\w.cell? ⟨b,o+6,none⟩=some (.int .i64 h.w)/\w.cell? ⟨b,o+7,none⟩=some (.string h.s)/\w.cell? ⟨b,o+8,none⟩=some lv
def Z0{w:Qm}{b o:Nat}{h:Hd}{lv:Q0}(hr:w.rangeAt b o (Qn h lv)):Qgf w b o h lv:=
 ⟨hr 0 _ rfl,hr 1 _ rfl,hr 2 _ rfl,hr 3 _ rfl,hr 4 _ rfl,hr 5 _ rfl,hr 6 _ rfl,hr 7 _ rfl,hr 8 _ rfl⟩
def Qdl(w:Qm)(b o:Nat)(h:Hd)(lv:Q0):Prop:=
 (∀x,(w.alloc x).cell? ⟨b,o,none⟩=some (.int .i64 h.kind))/\(∀x,(w.alloc x).cell? ⟨b,o+1,none⟩=some (.bool h.b))/\(∀x,(w.alloc x).cell? ⟨b,o+2,none⟩=some (.bool h.d.neg))/\(∀x,(w.alloc x).cell? ⟨b,o+3,none⟩=some (.string h.d.digits))/\
 (∀x,(w.alloc x).cell? ⟨b,o+4,none⟩=some (.int .i64 h.d.exp))/\(∀x,(w.alloc x).cell? ⟨b,o+5,none⟩=some (.int .u64 h.u))/\(∀x,(w.alloc x).cell? ⟨b,o+6,none⟩=some (.int .i64 h.w))/\(∀x,(w.alloc x).cell? ⟨b,o+7,none⟩=some (.string h.s))/\(∀x,(w.alloc x).cell? ⟨b,o+8,none⟩=some lv)
def X9{w:Qm}{p:Addr}{v:Q0}(h:w.cell? p=some v)(x:Obj):(w.alloc x).cell? p=some v:=((Ac.refl All w).alloc x).cell h fun _ _=>trivial
def LT{w:Qm}{b o:Nat}{h:Hd}{lv:Q0}(hr:w.rangeAt b o (Qn h lv)):Qdl w b o h lv:=
 ⟨X9 (hr 0 _ rfl),X9 (hr 1 _ rfl),X9 (hr 2 _ rfl),X9 (hr 3 _ rfl),X9 (hr 4 _ rfl),X9 (hr 5 _ rfl),X9 (hr 6 _ rfl),X9 (hr 7 _ rfl),X9 (hr 8 _ rfl)⟩
def Qy{w w':Qm}{b o:Nat}{cs:Kb}(hk:Qd w w')(h:w.rangeAt b o cs):w'.rangeAt b o cs:=fun j v q=>hk.cell (h j v q) fun _ _=>trivial
def Zd{K:Nat->Obj->Prop}{w w':Qm}{b o:Nat}{cs:Kb}(hk:Ac K w w')(hK:∀o,w.heap[b]? =some o->K b o)(h:w.rangeAt b o cs):w'.rangeAt b o cs:=fun j v q=>hk.cell (h j v q) hK
abbrev K3:Qz:=fun _=>True
def Sh:∀(l:Qp) (k:Nat) (h:k<l.length),Xr (l.take (k+1))=max (Xr (l.take k)) (l[k]).depth
 |x::l,0,_=>by simp[Xr]
 |x::l,k+1,h=>by simp only[Nc,Xr,L0];rw[Sh l k (by simpa using h)];omega
def Nh:∀(l:Qp) (k:Nat) (h:k<l.length),(l[k]).depth<=Xr l
 |x::l,0,_=>by simp[Xr];omega
 |x::l,k+1,h=>by have:=Nh l k (by simpa using h);simp only[Xr,L0];omega
def K8{l:Qp}{x:Aa}(h:x∈l):x.depth<=Xr l:=by
 obtain⟨k,j,rfl⟩:=ZC h;exact Nh l k j
def TE:∀(l:Qp) (k:Nat) (h:k<l.length),(l[k]).count<=Q7 l
 |x::l,0,_=>by simp[Q7]
 |x::l,k+1,h=>by have:=TE l k (by simpa using h);simp only[Q7,L0];omega
def TF{l:Qp}{x:Aa}(h:x∈l):x.count<=Q7 l:=by
 obtain⟨k,j,rfl⟩:=ZC h;exact TE l k j
def TG(l m:Qp)(k:Nat)(h:k<l.length)(h':k<m.length):BU (l.drop k) (m.drop k)=((l[k]).same (m[k])&&BU (l.drop (k+1)) (m.drop (k+1))):=by
 rw[Dq h,Dq h'];rfl
def EZ:∀(l m:Qp),l.length≠m.length->BU l m=false
 | [],[],h=>by simp at h
 | [],_::_,_=>rfl
 |_::_,[],_=>rfl
 |x::l,y::m,h=>by simp[BU,EZ l m (by simpa using h)]
abbrev pt(b:Nat):Q0:=.pointer (some ⟨b,0,none⟩)
abbrev ad(b o:Nat):Addr:=⟨b,o,none⟩
abbrev i6(x:Int):Q0:=.int .i64 x
def Rv{w:Qm}{b o:Nat}{h:Hd}{lv:Q0}(hr:w.rangeAt b o (Qn h lv)):w.cell? ⟨b,o,none⟩=some (.int .i64 h.kind)/\w.cell? ⟨b,o+1,none⟩=some (.bool h.b)/\w.cell? ⟨b,o+2,none⟩=some (.bool h.d.neg)/\w.cell? ⟨b,o+3,none⟩=some (.string h.d.digits)/\w.cell? ⟨b,o+4,none⟩=some (.int .i64 h.d.exp)/\w.cell? ⟨b,o+5,none⟩=some (.int .u64 h.u)/\w.cell? ⟨b,o+6,none⟩=some (.int .i64 h.w)/\w.cell? ⟨b,o+7,none⟩=some (.string h.s)/\w.cell? ⟨b,o+8,none⟩=some lv:=Z0 hr
def rB:∀t:Aa,∀(S:Qz) (lv:Q0) (w:Qm),t.depth<=1099511627776->Ad S w t.l lv->Calls prog 99 #[Qu t.hd lv] w fun e w'=>e=.returned (.int .i64 t.depth)/\Qd w w':=by
 refine Aa.ind fun h l x=>?_
 intro S lv w hc c;simp only[Aa.Ae,Aa.Ag]at c|-;obtain⟨m,a,d,rfl,u,p⟩:=c.shape;go_in;go_wp2;go_loopw [3,9] (fun v i wr=>∃k:Nat,k<=l.length/\i=i6 k/\v=i6 (Xr (l.take k))/\Qd w wr)
  (fun _ i _=>l.length-(RowKit.intOf i).toNat)
 case atStart=>exact⟨0,Xi _,rfl,by simp[Xr],(Ac.refl _ _).alloc _⟩
 case round=>
  obtain⟨k,hk,rfl,rfl,q⟩:=hrel;by_cases j:k<l.length
  ·obtain⟨b,f,a1,rfl,hS,hb,hr,a0,y⟩:=p k j;obtain⟨a',n,rfl⟩:=hr.Ab;have c0:=Rv (Qy q y);go_wp2_with(first| (go_at_call 99;refine(x _ (Zp j) S _ _ ?hc ?hr).mono ?_;(case hc=>(have:=Nh l k j;simp only[Aa.depth]at hc;omega));(case hr=>exact(hr.same q).same ((Ac.refl _ _).alloc _));rintro e w' ⟨rfl,z⟩));go_roundw
   case rel=>exact⟨k+1,oM,by go_num,by rw[Sh l k j];congr 1;first| (split<;>omega)|omega,(q.alloc _).trans z⟩
   case measure=>simp[RowKit.intOf];omega
  ·obtain rfl:k=l.length:=oM;have r:wrap64 ((Xr l:Int)+1)=((Xr l+1:Nat):Int):=by rw[F9 _ (by simp only[Aa.depth]at hc;omega)];rfl
   go_wp2;go_ret;exact⟨by simp[Aa.depth,r],q⟩
def gW(l m:Qp)(S:Qz)(lv lv':Q0)(w:Qm)(Ha:Ad S w l lv)(Hb:Ad S w m lv')
  (H:∀x∈l,∀(u:Aa) (lv lv':Q0) (W:Qm),Ad S W x.l lv->Ad S W u.l lv'->Calls prog 39 #[Qu x.hd lv,Qu u.hd lv'] W fun e w'=>e=.returned (.bool (x.same u))/\Qd W w'):
  Calls prog 77 #[lv,lv',.func (.func 39) #[] #[]] w fun e w'=>e=.returned (.bool (BU l m))/\Qd w w':=by
 obtain⟨ac,a,a8,rfl,a5,hi⟩:=Ha.shape
 obtain⟨aa,b,a4,rfl,a1,p⟩:=Hb.shape
 by_cases q:l.length=m.length
 ·have t:((l.length:Int)!=(m.length:Int))=false:=by simp[q]
  replace q:=Qc q;go_in;go_wp2;go_loopw [17] (fun i wr=>∃k:Nat,k<=l.length/\i=i6 k/\BU l m=BU (l.drop k) (m.drop k)/\Qd w wr) (fun i _=>l.length-(RowKit.intOf i).toNat)
  case atStart=>exact⟨0,Xi _,rfl,rfl,Ac.refl _ _⟩
  case round=>
   obtain⟨k,hk,rfl,z,j⟩:=hrel;by_cases v:k<l.length
   ·have n:k<m.length:=by have:=q.out;omega
    obtain⟨b1,a3,ag,rfl,hS,hb,hr,ab,a0⟩:=hi k v;obtain⟨b2,a6,ae,rfl,ah,a9,d,a2,f⟩:=p k n;obtain⟨a',af,rfl⟩:=hr.Ab;obtain⟨ad,a7,rfl⟩:=d.Ab;have c0:=Rv (Qy j a0);obtain⟨d0,d1,d2,d3,d4,d5,d6,d7,d8⟩:=LT (Qy j f);rw[TG l m k v n]at z;replace z:=Qc z;generalize y:(l[k]).same (m[k])=r at z;replace y:=Qc y;cases r with
    |true=>
     go_wp2_with(first| (go_at_call 39;refine(H _ (Zp v) (m[k]) _ _ _ ?h1 ?h2).mono ?_;(case h1=>exact((hr.same j).same (((Ac.refl _ _).alloc _).alloc _)));(case h2=>exact((d.same j).same (((Ac.refl _ _).alloc _).alloc _)));rintro e w' ⟨rfl,c⟩;rw[y.out]));exact⟨⟨k+1,oM,by go_num,by simpa using z.out,((j.alloc _).alloc _).trans c⟩,by simp[RowKit.intOf];omega⟩
    |false=>
     go_wp2_with(first| (go_at_call 39;refine(H _ (Zp v) (m[k]) _ _ _ ?h1 ?h2).mono ?_;(case h1=>exact((hr.same j).same (((Ac.refl _ _).alloc _).alloc _)));(case h2=>exact((d.same j).same (((Ac.refl _ _).alloc _).alloc _)));rintro e w' ⟨rfl,c⟩;rw[y.out]));go_ret;exact⟨by rw[z.out];simp,((j.alloc _).alloc _).trans c⟩
   ·obtain rfl:k=l.length:=oM;go_wp2;go_ret;refine⟨?_,j⟩;rw[z,FR,q.out,FR];rfl
 ·have t:((l.length:Int)!=(m.length:Int))=true:=by rw[bne_iff_ne];omega
  have z:=EZ l m q;go_in;go_wp2;go_ret;exact⟨by simp[z],Ac.refl _ _⟩
def wH(h g:Hd)(h1:h.kind=g.kind)(h2:h.b=g.b)(h3:h.d.neg=g.d.neg)(h4:h.d.digits=g.d.digits)(h5:h.d.exp=g.d.exp)(h6:h.u=g.u)(h7:h.w=g.w)(h8:h.s=g.s):h=g:=by
 rcases h with⟨_,_,⟨_,_,_⟩,_,_,_⟩;rcases g with⟨_,_,⟨_,_,_⟩,_,_,_⟩;simp_all
def Pd{a b:Qo}(h:a=b):(a.toList==b.toList)=true:=by rw[h];simp
def Pe{a b:Qo}(h:¬a=b):(a.toList==b.toList)=false:=by
 rw[X6];intro e;rw[Hx,Hx]at e;exact h (E6 (Array.ext' e))
def Sj{P:Prop}(h:P:=by
 go_in;go_wp2;go_ret;exact⟨by simp[hs],((Ac.refl _ _).alloc _).alloc _⟩):P:=h
def FZ:∀t u:Aa,∀(S:Qz) (lv lv':Q0) (w:Qm),Ad S w t.l lv->Ad S w u.l lv'->Calls prog 39 #[Qu t.hd lv,Qu u.hd lv'] w fun e w'=>e=.returned (.bool (t.same u))/\Qd w w':=by
 refine Aa.ind fun h l ih=>?_
 rintro⟨g,m⟩ S lv lv' w hl p;simp only[Aa.Ae,Aa.Ag]at hl p|-;obtain⟨a,a1,rfl⟩:=hl.Ab;obtain⟨a2,a0,rfl⟩:=p.Ab;by_cases c:h.kind=g.kind
 ·have k1:((h.kind:Int)==g.kind)=true:=by simp[c]
  by_cases j:h.b=g.b
  ·have k2:(h.b==g.b)=true:=by simp[j]
   by_cases y:h.d.neg=g.d.neg
   ·have k3:(h.d.neg==g.d.neg)=true:=by simp[y]
    by_cases q:h.d.digits=g.d.digits
    ·have k4:(h.d.digits.toList==g.d.digits.toList)=true:=Pd q;by_cases v:h.d.exp=g.d.exp
     ·have k5:((h.d.exp:Int)==g.d.exp)=true:=by simp[v]
      by_cases f:h.u=g.u
      ·have k6:((h.u:Int)==(g.u:Int))=true:=by simp[f]
       by_cases z:h.w=g.w
       ·have k7:((h.w:Int)==g.w)=true:=by simp[z]
        by_cases n:h.s=g.s
        ·have k8:(h.s.toList==g.s.toList)=true:=Pd n;have k:=wH h g c j y q v f z n;clear c j y q v f z n;replace k:=Qc k;go_in;go_wp2_with(first| (go_at_call 77;refine(gW l m S _ _ _ ?h1 ?h2 ?h3).mono ?_;(case h1=>exact hl.same (((Ac.refl _ _).alloc _).alloc _));(case h2=>exact p.same (((Ac.refl _ _).alloc _).alloc _));(case h3=>exact fun x hx u lv lv' W h1 h2=>ih x hx u S lv lv' W h1 h2);rintro e w' ⟨rfl,r⟩));go_ret;exact⟨by simp[Aa.same,k.out],(((Ac.refl _ _).alloc _).alloc _).trans r⟩
        ·have hs:(Aa.node h l).same (.node g m)=false:=by simp only[Aa.same,BT,Rg];exact .inl fun e=>n (by rw[e])
         have k8:(h.s.toList==g.s.toList)=false:=Pe n;clear n;exact Sj
       ·have hs:(Aa.node h l).same (.node g m)=false:=by simp only[Aa.same,BT,Rg];exact .inl fun e=>z (by rw[e])
        have k7:((h.w:Int)==g.w)=false:=by simp[z]
        clear z;exact Sj
      ·have hs:(Aa.node h l).same (.node g m)=false:=by simp only[Aa.same,BT,Rg];exact .inl fun e=>f (by rw[e])
       have k6:((h.u:Int)==(g.u:Int))=false:=by simp;omega
       clear f;exact Sj
     ·have hs:(Aa.node h l).same (.node g m)=false:=by simp only[Aa.same,BT,Rg];exact .inl fun e=>v (by rw[e])
      have k5:((h.d.exp:Int)==g.d.exp)=false:=by simp[v]
      clear v;exact Sj
    ·have hs:(Aa.node h l).same (.node g m)=false:=by simp only[Aa.same,BT,Rg];exact .inl fun e=>q (by rw[e])
     have k4:(h.d.digits.toList==g.d.digits.toList)=false:=Pe q;clear q;exact Sj
   ·have hs:(Aa.node h l).same (.node g m)=false:=by simp only[Aa.same,BT,Rg];exact .inl fun e=>y (by rw[e])
    have k3:(h.d.neg==g.d.neg)=false:=by simp[y]
    clear y;exact Sj
  ·have hs:(Aa.node h l).same (.node g m)=false:=by simp only[Aa.same,BT,Rg];exact .inl fun e=>j (by rw[e])
   have k2:(h.b==g.b)=false:=by simp[j]
   clear j;exact Sj
 ·have hs:(Aa.node h l).same (.node g m)=false:=by simp only[Aa.same,BT,Rg];exact .inl fun e=>c (by rw[e])
  have k1:((h.kind:Int)==g.kind)=false:=by simp[c]
  clear c;exact Sj
def VR{P:Program}{w:Qm}{base:Nat}{t ty e:TypeId}{i:TypeInfo}{z:Q0}{size bytes:Nat}(ht:P.underlying t=some (.slice e))(hi:P.info? e=some i)(hz:i.zero=some z)
  (hsize:i.size=size)(hby:i.bytes=bytes)(hsz:0<size){v:Q0}{n:Nat}{xs:Kb}(hown:w.ownsRow base e size v n xs)
  {a:Addr}{m c:Nat}{news:Kb}(hl:news.length=m*size)(hnews:∀j u,news[j]? =some u->w.cell? (a.add j)=some u)(h1:∀u∈news,u.oneCell'=true)
  (h63:n+m<=maxLen)(hbytes:(n+m)*bytes<=140737488355328){v':Q0}{w':Qm}(hr:(Builtin.append_ #[t,t] ty #[v,.slice (some a) m c]).run P w=.ok v' w'):
  v'.ownBlock=v.ownBlock∨v'.ownBlock=some w.heap.size:=by
 subst hsize;subst hby
 rcases hown.2 with⟨rfl,rfl⟩| ⟨g,b,d,rfl,a1,r,p,a0,k,x⟩
 ·by_cases hm:m=0
  ·subst hm;have hn:news=[]:=wC (by simpa using hl);subst hn;left;simp[Builtin.append_,Rh ht,sizeOf,typeInfo,hi,Builtin.lenOf,Builtin.firstCells,loadCells,loadCellsFrom]at hr;rw[<-hr.1]
  ·have q:=run_append_nil (P:=P) w t ty e i z ht hi hz a m c news hl hnews oM (by simp only[maxLen]at h63;omega) (by simp only[Z3]at hbytes;omega);rw[q]at hr;cases hr;exact .inr rfl
 ·by_cases y:n+m<=b
  ·have f:n*i.size+news.length<=d.size:=by rw[hl,k,<-Aaa];exact FT _ y
   have q:=run_append_room (P:=P) w t ty e i ht hi g n b d r a m c news hl hnews h1 y f;rw[q]at hr;cases hr;exact .inl rfl
  ·have holds:∀j u,xs[j]? =some u->w.cell? (((ad g 0):Addr).add j)=some u:=hown.cells (g:=g) rfl;have q:=run_append_grow (P:=P) w t ty e i z ht hi hz (ad g 0) n b xs hown.1 holds a m c news hl hnews oM (by simp only[maxLen]at h63;omega) (growslice_fits oM hbytes);rw[q]at hr;cases hr;exact .inr rfl
def rC:(prog.info? 27).map (fun i=>(i.zero,i.size,i.bytes))=some (some (Qu ⟨0,false,Ko,0,0,⟨#[]⟩⟩ (.slice none 0 0)),9,104):=by kernel_rfl
def Ar(S:Qz)(w:Qm)(B:Nat)(v:Q0)(l:Qp):Prop:=
 ∃xs,w.ownsRow B 27 9 v l.length xs/\Ak (fun b=>S b/\v.ownBlock≠some b) w l xs
def Ar.nil(S:Qz)(w:Qm)(B:Nat):Ar S w B (.slice none 0 0) []:=⟨[],Yz _ _ _ _,by rw[Ak]⟩
def NM{P:Prop}(h:P:=by
 rcases h.2 with⟨rfl,h0⟩| ⟨g,cap,cur,rfl,_⟩
 ·exact⟨none,0,by rw[h0]⟩
 ·exact⟨_,cap,rfl⟩):P:=h
def Ar.Ab{S:Qz}{w:Qm}{B:Nat}{v:Q0}{l:Qp}(h:Ar S w B v l):∃a cap,v=.slice a l.length cap:=by
 obtain⟨j,h,_⟩:=h;exact NM
def Ar.rep{S:Qz}{w:Qm}{B:Nat}{v:Q0}{l:Qp}(h:Ar S w B v l)(hS:∀b,B<=b->S b)(hn:l.length<=1099511627776):Ad S w l v:=by
 obtain⟨n,h,c⟩:=h;refine⟨n,⟨hn,?_⟩,c.mono fun _ _ h=>h.1⟩;rcases h.2 with⟨rfl,y⟩| ⟨g,q,j,rfl,u,z,d,_,m,f⟩
 ·exact .inl ⟨rfl,y,CW.1 (by rw[h.1,y])⟩
 ·exact .inr ⟨g,0,q,j,_,rfl,hS g u,z,d,by rw[m];omega,by rw[FU,<-f,Jj]⟩
def Ar.Af{S:Qz}{K:Nat->Obj->Prop}{w w':Qm}{B:Nat}{v:Q0}{l:Qp}(h:Ar S w B v l)(hk:Ac K w w')(hK:∀b,S b∨B<=b->∀c f,K b (.cells c 27 f)):Ar S w' B v l:=by
 obtain⟨u,h,d⟩:=h;refine⟨u,⟨h.1,?_⟩,d.Af hk fun b q=>hK b (.inl q.1)⟩;rcases h.2 with n| ⟨g,z,y,rfl,q,m,j⟩
 ·exact .inl n
 ·exact .inr ⟨g,z,y,rfl,q,hk.same _ _ m (hK g (.inr q) _ _),j⟩
def Ar.same{S:Qz}{w w':Qm}{B:Nat}{v:Q0}{l:Qp}(h:Ar S w B v l)(hk:Qd w w'):Ar S w' B v l:=h.Af hk fun _ _ _ _=>trivial
def Ar.apart{S:Qz}{w:Qm}{B:Nat}{v:Q0}{l:Qp}(h:Ar S w B v l){b:Nat}(hb:b<B):v.ownBlock≠some b:=by
 obtain⟨j,h,_⟩:=h;intro e
 have:=(h.lt b e).1;omega
def Ar.lt{S:Qz}{w:Qm}{B:Nat}{v:Q0}{l:Qp}(h:Ar S w B v l){b:Nat}(hb:w.heap.size<=b):v.ownBlock≠some b:=by
 obtain⟨j,h,_⟩:=h;intro e
 have:=(h.lt b e).2;omega
def Ds{w W w1:Qm}{B:Nat}{S:Qz}{v:Q0}{l:Qp}(hs:Qd w W)(hB:w.heap.size<=B)(hown:Ar S W B v l)(hg:W.grownBy w1 v.ownBlock):Qd w w1:=by
 obtain⟨y,h,_⟩:=hown;exact hs.grown hg fun r q o _ _ j=>by have:=(h.lt r q).1;omega
structure Wz(Q:Prop):Prop where
 o:Q
def Qgg{P Q:Prop}(h:Q)(f:Wz Q->P:=by
 intro zz;obtain⟨i,hi,hz⟩:=Hi.1 rC;simp only[LO]at hz;revert i hi hz;exact zz.o):P:=f ⟨h⟩
def wI{P:Prop}(h:P:=by
 intro l;induction l with
 |nil=>intro ts xs news h1 h2;rw[Ak]at h1;subst h1;exact h2
 |cons x l ih=>
  intro ts xs news h1 h2;rw[Ak]at h1;obtain⟨cs,rest,e,h3,h4⟩:=h1;rw[Y0,Ak];exact⟨cs,rest++news,by rw[e,Y1],h3,ih ts rest news h4 h2⟩):P:=h
def E8{S:Qz}{w:Qm}{B:Nat}{v:Q0}{l ts:Qp}{ad:Addr}{c m:Nat}{news:Kb}(ty:TypeId)(hown:Ar S w B v l)(hm:m=ts.length)
  (hn:Ak (fun b=>S b/\v.ownBlock≠some b) w ts news)(hc:∀j u,news[j]? =some u->w.cell? (ad.add j)=some u)(h1:∀u∈news,u.oneCell'=true)(hlen:l.length+ts.length<=1099511627776)(hB:B<=w.heap.size):
  ∃v' w',(Builtin.append_ #[25,25] ty #[v,.slice (some ad) m c]).run prog w=.ok v' w'/\Ar S w' B v' (l++ts)/\w.grownBy w' v.ownBlock:=by
 subst hm
 obtain⟨xs,y,n⟩:=hown
 refine Qgg ?_
 intro i hi hz
 have d:=hn.length
 have t:news.length=ts.length*9:=by rw[d,Jj]
 obtain⟨v',w',q,h2,h3,_⟩:=OV (P:=prog) w B 25 ty 27 i _ 9 104 underlying25 hi hz.1 hz.2.1 hz.2.2 rfl dM v l.length xs y ad ts.length c news t hc h1 (by unfold maxLen;omega) oM hB
 have x:=VR (P:=prog) underlying25 hi hz.1 hz.2.1 hz.2.2 dM y t hc h1 (by unfold maxLen;omega) oM q
 refine⟨v',w',q,⟨xs++news,?_,?_⟩,h3⟩
 ·rw[Zv];exact h2
 ·have z:∀{l:Qp} {xs:Kb},Ak (fun b=>S b/\v.ownBlock≠some b) w l xs->Ak (fun b=>S b/\v'.ownBlock≠some b) w' l xs:=fun{l xs} h=>by
   have h5:Ak (fun b=>S b/\v.ownBlock≠some b/\v'.ownBlock≠some b) w l xs:=h.mono fun b f h=>⟨h.1,h.2,by
    rcases x with e|e
    ·rw[e];exact h.2
    ·rw[e];intro e;cases e;omega⟩
   have k:Ac (fun b _=>v.ownBlock≠some b) w w':=(Ac.refl _ w).grown h3 fun r n o _ p _=>p n
   exact(h5.Af k fun b f _ _=>f.2.1).mono fun b _ h=>⟨h.1,h.2.2⟩
  have:∀(l ts:Qp) (xs news:Kb),Ak (fun b=>S b/\v'.ownBlock≠some b) w' l xs->Ak (fun b=>S b/\v'.ownBlock≠some b) w' ts news->Ak (fun b=>S b/\v'.ownBlock≠some b) w' (l++ts) (xs++news):=by
   exact wI
  exact this _ _ _ _ (z n) (z hn)
def Qgh{P Q:Prop}(h:Q)(f:Wz Q->P:=by
 intro zz;unfold Oper.wp execOp;simp only[ho,resolve,invoke,builtin,Vv,N4,Yd,List.map_toArray,Zy,EV,hs,hx,hr];exact zz.o):P:=f ⟨h⟩
def Jn{S:Qz}{w:Qm}{ops:Array Oper}{rest:List Oper}{o:Oper}{a:Act}{Q:Exit->Act->Qm->Prop}(hgd:o.guard=none)(s x:Operand)
  (ho:o.op=.call {callee:=.builtin .append,args:=#[s,x],argTypes:=#[25,25]}){B:Nat}{v:Q0}{l ts:Qp}{ad:Addr}{c m:Nat}{news:Kb}(hs:a.eval s=v)(hx:a.eval x=.slice (some ad) m c)(hown:Ar S w B v l)(hm:m=ts.length)
  (hn:Ak (fun b=>S b/\v.ownBlock≠some b) w ts news)(hc:∀j u,news[j]? =some u->w.cell? (ad.add j)=some u)(h1:∀u∈news,u.oneCell'=true)(hlen:l.length+ts.length<=1099511627776)(hB:B<=w.heap.size)
  (h:∀v' w',Ar S w' B v' (l++ts)->w.grownBy w' v.ownBlock->wpList prog ops Q rest (a.put o.dst v') w'):wpList prog ops Q (o::rest) a w:=by
 refine wpList_plain hgd fun K y=>?_
 obtain⟨v',w',hr,z,q⟩:=E8 o.type hown hm hn hc h1 hlen hB (c:=c)
 refine Qgh ?_
 exact y _ _ (h v' w' z q)
abbrev Jr := Option Addr
def N6(h:Hd)(a:Jr)(n cap:Nat):∀u∈Qn h (.slice a n cap),u.oneCell'=true:=by
 intro u j;simp at j;rcases j with rfl|rfl|rfl|rfl|rfl|rfl|rfl|rfl|rfl<;>rfl
def Jw(w:Qm)(arr:Array Q0)(t:TypeId)(j:Nat)(u:Q0)(h:arr.toList[j]? =some u):(w.alloc (.cells arr t)).cell? ((⟨w.heap.size,0,none⟩:Addr).add j)=some u:=by
 have q:((ad w.heap.size 0):Addr).add j=(ad w.heap.size j):=by unfold Addr.add;split<;>simp_all
 rw[q,Vj _ _ j arr t (0,0) (Qt w _)];simpa using h
def Y4{S:Qz}{w:Qm}{x:Aa}{cs:Kb}(h:x.Bp S w cs):Ak S w [x] cs:=by
 rw[Ak];exact⟨cs,[],sM,h,by rw[Ak]⟩
def Sk:∀(k:Nat) (l:Qp) (h:2*k<l.length),Zb (l.take (2*(k+1)))=Zb (l.take (2*k))++[l[2*k]]
 |0,[x],_=>rfl
 |0,x::y::l,_=>rfl
 |k+1,x::y::l,h=>by
  have:=Sk k l (by simp at h;omega);simp only[show 2*(k+1+1)=2*(k+1)+2 by omega,show 2*(k+1)=2*k+2 by omega,Nc,Zb,L0]at this|-;rw[this,Y0]
 |k+1,[x],h=>by simp at h
def LU:∀(l:Qp),2*(Zb l).length<=l.length+1
 | []=>by simp[Zb]
 | [x]=>by simp[Zb]
 |x::y::l=>by have:=LU l;simp[Zb];omega
def TH:∀{l:Qp} {x:Aa},x∈Zb l->x∈l
 | [x],y,h=>h
 |x::z::l,y,h=>by
  simp only[Zb,Xg]at h;rcases h with rfl|h
  ·simp
  ·simp[TH h]
def NN(l:Qp)(S:Qz)(lv:Q0)(w:Qm)(hS:∀b,w.heap.size<=b->S b)(hl:Ad S w l lv):
  Calls prog 184 #[lv] w fun e w'=>∃v',e=.returned v'/\Ad S w' (Zb l) v'/\Qd w w':=by
 obtain⟨a4,a,a6,rfl,a5,hi⟩:=hl.shape
 go_in
 go_wp2
 go_loopw [3,4] (fun v i wr=>∃k:Nat,2*k<=l.length+1/\i=i6 ((2*k:Nat):Int)/\Ar S wr w.heap.size v (Zb (l.take (2*k)))/\Qd w wr)
  (fun _ i _=>l.length+2-(RowKit.intOf i).toNat)
 case atStart=>exact⟨0,oM,rfl,by simpa[Zb] using Ar.nil S w w.heap.size,Ac.refl _ _⟩
 case round=>
  obtain⟨k,hk,rfl,y,m⟩:=hrel;generalize d:2*k=q;by_cases c:q<l.length
  ·obtain⟨b,a7,ab,rfl,a9,hb,hr,a3,r⟩:=hi q c;obtain⟨a',x,rfl⟩:=hr.Ab;obtain⟨c0,c1,c2,c3,c4,c5,c6,c7,c8⟩:=Z0 (Qy m r);have n:=LU (l.take (2*k));rw[Ji]at n;have p:=Qc d;clear d;obtain⟨a0,t,hv⟩:=y.Ab;subst hv;go_wp2_with(at_builtin;refine Jn (v:=.slice a0 (Zb (l.take (2*k))).length t) (ts:=[l[q]]) (news:=Qn (l[q]).hd (.slice a' (l[q]).l.length x)) rfl _ _ rfl rfl rfl (y.same ((Ac.refl _ _).alloc _)) rfl ?c2 ?c3 (N6 _ _ _ _) ?c4 ?c5 ?_)
   case c2=>
    refine Y4 ?_;rw[<-Aa.eta (l[q]),Kc];refine⟨a3,_,rfl,?_⟩;exact((hr.mono (fun b hb h=>(⟨h,y.apart hb⟩:_/\_))).same m).same ((Ac.refl _ _).alloc _)
   case c3=>exact fun j u h=>Jw _ _ _ _ _ h
   case c4=>simp only[Xf,Vp];omega
   case c5=>have:=m.size;simp;omega
   intro v' w1 z hg;have f:Qd w w1:=Ds (m.alloc _) (Q6 _) (y.same ((Ac.refl _ _).alloc _)) hg;obtain⟨a1,aa,a2⟩:=z.Ab;subst a2;go_wp2;have a8:2*(Zb (l.take (2*k))).length<=q+1:=by have:=p.out;omega
   refine⟨⟨k+1,by have:=p.out;omega,by have:=p.out;congr 1;omega,?_,f⟩,by simp[RowKit.intOf];omega⟩;have e:Zb (l.take (2*k))++[l[q]]=Zb (l.take (2*(k+1))):=by
    have d:=p.out;subst d;rw[Sk k l c]
   rw[e]at z|-;exact z
  ·have n:Zb (l.take (2*k))=Zb l:=by rw[Nd oM]
   rw[n]at y;obtain⟨a0,t,hv⟩:=y.Ab;subst hv;clear d;go_wp2;go_ret;exact⟨_,rfl,(y.rep hS (by have:=LU l;omega)),m⟩
def NO(p:Aa->Bool):∀(l:Qp) (k:Nat) (h:k<l.length),(l.take (k+1)).any p=((l.take k).any p||p (l[k]))
 |x::l,0,_=>sM
 |x::l,k+1,h=>by simp only[Nc,List.any_cons,L0];rw[NO p l k (by simpa using h),Bool.or_assoc]
def A0(w:Qm)(b:Nat)(h:Hd)(lv:Q0):Prop:=w.heap[b]? =some (.cells (Qn h lv).toArray 27 (0,0))
def A0.range{w:Qm}{b:Nat}{h:Hd}{lv:Q0}(hb:A0 w b h lv):w.rangeAt b 0 (Qn h lv):=by
 intro j v q;unfold World.cell?;rw[hb];simpa using q
def A0.Af{K:Nat->Obj->Prop}{w w':Qm}{b:Nat}{h:Hd}{lv:Q0}(hb:A0 w b h lv)(hk:Ac K w w')(hK:∀c f,K b (.cells c 27 f)):A0 w' b h lv:=hk.same _ _ hb (hK _ _)
def A0.same{w w':Qm}{b:Nat}{h:Hd}{lv:Q0}(hb:A0 w b h lv)(hk:Qd w w'):A0 w' b h lv:=hk.s hb
def Qfk(fv:Q0)(S:Qz)(p:Aa->Bool)(l:Qp)(w:Qm):Prop:=
 ∃g lb,fv=.func (.func g) #[] lb/\(∀args w,(callFunc g args).run prog w=.ok (.enter g args) w)/\
 ∀x∈l,∀lv W,Qd w W->Ad S W x.l lv->Calls prog g (#[Qu x.hd lv]++lb) W fun e w'=>e=.returned (.bool (p x))/\Qd W w'
def QX(l:Qp)(S:Qz)(p:Aa->Bool)(fv lv:Q0)(w:Qm)(hl:Ad S w l lv)(hp:Qfk fv S p l w):
  Calls prog 197 #[lv,fv] w fun e w'=>(∃r:Int,e=.returned (.int .i64 r)/\decide (0<=r)=l.any p)/\Qd w w':=by
 obtain⟨f,a,a0,rfl,x,hi⟩:=hl.shape
 obtain⟨g,lb,rfl,eg,hp⟩:=hp
 go_in
 go_wp2
 go_loopw [8] (fun i wr=>∃k:Nat,k<=l.length/\i=i6 k/\(l.take k).any p=false/\Qd w wr) (fun i _=>l.length-(RowKit.intOf i).toNat)
 case atStart=>exact⟨0,Xi _,rfl,rfl,Ac.refl _ _⟩
 case round=>
  obtain⟨k,hk,rfl,m,j⟩:=hrel;replace m:=Qc m;by_cases v:k<l.length
  ·obtain⟨b,a1,a4,rfl,a3,hb,d,a2,u⟩:=hi k v;obtain⟨a',t,rfl⟩:=d.Ab;have c0:=Rv (Qy j u);have q:(l.take (k+1)).any p=((l.take k).any p||p (l[k])):=NO p l k v;rw[m.out]at q;generalize z:p (l[k])=r at q;have HA:=Qc q;have n:=Qc z;have Hm:l[k]∈l:=Zp v;clear z q;cases r with
   |true=>
    have c:l.any p=true:=FV.2 ⟨l[k],Hm,n.out⟩;go_wp2_with fail;refine(hp _ (Zp v) _ _ j (d.same j)).mono ?_;rintro e w' ⟨rfl,y⟩;rw[n.out];go_wp2;go_ret;exact⟨⟨_,rfl,by rw[c];simp⟩,j.trans y⟩
   |false=>
    go_wp2_with fail;refine(hp _ (Zp v) _ _ j (d.same j)).mono ?_;rintro e w' ⟨rfl,y⟩;rw[n.out];go_wp2;exact⟨⟨k+1,oM,by go_num,by rw[HA.out];rfl,j.trans y⟩,by simp[RowKit.intOf];omega⟩
  ·obtain rfl:k=l.length:=oM;go_wp2;go_ret
   have:=m.out;rw[Vc]at this;exact⟨⟨_,rfl,by rw[this];rfl⟩,j⟩
def Cd(l:Qp)(S:Qz)(p:Aa->Bool)(fv lv:Q0)(w:Qm)(hl:Ad S w l lv)(hp:Qfk fv S p l w):
  Calls prog 116 #[lv,fv] w fun e w'=>e=.returned (.bool (l.any p))/\Qd w w':=by
 obtain⟨j,a,y,n,q,c⟩:=hl.shape
 obtain⟨g,b,v,d,u⟩:=id hp
 subst n v
 go_in
 go_wp2_with(first| (go_at_call 197;refine(QX l S p _ _ _ hl hp).mono ?_;rintro e w' ⟨⟨r,rfl,m⟩,z⟩))
 go_ret
 exact⟨by simp[<-m],z⟩
def TI(x y:Aa)(S:Qz)(lx ly:Q0)(b:Nat)(w:Qm)(hb:A0 w b x.hd lx)(hx:Ad S w x.l lx)(hy:Ad S w y.l ly):
  Calls prog 305 #[Qu y.hd ly,.pointer (some ⟨b,0,none⟩)] w fun e w'=>e=.returned (.bool (x.same y))/\Qd w w':=by
 obtain⟨a,v,rfl⟩:=hx.Ab
 obtain⟨k,q,rfl⟩:=hy.Ab
 obtain⟨p,d,t,z,n,u,f,c,m⟩:=LT hb.range
 simp only[Z3]at d t z n u f c m
 go_in
 go_wp2_with(first| (go_at_call 39;refine(FZ x y S _ _ _ ?h1 ?h2).mono ?_;(case h1=>exact hx.same ((Ac.refl _ _).alloc _));(case h2=>exact hy.same ((Ac.refl _ _).alloc _));rintro e w' ⟨rfl,j⟩))
 go_ret
 exact⟨rfl,((Ac.refl _ _).alloc _).trans j⟩
def X0{α:Sort _}(a:α):∃x,a=x:=⟨_,rfl⟩
def NP(l:Qp)(S:Qz)(lv:Q0)(w:Qm)(hl:Ad S w l lv):
  Calls prog 249 #[lv] w fun e w'=>e=.returned (.bool (J8 l))/\Qd w w':=by
 obtain⟨a0,a,a3,rfl,a2,hi⟩:=hl.shape
 go_in
 go_wp2
 go_loopw [7] (fun i wr=>∃k:Nat,k<=l.length/\i=i6 k/\(List.range k).any (Ct l)=false/\Qd w wr) (fun i _=>l.length-(RowKit.intOf i).toNat)
 case atStart=>exact⟨0,Xi _,rfl,rfl,Ac.refl _ _⟩
 case round=>
  obtain⟨k,hk,rfl,d,j⟩:=hrel;replace d:=Qc d;by_cases z:k<l.length
  ·obtain⟨b,a4,a7,rfl,a6,hb,p,a5,t⟩:=hi k z;obtain⟨a',a1,rfl⟩:=p.Ab;have c0:=Rv (Qy j t);have q:(List.range (k+1)).any (Ct l)=((List.range k).any (Ct l)||Ct l k):=by rw[OW,List.any_append];simp
   rw[d.out]at q;obtain⟨r,v⟩:=X0 ((l.take k).any (fun y=>(l[k]).same y));have c:Ct l k=r:=by unfold Ct;rw[Km z];exact v
   rw[c]at q;replace q:=Qc q;replace v:=Qc v;replace c:=Qc c;cases r with
   |true=>
    have x:J8 l=true:=FV.2 ⟨k,Vw.2 z,c.out⟩;go_wp2_with fail;refine(Cd (l.take k) S (fun y=>(l[k]).same y) _ _ _ ?h1 ?h2).mono ?_
    case h1=>exact(((hl.take k oM).same j).same ((Ac.refl _ _).alloc _))
    case h2=>
     refine⟨_,_,rfl,X3 func305 kM rfl,fun y hy f W u m=>?_⟩;refine TI (l[k]) y S _ f _ W (A0.same ?_ u) ((p.same ((j.alloc _).trans u))) m;exact Qt wr _
    rintro e w' ⟨rfl,n⟩;rw[v.out];go_wp2;go_ret;exact⟨by rw[x];rfl,(j.alloc _).trans n⟩
   |false=>
    go_wp2_with fail;refine(Cd (l.take k) S (fun y=>(l[k]).same y) _ _ _ ?h1 ?h2).mono ?_
    case h1=>exact(((hl.take k oM).same j).same ((Ac.refl _ _).alloc _))
    case h2=>
     refine⟨_,_,rfl,X3 func305 kM rfl,fun y hy f W u m=>?_⟩;refine TI (l[k]) y S _ f _ W (A0.same ?_ u) ((p.same ((j.alloc _).trans u))) m;exact Qt wr _
    rintro e w' ⟨rfl,n⟩;rw[v.out];go_wp2;exact⟨⟨k+1,oM,by go_num,q.out,(j.alloc _).trans n⟩,by simp[RowKit.intOf];omega⟩
  ·obtain rfl:k=l.length:=oM;go_wp2;go_ret;exact⟨by unfold J8;rw[d.out];rfl,j⟩
def N7(h g:Hd)(l:Qp)(S:Qz)(lv:Q0)(w:Qm)(hl:Ad S w l lv):
  Calls prog 248 #[Qu h lv,Qu g (.slice none 0 0)] w fun e w'=>e=.returned (.bool (Zr (.node h l) g))/\Qd w w':=by
 obtain⟨a,v,rfl⟩:=hl.Ab
 by_cases j:l.length=0
 ·obtain rfl:l=[]:=CW.1 j;clear j;go_in;go_wp2_with(first| (go_at_call 39;refine(FZ (.node h []) (.node {g with kind:=h.kind} []) S _ _ _ ?h1 ?h2).mono ?_;(case h1=>exact hl.same (((Ac.refl _ _).alloc _).alloc _));(case h2=>exact Ad.nil _ _);rintro e w' ⟨rfl,q⟩));go_ret;exact⟨by simp[Zr,Aa.same,BU];exact VL.2 Iff.rfl,(((Ac.refl _ _).alloc _).alloc _).trans q⟩
 ·have h1:((l.length:Int)==0)=false:=by rw[X6];omega
  have h2:Zr (.node h l) g=false:=by simp only[Zr,Aa.Ag,BT];left;cases l<;>simp at j|-
  go_in;go_wp2;go_ret;exact⟨by simp[h2],((Ac.refl _ _).alloc _).alloc _⟩
section
variable{F:Fence}{n:Nat}{P:Program}{ops:Array Oper}{Q:Exit->Act->Qm->Prop}{S:Qm->Prop}{X:Oper->Bool}
def ext(a:Act)(ds:List Deferred):Act:={a with defers:=ds++a.defers}
def Lc(a:Act)(ds:List Deferred)(d:Option Tmp)(v:Q0):(ext a ds).put d v=ext (a.put d v) ds:=by cases d<;>rfl
def TJ(a:Act)(ds:List Deferred):(ext a ds).eval=a.eval:=by funext x;cases x<;>rfl
def Ia(a:Act)(ds:List Deferred):(ext a ds).tmps=a.tmps:=rfl
def Bz(F:Fence)(n:Nat)(P:Program)(k:List Deferred->Q0->Qm->Prop):Result Next->Prop
 | .ok (.value v) w'=>k [] v w'
 | .ok .skip w'=>k [] undef w'
 | .ok (.defer d) w'=>k [d] undef w'
 | .ok (.enter f args) w'=>CallsIn F (n-1) P f args w' fun e w''=>∃v,e=.returned v/\k [] v w''
 | .ok (.row row args) w'=>RowsIn F (n-1) P row args w' (k [])
 | .ok (.round l f tmps assign body) w'=>RoundIn F (n-1) P l f tmps assign body w' fun e w''=>∃v,e=.returned v/\k [] v w''
 |_=>False
def Bz.mono{k k':List Deferred->Q0->Qm->Prop}{r:Result Next}(h:Bz F n P k r)(hk:∀d v w,k d v w->k' d v w):Bz F n P k' r:=by
 cases r with
 |ok x w'=>
  cases x<;>simp only[Bz]at h|- <;>
   first
    |exact hk _ _ _ h
    |exact CallsIn.mono h fun e y ⟨v,q,j⟩=>⟨v,q,hk _ _ _ j⟩
    |exact RowsIn.mono h fun _ _ j=>hk _ _ _ j
    |exact RoundIn.mono h fun e y ⟨v,q,j⟩=>⟨v,q,hk _ _ _ j⟩
 |halt x w'=>exact h
def Bz.some{k:List Deferred->Q0->Qm->Prop}{r:Result Next}(hd:F.depth=none)(h:Bz F n P k r):∃d v w,k d v w:=by
 have j:∀m,F.room m:=fun m d z=>by rw[hd]at z;cases z
 cases r with
 |ok x w'=>
  cases x<;>simp only[Bz]at h
  case value v=>exact⟨_,_,_,h⟩
  case skip=>exact⟨_,_,_,h⟩
  case defer d=>exact⟨_,_,_,h⟩
  case enter f args=>obtain⟨e,q,u,⟨v,_,y⟩,_⟩:=h.2 [] (j _);exact⟨_,v,q,y⟩
  case row row args=>obtain⟨v,q,y,_⟩:=h default [] (j _);exact⟨_,v,q,y⟩
  case round l f tmps assign body=>obtain⟨e,q,⟨v,_,y⟩,_⟩:=h.2 default [] (j _);exact⟨_,v,q,y⟩
 |halt x w'=>exact h.elim
def ZF(Q:Exit->Act->Qm->Prop):Prop:=(∀c a w,¬Q (.panic c) a w)/\∀a w,¬Q .outgrown a w
def G3(o:Oper):Bool:=match o.op with| .defer _=>false| .select .. =>false|_=>true
def NQ{o:Oper}(h:G3 o=true):∀c,o.op≠ .defer c:=by
 intro c j;simp[G3,j]at h
def ML{o:Oper}(h:G3 o=true):∀cs b,o.op≠ .select cs b:=by
 intro c b j;simp[G3,j]at h
def Ib{o:Oper}(h:G3 o=true)(r:Option Nat)(ρ:Operand->Q0):Oper.semAt r ρ o=execOp ρ o:=by
 cases r with
 |none=>exact Oper.semAt_none ρ o
 |some l=>exact Oper.semAt_some l ρ o (NQ h)
def C3{o:Oper}{a:Act}{w:Qm}{K:Act->Qm->Prop}(hp:G3 o=true)(hF:∀f,F.fn f)(hd:F.depth=none)(hQ:ZF Q):
  o.wpIn F n P a w K Q↔Bz F n P (fun ds v w'=>K (ext (a.put o.dst v) ds) w') ((execOp a.eval o).run P w):=by
 unfold Oper.wpIn
 rw[Ib hp]
 generalize(execOp a.eval o).run P w=r
 constructor
 ·rintro⟨_,h⟩;cases r with
  |ok x w'=>
   cases x<;>simp only[Oper.uponIn,Bz]at h|-
   case value v=>exact h
   case skip=>exact h
   case defer d=>rw[<-Lc];exact h
   case enter f args=>
    refine CallsIn.mono h.2 ?_;intro e y q;cases e with
    |returned v=>exact⟨v,rfl,q⟩
    |panicked c=>exact absurd q (hQ.1 _ _ _)
    |outgrown=>obtain⟨u,m,j⟩:=q;exact absurd j (hQ.2 _ _)
   case row row args=>exact h.2
   case round l f tmps assign body=>
    refine RoundIn.mono h.2 ?_;intro e y q;cases e with
    |returned v=>exact⟨v,rfl,q⟩
    |panicked c=>exact absurd q (hQ.1 _ _ _)
    |outgrown=>obtain⟨u,m,j⟩:=q;exact absurd j (hQ.2 _ _)
  |halt x w'=>cases x<;>simp only[Oper.uponIn,Bz]at h|-;exact absurd h (hQ.1 _ _ _)
 ·intro h;refine⟨fun f _=>hF f,?_⟩;cases r with
  |ok x w'=>
   cases x<;>simp only[Oper.uponIn,Bz]at h|-
   case value v=>exact h
   case skip=>exact h
   case defer d=>rw[<-Lc]at h;exact h
   case enter f args=>exact⟨fun j=>(by rw[hd]at j;cases j),CallsIn.mono h fun e y ⟨v,q,z⟩=>(by subst q;exact z)⟩
   case row row args=>exact⟨fun j=>(by rw[hd]at j;cases j),h⟩
   case round l f tmps assign body=>exact⟨fun j=>(by rw[hd]at j;cases j),RoundIn.mono h fun e y ⟨v,q,z⟩=>(by subst q;exact z)⟩
  |halt x w'=>exact h.elim
def N8(F:Fence)(n:Nat)(P:Program)(ops:Array Oper)(Q:Exit->Act->Qm->Prop)(S:Qm->Prop)(X:Oper->Bool)(o:Oper)(K:Act->Qm->Prop)(a:Act)(w:Qm):Prop:=
 if Region.wanted o (yielded ops a.tmps)=true then
  (if X o=true then∀w',S w'->∃v,(execOp a.eval o).run P w'=.ok (.value v) w'/\(execOp a.eval o).run P w=.ok (.value v) w/\K (a.put o.dst v) w
   else o.wpIn F n P a w (fun a' w'=>S w'/\K a' w') Q)
 else K (a.put o.dst undef) w
def Dh(F:Fence)(n:Nat)(P:Program)(ops:Array Oper)(Q:Exit->Act->Qm->Prop)(S:Qm->Prop)(X:Oper->Bool):List Oper->Act->Qm->Prop
 | [],a,w=>Q .normal a w
 |o::rest,a,w=>N8 F n P ops Q S X o (Dh F n P ops Q S X rest) a w
def TK{o:Oper}{K K':Act->Qm->Prop}{a:Act}{w:Qm}(hS:S w)(hK:∀a w,S w->K a w->K' a w)(h:N8 F n P ops Q S X o K a w):N8 F n P ops Q S X o K' a w:=by
 unfold N8 at h|-;split
 ·rename_i q;rw[Qe q]at h;split
  ·rename_i hx;rw[Qe hx]at h;intro w' j;obtain⟨v,z,m,y⟩:=h w' j;exact⟨v,z,m,hK _ _ hS y⟩
  ·rename_i hx;rw[Qa hx]at h;exact Oper.wpIn_mono (fun a w h=>⟨h.1,hK _ _ h.1 h.2⟩) h
 ·rename_i q;rw[Qa q]at h;exact hK _ _ hS h
def gX(hF:∀f,F.fn f)(hd:F.depth=none)(hQ:ZF Q){p o:Oper}{K:Act->Qm->Prop}{a:Act}{w:Qm}(hp:G3 p=true)(ho:G3 o=true)
  (hap:p.apart ops o=true)(hX:X p=true∨X o=true)(hS:S w)
  (h:N8 F n P ops Q S X p (fun a w=>S w->N8 F n P ops Q S X o K a w) a w):N8 F n P ops Q S X o (fun a w=>S w->N8 F n P ops Q S X p K a w) a w:=by
 obtain⟨h1,h2,h3⟩:=Oper.apart_spec hap
 have eo:∀(a:Act) v,execOp (a.put p.dst v).eval o=execOp a.eval o:=fun a v=>execOp_put o (ML ho) a p.dst v h1
 have ep:∀(a:Act) v,execOp (a.put o.dst v).eval p=execOp a.eval p:=fun a v=>execOp_put p (ML hp) a o.dst v h3
 have wo:∀(a:Act) v,Region.wanted o (yielded ops (a.put p.dst v).tmps)=Region.wanted o (yielded ops a.tmps):=fun a v=>wanted_put o a p.dst v h1
 have r:∀(a:Act) v,Region.wanted p (yielded ops (a.put o.dst v).tmps)=Region.wanted p (yielded ops a.tmps):=fun a v=>wanted_put p a o.dst v h3
 have pc:∀(a:Act) u v,(a.put p.dst u).put o.dst v=(a.put o.dst v).put p.dst u:=fun a u v=>Act.put_comm a u v h2
 unfold N8 at h|-
 by_cases m:Region.wanted p (yielded ops a.tmps)=true
 ·rw[Qe m]at h;by_cases j:Region.wanted o (yielded ops a.tmps)=true
  ·rw[Qe j];by_cases c:X p=true
   ·rw[Qe c]at h;by_cases y:X o=true
    ·rw[Qe y];intro w' z;obtain⟨u,a6,a2,d⟩:=h w hS;have d:=d hS;rw[wo,Qe j,Qe y]at d;obtain⟨v,x,t,d⟩:=d w' z;rw[eo]at x t;refine⟨v,x,t,fun _=>?_⟩;rw[r,Qe m,Qe c];intro w1 a5;obtain⟨u',a0,k,_⟩:=h w1 a5;have e:u'=u:=by have:=k.symm.trans a2;simpa using this
     subst e;rw[ep];exact⟨u',a0,k,by rw[<-pc];exact d⟩
    ·rw[Qa y];obtain⟨u,a6,a2,d⟩:=h w hS;have d:=d hS;rw[wo,Qe j,Qa y,C3 ho hF hd hQ,eo]at d;rw[C3 ho hF hd hQ];refine d.mono fun ds v w2 ⟨ab,ad⟩=>⟨ab,fun _=>?_⟩
     rw[Ia,r,Qe m,Qe c,TJ];intro w1 a5;obtain⟨u',a0,k,_⟩:=h w1 a5;have e:u'=u:=by have:=k.symm.trans a2;simpa using this
     subst e;obtain⟨a9,a8,a7,_⟩:=h w2 ab;have e:a9=u':=by have:=a7.symm.trans k;simpa using this
     subst e;rw[ep];exact⟨a9,a0,a8,by rw[Lc,<-pc];exact ad⟩
   ·rw[Qa c]at h;have y:X o=true:=hX.resolve_left c;rw[Qe y];rw[C3 hp hF hd hQ]at h;obtain⟨ae,u0,w0,aa,a1⟩:=h.some hd;have a1:=a1 aa;rw[Ia,wo,Qe j,Qe y,TJ]at a1;have ac:∃v,∀w',S w'->(execOp a.eval o).run P w'=.ok (.value v) w':=by
     obtain⟨v,_,t,_⟩:=a1 w0 aa;rw[eo]at t;refine⟨v,fun w' z=>?_⟩;obtain⟨v',a4,a3,_⟩:=a1 w' z;rw[eo]at a4 a3;have e:v'=v:=by have:=a3.symm.trans t;simpa using this
     subst e;exact a4
    obtain⟨v,hv⟩:=ac;intro w' z;refine⟨v,hv w' z,hv w hS,fun _=>?_⟩;rw[r,Qe m,Qa c,C3 hp hF hd hQ,ep];refine h.mono fun ds u w1 ⟨b,q⟩=>⟨b,?_⟩
    have q:=q b;rw[Ia,wo,Qe j,Qe y,TJ]at q;obtain⟨v1,x,_,q⟩:=q w1 b;rw[eo,hv w1 b]at x;have e:v=v1:=by simpa using x
    subst e;rw[<-pc,<-Lc];exact q
  ·rw[Qa j];intro _;rw[r,Qe m];by_cases c:X p=true
   ·rw[Qe c]at h|-;intro w' z;obtain⟨u,a6,a2,d⟩:=h w' z;have d:=d hS;rw[wo,Qa j]at d;rw[ep];exact⟨u,a6,a2,by rw[<-pc];exact d⟩
   ·rw[Qa c]at h|-;rw[C3 hp hF hd hQ]at h|-;rw[ep];refine h.mono fun ds u w1 ⟨b,q⟩=>⟨b,?_⟩
    have q:=q b;rw[Ia,wo,Qa j,Lc]at q;rw[<-pc];exact q
 ·rw[Qa m]at h;have h:=h hS;by_cases j:Region.wanted o (yielded ops a.tmps)=true
  ·rw[wo,Qe j]at h;rw[Qe j];by_cases y:X o=true
   ·rw[Qe y]at h|-;intro w' z;obtain⟨v,x,t,d⟩:=h w' z;rw[eo]at x t;refine⟨v,x,t,fun _=>?_⟩;rw[r,Qa m,<-pc];exact d
   ·rw[Qa y]at h|-;rw[C3 ho hF hd hQ]at h|-;rw[eo]at h;refine h.mono fun ds v w1 ⟨b,q⟩=>⟨b,fun _=>?_⟩
    rw[Ia,r,Qa m,Lc,<-pc];exact q
  ·rw[wo,Qa j]at h;rw[Qa j];intro _;rw[r,Qa m,<-pc];exact h
def Pf(hF:∀f,F.fn f)(hd:F.depth=none)(hQ:ZF Q){o:Oper}{post:List Oper}(ho:G3 o=true):∀(pre:List Oper) (a:Act) (w:Qm),
  (∀p∈pre,G3 p=true/\p.apart ops o=true/\(X p=true∨X o=true))->S w->
  Dh F n P ops Q S X (pre++o::post) a w->N8 F n P ops Q S X o (Dh F n P ops Q S X (pre++post)) a w
 | [],_,_,_,_,h=>h
 |p::pre,a,w,hpre,hS,h=>by
  have hp:=hpre p (Yr ..);have h':N8 F n P ops Q S X p (Dh F n P ops Q S X (pre++o::post)) a w:=h;have y:=TK hS (K':=fun a w=>S w->N8 F n P ops Q S X o (Dh F n P ops Q S X (pre++post)) a w)
   (fun a w _ v j=>Pf hF hd hQ ho pre a w (fun q z=>hpre q (Kk _ z)) j v) h'
  exact TK hS (fun a w j v=>v j) (gX hF hd hQ hp.1 ho hp.2.1 hp.2.2 hS y)
def Dt{o:Oper}{rest:List Oper}{a:Act}{w:Qm}(hg:o.guard=none)(hx:X o=true)
  (h:∀K:Act->Qm->Prop,(∀a w,Dh F n P ops Q S X rest a w->K a w)->∀w',S w'->∃v,(execOp a.eval o).run P w'=.ok (.value v) w'/\(execOp a.eval o).run P w=.ok (.value v) w/\K (a.put o.dst v) w):
  Dh F n P ops Q S X (o::rest) a w:=by
 unfold Dh N8
 rw[Qe (by simp[Region.wanted,hg]),Qe hx]
 exact h _ fun _ _ h=>h
def TL{o:Oper}{rest:List Oper}{a:Act}{w:Qm}(hg:o.guard=none)(hx:X o=false)
  (h:∀K:Act->Qm->Prop,(∀a w,S w->Dh F n P ops Q S X rest a w->K a w)->o.wpIn F n P a w K Q):
  Dh F n P ops Q S X (o::rest) a w:=by
 unfold Dh N8
 rw[Qe (by simp[Region.wanted,hg]),Qa (by simp[hx])]
 exact h _ fun _ _ j q=>⟨j,q⟩
def Jk(Q:Exit->Act->Qm->Prop):Exit->Act->Qm->Prop
 | .normal,a,w=>Q .normal a w
 |_,_,_=>False
def MM:ZF (Jk Q):=⟨fun _ _ _ h=>h,fun _ _ h=>h⟩
def H7{a:Act}{w:Qm}(h:Q .normal a w):Dh F n P ops (Jk Q) S X [] a w:=h
def wJ{o:Oper}{rest:List Oper}{a:Act}{w:Qm}(hw:Region.wanted o (yielded ops a.tmps)=false)(h:Dh F n P ops Q S X rest (a.put o.dst undef) w):Dh F n P ops Q S X (o::rest) a w:=by
 unfold Dh N8;rw[Qa (by simp[hw])];exact h
def Qgi{o:Oper}{rest:List Oper}{a:Act}{w:Qm}(hw:Region.wanted o (yielded ops a.tmps)=true)(hx:X o=true)
  (h:∀K:Act->Qm->Prop,(∀a w,Dh F n P ops Q S X rest a w->K a w)->∀w',S w'->∃v,(execOp a.eval o).run P w'=.ok (.value v) w'/\(execOp a.eval o).run P w=.ok (.value v) w/\K (a.put o.dst v) w):
  Dh F n P ops Q S X (o::rest) a w:=by
 unfold Dh N8
 rw[Qe hw,Qe hx]
 exact h _ fun _ _ h=>h
def Qgj{o:Oper}{rest:List Oper}{a:Act}{w:Qm}(hw:Region.wanted o (yielded ops a.tmps)=true)(hx:X o=false)
  (h:∀K:Act->Qm->Prop,(∀a w,S w->Dh F n P ops Q S X rest a w->K a w)->o.wpIn F n P a w K Q):
  Dh F n P ops Q S X (o::rest) a w:=by
 unfold Dh N8
 rw[Qe hw,Qa (by simp[hx])]
 exact h _ fun _ _ j q=>⟨j,q⟩
def reads(o:Oper):Bool:=match o.op with
 | .move _| .assign _| .pick .. | .load .. | .nilCheck _| .binOp .. | .unOp .. | .convert .. | .fieldAddr .. | .field .. | .indexAddr .. | .index .. | .slice .. | .extract .. | .makeInterface .. | .makeFunc .. | .build .. | .typeAssert .. | .lookup .. =>true
 | .call {callee:=.builtin .len,..}| .call {callee:=.builtin .cap,..}| .call {callee:=.builtin .min,..}| .call {callee:=.builtin .max,..}=>true
 |_=>false
def MN(ops:Array Oper):Nat->Nat->Nat->Bool
 |0,i,j=>match ops[j]? with
  |some o=>o.after.toList.any fun e=>Region.binds .any e&&e.on==i
  |none=>false
 |k+1,i,j=>match ops[j]? with
  |some o=>(o.after.toList.any fun e=>Region.binds .any e&&e.on==i)||o.after.toList.any fun e=>Region.binds .any e&&MN ops k i e.on
  |none=>false
def TM(ops:Array Oper)(X:Oper->Bool)(i j:Nat):Bool:=
 match ops[i]?,ops[j]? with
 |some p,some o=>(p.apart ops o&&(X p||X o))||MN ops 10 i j
 |_,_=>true
def Fb(ops:Array Oper)(X:Oper->Bool):Bool:=
 (List.range ops.size).all fun j=>
  (match ops[j]? with
   |some o=>G3 o&&o.after.all fun e=> !Region.binds .any e||decide (e.on<j)
   |none=>true)&&
  (List.range j).all fun i=>TM ops X i j
def TN(ops:Array Oper)(listed:Array Bool):Prop:=∀(m:Nat) o,ops[m]? =some o->listed.getD m false=true->∀e∈o.after,Region.binds .any e=true->listed.getD e.on false=true
def Db{listed:Array Bool}(hc:TN ops listed):∀(k i j:Nat),MN ops k i j=true->(∀o,ops[j]? =some o->∀e∈o.after,Region.binds .any e=true->listed.getD e.on false=true)->listed.getD i false=true
 |0,i,j,h,hj=>by
  unfold MN at h;cases ho:ops[j]? with
  |none=>rw[ho]at h;cases h
  |some o=>
   rw[ho]at h;simp only[FV,Array.mem_toList_iff,X1,beq_iff_eq]at h;obtain⟨e,he,hb,rfl⟩:=h;exact hj o ho e he hb
 |k+1,i,j,h,hj=>by
  unfold MN at h;cases ho:ops[j]? with
  |none=>rw[ho]at h;cases h
  |some o=>
   rw[ho]at h;simp only[FV,Array.mem_toList_iff,X1,beq_iff_eq,Y2]at h;rcases h with⟨e,he,hb,rfl⟩| ⟨e,he,hb,v⟩
   ·exact hj o ho e he hb
   ·exact Db hc k i e.on v fun o' q=>hc e.on o' q (hj o ho e he hb)
def Yi{l:Array Bool}{i:Nat}(h:i<l.size):l.getD i true=l.getD i false:=by simp[Array.getD,h]
def Qfl{P:Prop}(h:P:=by
 intro j o ho;have hlt:j<ops.size:=(QW.1 ho).1;unfold Fb at hchk;rw[Vf]at hchk
 have:=hchk j (Vw.2 hlt);simp only[ho,X1,Vf,Vw,Array.all_eq_true_iff_forall_mem,Y2,FA,Zz]at this;exact⟨this.1.1,fun e he hb=>(this.1.2 e he).resolve_left (by simp[hb]),this.2⟩):P:=h
def TO(hF:∀f,F.fn f)(hd:F.depth=none)(hQ:ZF Q)(hchk:Fb ops X=true):∀(m:Nat) (T:Qv) (listed:Array Bool) (a:Act) (w:Qm),T.length=m->T.Pairwise (· < ·)->
  (∀i,i∈T↔i<ops.size/\listed.getD i true=false)->TN ops listed->listed.size=ops.size->S w->Dh F n P ops Q S X (T.filterMap (ops[·]?)) a w->wpAnyIn F n P .any ops Q m listed a w:=by
 intro m
 have c:∀j o,ops[j]? =some o->G3 o=true/\(∀e∈o.after,Region.binds .any e=true->e.on<j)/\∀i,i<j->TM ops X i j=true:=by
  exact Qfl
 induction m with
 |zero=>
  intro T listed a w hT hp z hc hs hS h;obtain rfl:T=[]:=wC hT;refine⟨?_,h⟩;rw[List.eq_nil_iff_forall_not_mem];intro i hi;obtain⟨h0,o,ho,_⟩:=Eo.1 hi
  have:=(z i).2 ⟨(QW.1 ho).1,h0⟩;cases this
 |succ m ih=>
  intro T listed a w hT hp z hc hs hS h;have a8:∀i∈Region.ready .any ops listed,i∈T:=fun i hi=>by
   obtain⟨h0,o,ho,_⟩:=Eo.1 hi;exact(z i).2 ⟨(QW.1 ho).1,h0⟩
  refine⟨fun hr=>?_,fun i hi=>?_⟩
  ·exfalso;cases T with
   |nil=>simp at hT
   |cons t T=>
    obtain⟨ad,a9⟩:=(z t).1 (Yr ..);have ho:ops[t]? =some ops[t]:=OX ad;have:t∈Region.ready .any ops listed:=Eo.2 ⟨a9,_,ho,fun e he hb=>by
     have hlt:=(c t _ ho).2.1 e he hb;cases hl:listed.getD e.on false with
     |true=>rfl
     |false=>
      have ab:=(z e.on).2 ⟨oM,by rw[Yi oM];exact hl⟩;rcases Xg.1 ab with u|u
      ·omega
      ·have:=(LP.1 hp).1 _ u;omega⟩
    rw[hr]at this;cases this
  ·have ae:=a8 i hi;obtain⟨h0,o,ho,r⟩:=Eo.1 hi;obtain⟨k,post,rfl⟩:=List.append_of_mem ae;obtain⟨aa,a3,a0⟩:=OY.1 hp;have a7:i<ops.size:=(QW.1 ho).1;rw[NI,ZD,ho]at h;have q:=Pf (post:=post.filterMap (ops[·]?)) hF hd hQ (c i o ho).1 (k.filterMap (ops[·]?)) a w ?_ hS h
   ·rw[<-NI]at q;have af:∀j,j∈k++post↔j<ops.size/\(listed.setIfInBounds i true).getD j true=false:=by
     intro j;by_cases d:j=i
     ·subst d;constructor
      ·intro hj;rcases Kn.1 hj with u|u
       ·have:=a0 j u j (Yr ..);omega
       ·have:=(LP.1 a3).1 j u;omega
      ·rintro⟨_,u⟩;simp[Array.getD,hs,a7]at u
     ·rw[OZ true (Ne.symm d),<-z j];simp only[Kn,Xg];constructor
      ·rintro(u|u)<;>simp[u]
      ·rintro(u|u|u)
       ·exact .inl u
       ·exact absurd u d
       ·exact .inr u
    have ac:TN ops (listed.setIfInBounds i true):=by
     intro m' o' b a2 e he hb;refine getD_set_true ?_;by_cases a5:m'=i
     ·subst a5;rw[ho]at b;cases b;exact r e he hb
     ·rw[OZ false (Ne.symm a5)]at a2;exact hc m' o' b a2 e he hb
    have next:∀a w,S w->Dh F n P ops Q S X ((k++post).filterMap (ops[·]?)) a w->wpAnyIn F n P .any ops Q m (listed.setIfInBounds i true) a w:=fun a w hS h=>
     ih (k++post) _ a w (by simp at hT|-;omega) (OY.2 ⟨aa,(LP.1 a3).2,fun x hx y hy=>a0 x hx y (Kk _ hy)⟩) af ac (by simp[hs]) hS h
    unfold wpOpIn;simp only[ho];unfold N8 at q;by_cases hw:Region.wanted o (yielded ops a.tmps)=true
    ·rw[Qe hw]at q|-;by_cases hx:X o=true
     ·rw[Qe hx]at q;obtain⟨v,hv,_,hk⟩:=q w hS;refine⟨fun f _=>hF f,?_⟩;rw[Ib (c i o ho).1,hv];exact next _ _ hS hk
     ·rw[Qa hx]at q;exact Oper.wpIn_mono (fun a w h=>next _ _ h.1 h.2) q
    ·rw[Qa hw]at q|-;exact⟨fun f _=>hF f,next _ _ hS q⟩
   ·intro p ag;obtain⟨j,hj,a4⟩:=List.mem_filterMap.1 ag;have d:j<i:=a0 j hj i (Yr ..);have a6:=(z j).1 (T7 _ hj);refine⟨(c j p a4).1,?_⟩;have a1:=(c i o ho).2.2 j d;unfold TM at a1;simp only[a4,ho,Y2,X1]at a1;rcases a1 with u|u
    ·exact u
    ·have:=Db hc 10 j i u fun o' b e he hb=>by rw[ho]at b;cases b;exact r e he hb
     rw[Yi oM,this]at a6;cases a6.2
def CK{α:Type}:∀l:List α,(List.range l.length).filterMap (l[·]?)=l
 | []=>rfl
 |x::l=>by
  have ih:=CK l;rw[Xf,Pa,ZD,List.filterMap_map];simpa[Function.comp_def] using ih
def Zq{id:Nat}{l:List Oper}{a:Act}{w:Qm}(S:Qm->Prop)(X:Oper->Bool)(hF:∀f,F.fn f)(hd:F.depth=none)(hm:P.follows .mixedOrders=true)(hchk:Fb l.toArray X=true)(hS:S w.drew)
  (h:Dh F n P l.toArray (Jk Q) S X l a w.drew):(Code.region id l.toArray true).wpIn F n P Q a w:=by
 refine wpIn_mono (Q:=Jk Q) (wpIn_region_any hm ?_) fun e a w h=>by cases e<;>first|exact h|exact h.elim
 refine TO hF hd MM hchk _ (List.range l.toArray.size) _ a _ sM List.pairwise_lt_range ?_ ?_ sM hS ?_
 ·intro i;simp only[Vw];constructor
  ·intro h;exact⟨h,by simp[Array.getD]at h|-;simp[h]⟩
  ·exact fun h=>h.1
 ·intro m o _ hm;exfalso;simp[Array.getD]at hm
 ·have:(List.range l.toArray.size).filterMap (l.toArray[·]?)=l:=by
   simp only[Gj,MJ];exact CK l
  rw[this];exact h
structure AL(p:Prop):Prop where
 out:p
def K6{o:Oper}{rest:List Oper}{a:Act}{w:Qm}(hg:o.guard=none)(hx:X o=true)
  (h:∀K:Act->Qm->Prop,(∀a w,AL (Dh F n P ops Q S X rest a w)->K a w)->∀w',S w'->∃v,(execOp a.eval o).run P w'=.ok (.value v) w'/\(execOp a.eval o).run P w=.ok (.value v) w/\K (a.put o.dst v) w):
  AL (Dh F n P ops Q S X (o::rest) a w):=⟨Dt hg hx fun K j=>h K fun a w q=>j a w q.out⟩
def Kd{o:Oper}{rest:List Oper}{a:Act}{w:Qm}(hg:o.guard=none)(hx:X o=false)
  (h:∀K:Act->Qm->Prop,(∀a w,S w->AL (Dh F n P ops Q S X rest a w)->K a w)->o.wpIn F n P a w K Q):
  AL (Dh F n P ops Q S X (o::rest) a w):=⟨TL hg hx fun K q=>h K fun a w j v=>q a w j v.out⟩
def Jc{a:Act}{w:Qm}(h:Q .normal a w):AL (Dh F n P ops (Jk Q) S X [] a w):=⟨H7 h⟩
def wK{o:Oper}{rest:List Oper}{a:Act}{w:Qm}(hw:Region.wanted o (yielded ops a.tmps)=false)(h:AL (Dh F n P ops Q S X rest (a.put o.dst undef) w)):AL (Dh F n P ops Q S X (o::rest) a w):=⟨wJ hw h.out⟩
def Qgk{o:Oper}{rest:List Oper}{a:Act}{w:Qm}(hw:Region.wanted o (yielded ops a.tmps)=true)(hx:X o=true)
  (h:∀K:Act->Qm->Prop,(∀a w,AL (Dh F n P ops Q S X rest a w)->K a w)->∀w',S w'->∃v,(execOp a.eval o).run P w'=.ok (.value v) w'/\(execOp a.eval o).run P w=.ok (.value v) w/\K (a.put o.dst v) w):
  AL (Dh F n P ops Q S X (o::rest) a w):=⟨Qgi hw hx fun K j=>h K fun a w q=>j a w q.out⟩
def TP{o:Oper}{rest:List Oper}{a:Act}{w:Qm}(hw:Region.wanted o (yielded ops a.tmps)=true)(hx:X o=false)
  (h:∀K:Act->Qm->Prop,(∀a w,S w->AL (Dh F n P ops Q S X rest a w)->K a w)->o.wpIn F n P a w K Q):
  AL (Dh F n P ops Q S X (o::rest) a w):=⟨Qgj hw hx fun K q=>h K fun a w j v=>q a w j v.out⟩
def Ja{id:Nat}{l:List Oper}{a:Act}{w:Qm}(S:Qm->Prop)(X:Oper->Bool)(hF:∀f,F.fn f)(hd:F.depth=none)(hm:P.follows .mixedOrders=true)(hchk:Fb l.toArray X=true)(hS:S w.drew)
  (h:AL (Dh F n P l.toArray (Jk Q) S X l a w.drew)):(Code.region id l.toArray true).wpIn F n P Q a w:=Zq S X hF hd hm hchk hS h.out
end
variable{P:Program}{F:Fence}{n:Nat}{Q:Exit->Act->Qm->Prop}{a:Act}{w:Qm}
def Nu{b:Frame}{c:Code}{k:List Item}{cs:List Frame}:step P (lone (b.atR a (.code (.scope c)::k)) cs w)=.next (lone (b.atR a (.code c:: .inScope c::k)) cs w):=
 step_lone_go (by simp[stepG,stepG.exec,Frame.atR])
def QY{b:Frame}{c:Code}{k:List Item}{cs:List Frame}:step P (lone (b.atR a (.inScope c::k)) cs w)=.next (lone (b.atR a k) cs w):=
 step_lone_go (by simp[stepG,stepG.exec,Frame.atR])
def Jy{c:Code}(h:c.wpIn F n P (Exit.noGoto Q) a w):(Code.scope c).wpIn F n P Q a w:=by
 intro b k cs f u d;have q:(lone (b.atR a (.code (.scope c)::k)) cs w).fenced P F:=fenced_calm u d rfl;obtain⟨e,z,y,v,j⟩:=h b (.inScope c::k) cs f u d;cases e with
 |normal=>exact⟨.normal,z,y,v,.head q Nu (StepsIn.trans j (.one (fenced_calm u d rfl) QY))⟩
 |exit id=>
  have hx:exitTo id (.inScope c::k)=exitTo id k:=by simp[exitTo]
  exact⟨.exit id,z,y,v,fun k' m=>.head q Nu (j.1 k' (by rw[hx];exact m)),
   fun t m=>let⟨k₁,h1,h2⟩:=j.2 t (by rw[hx];exact m);⟨k₁,h1,.head q Nu h2⟩⟩
 |goto l=>exact v.elim
 |ret=>exact⟨_,z,y,v,.of_steps (.one q Nu) j⟩
 |panic ch=>exact⟨_,z,y,v,.of_steps (.one q Nu) j⟩
 |outgrown=>exact⟨_,z,y,v,.of_steps (.one q Nu) j⟩
def Qs{P:Program}{w:Qm}{mty kt et:TypeId}{d:TypeDesc}{r clock:Nat}{es:Array MapEntry}(key val:Q0)(hm:P.underlying mty=some (.map kt et))(hd:P.underlying kt=some d)(hk:MapKept.IsKey d key)
  (hb:w.heap[r]? =some (.map es clock))(hf:Instr.findNow d key es.toList 0=some none):
  (Instr.mapUpdate mty (.map (some r)) key val).run P w=.ok () (w.putObj r (.map (es.push {key:=key,val:=val,born:=clock}) (clock+1))):=by
 simp[Instr.mapUpdate,Rh hm,Pb hb,VM hd hk,VN hd hf,gU _ hb,Result.andThen]
 try rfl
def Xj{P:Program}{w:Qm}{mty kt et:TypeId}{d:TypeDesc}{r clock i:Nat}{es:Array MapEntry}{v:Q0}(key:Q0)(hm:P.underlying mty=some (.map kt et))(hd:P.underlying kt=some d)(hk:MapKept.IsKey d key)
  (hb:w.heap[r]? =some (.map es clock))(hf:Instr.findNow d key es.toList 0=some (some (i,v)))(b:Bool):
  (Instr.lookup mty (.map (some r)) key b).run P w=.ok (if b then .tuple #[v,.bool true]else v) w:=by
 simp[Instr.lookup,Rh hm,Pb hb,VM hd hk,VN hd hf,Result.andThen]
def H9{P:Program}{w:Qm}{mty kt et:TypeId}{d:TypeDesc}{r clock:Nat}{es:Array MapEntry}{z:Q0}(key:Q0)(hm:P.underlying mty=some (.map kt et))(hd:P.underlying kt=some d)(hk:MapKept.IsKey d key)
  (hz:∀w:Qm,(zeroValue et).run P w=.ok z w)(hb:w.heap[r]? =some (.map es clock))(hf:Instr.findNow d key es.toList 0=some none)(b:Bool):
  (Instr.lookup mty (.map (some r)) key b).run P w=.ok (if b then .tuple #[z,.bool false]else z) w:=by
 simp[Instr.lookup,Rh hm,Pb hb,VM hd hk,VN hd hf,hz,Result.andThen]
def Xl(xs:Qv):Kb:=xs.map fun n:Nat=>Value.int .u8 (n:Int)
def Xh(xs:Qv):Qo:=⟨(xs.map UInt8.ofNat).toArray⟩
def K5(xs:Qv):(Xl xs).length=xs.length:=by simp[Xl]
def Ep(xs:Qv)(c:Nat):Xl (xs++[c])=Xl xs++[.int .u8 c]:=by simp[Xl]
def CL(xs ys:Qv):Xl (xs++ys)=Xl xs++Xl ys:=by simp[Xl]
def Ic(xs:Qv)(h:∀x∈xs,x<256):Xl xs=Lib.byteCells (xs.map UInt8.ofNat):=by
 simp only[Xl,Lib.byteCells,Ka];refine EW fun x hx=>?_
 simp[Ye (h x hx)]
def Yl(xs:Qv)(h:∀x∈xs,x<256):Qf (Xh xs)=xs:=by
 simp only[Qf,Xh,Ka];conv=>rhs;rw[<-List.map_id xs]
 refine EW fun x hx=>?_
 simp[Ye (h x hx)]
def Ym(s:Qo):Xh (Qf s)=s:=by
 simp only[Qf,Xh,Ka];have:(UInt8.ofNat∘fun x:UInt8=>x.toNat)=id:=by funext x;simp
 rw[this,List.map_id]
def Jz(xs:Qv):(Xh xs).size=xs.length:=by
 show(xs.map UInt8.ofNat).toArray.size=_;simp
def gY{s t:Qo}(h:Qf s=Qf t):s=t:=by rw[<-Ym s,h,Ym t]
def Yj(s:Qo):∀x∈Qf s,x<256:=by
 intro x hx;obtain⟨c,_,rfl⟩:=Xq.1 hx;exact c.toNat_lt
abbrev EU(B b:Nat)(xs:Qv)(w:Qm):Prop:=Lib.IsBuilder 118 5 B b (Xl xs) w
def N2(B b:Nat):Nat->Obj->Prop:=fun k o=>k≠b/\(k<B∨∀c f,o≠ .cells c 5 f)
def TQ:(prog.info? 118).map (·.size)=some 2:=by kernel_rfl
def wL:liesAt prog prog.depth 118 (2/prog.cellsOf 118) 0 118 1=true:=by kernel_rfl
def Di:(prog.info? 5).map (fun i=>(i.zero,i.size,i.bytes))=some (some (.int .u8 0),1,1):=by kernel_rfl
def LV{P:Prop}(h:P:=by
 exact⟨rfl,rfl⟩):P:=h
def TR(b:Nat)(w:Qm)(h0:w.cell? ⟨b,0,none⟩=some (.pointer (some ⟨b,0,none⟩))):
  Calls prog 163 #[.pointer (some ⟨b,0,none⟩)] w fun e w'=>e=.returned (.tuple #[])/\w'=w:=by
 obtain⟨j,q,_⟩:=Hi.1 TQ
 go_in
 go_wp2
 rw[Lib.run_neq_ptr_same w _ underlying115 q]
 go_wp2
 go_end0
 exact LV
def wM{P Q:Prop}(h:Q)(f:Wz Q->P:=by
 intro zz;rw[Lib.run_to_unsafe w (ad b 0) underlying115 underlying250 hj (by rw[hjs];decide) hsh (Nat.zero_lt_succ 1)];exact zz.o):P:=f ⟨h⟩
def TS{P Q:Prop}(h:Q)(f:Wz Q->P:=by
 intro zz;simp only[Result.andThen];rw[Oper.upon_value];exact zz.o):P:=f ⟨h⟩
def nD{P Q:Prop}(h:Q)(f:Wz Q->P:=by
 intro zz;rw[run_callFunc_extern func242 kM kM kM (e:=Extern.AbiNoEscape.same) kM];rw[Lib.run_noEscape];refine TS ?_;exact zz.o):P:=f ⟨h⟩
def Tf(b:Nat)(w:Qm)(h0:w.cell? ⟨b,0,none⟩=some (.pointer none))(hsh:w.shape? b=some (118,2))(hfz:w.frozen? ⟨b,0,none⟩=false):
  Calls prog 163 #[.pointer (some ⟨b,0,none⟩)] w fun e w'=>e=.returned (.tuple #[])/\w'=w.setCell ⟨b,0,none⟩ (.pointer (some ⟨b,0,none⟩)):=by
 obtain⟨j,hj,hjs⟩:=Hi.1 TQ
 go_in
 go_wp2
 refine wM ?_
 refine TS ?_
 go_wp2
 refine nD ?_
 go_wp2
 rw[Lib.run_from_unsafe w (ad b 0) underlying250 underlying115 hj hsh wL]
 refine TS ?_
 go_wp2
 go_end0
 exact LV
def wN{P:Prop}(h:P:=by
 rintro e w' ⟨rfl,rfl⟩;exact⟨rfl,h.used _,(Ac.refl _ w).setCell _ fun o _ h _=>h rfl⟩):P:=h
def wO{P:Prop}(h:P:=by
 refine(TR b w h.cell0).mono ?_;rintro e w' ⟨rfl,rfl⟩;exact⟨rfl,h,Ac.refl _ _⟩):P:=h
def Er(B b:Nat)(xs:Qv)(w:Qm)(h:EU B b xs w):
  Calls prog 163 #[.pointer (some ⟨b,0,none⟩)] w fun e w'=>e=.returned (.tuple #[])/\Lib.BuilderAt 118 5 B b (.pointer (some ⟨b,0,none⟩)) (Xl xs) w'/\Ac (fun k _=>k≠b) w w':=by
 rcases h with h|h
 ·refine(Tf b w h.cell0 h.shape h.frozen0).mono ?_;exact wN
 ·exact wO
def wP{B b:Nat}{xs:Qv}{w:Qm}(h:EU B b xs w):B<=b/\b<w.heap.size:=by
 rcases h with h|h<;>exact⟨h.1,h.lt⟩
def wQ{P:Prop}(h:P:=by
 rw[this]at ho;cases ho;rcases hs.2 with h|h
 ·omega
 ·exact h _ _ rfl):P:=h
def gZ{P:Prop}(h:P:=by
 exact h3.setCell _ fun o _ hs _=>hs.1 rfl):P:=h
def NR{B b:Nat}{v v':Q0}{w w1 w2:Qm}{o:Obj}{n:Nat}{xs:Kb}(h1:Ac (fun k _=>k≠b) w w1)(hg:(w1.alloc o).grownBy w2 v.ownBlock)(hown:w1.ownsRow B 5 1 v n xs):
  Ac (N2 B b) w (w2.setCell ⟨b,1,none⟩ v'):=by
 have m:Ac (N2 B b) w (w1.alloc o):=(h1.mono fun _ _ _ h=>h.1).alloc o
 have h3:Ac (N2 B b) w w2:=m.grown hg fun r y o' ho hs _=>by
  rcases hown.2 with⟨rfl,_⟩| ⟨g,z,q,rfl,u,j,_⟩
  ·simp[Value.ownBlock]at y
  ·simp[Value.ownBlock]at y;subst y;have:(w1.alloc o).heap[g]? =some (.cells q 5 (0,0)):=(NH w1 o g (Qg j)).trans j;exact wQ
 exact gZ
def wR{P:Prop}(h:P:=by
 rw[hgrow.block b (by simp;omega) (fun e=>hne e.symm),Lib.alloc_old w1 _ b hlt];exact hbk):P:=h
def TT{P Q:Prop}(h:Q)(f:Wz Q->P:=by
 intro zz;have f1:w2.frozen? (ad b 1)=false:=Je hb2 1;revert f1;exact zz.o):P:=f ⟨h⟩
def wS{P:Prop}(h:P:=by
 rcases hown'.2 with⟨_,h0⟩| ⟨g,cap,cur,hv,_⟩
 ·omega
 ·exact⟨g,cap,hv⟩):P:=h
def Ks(B b c:Nat)(xs:Qv)(w:Qm)(h:EU B b xs w)(hlen:xs.length+1<=140737488355328)(hBw:B<=w.heap.size):
  Calls prog 159 #[.pointer (some ⟨b,0,none⟩),.int .u8 c] w fun e w'=>e=.returned .nilIface/\EU B b (xs++[c]) w'/\Ac (N2 B b) w w':=by
 obtain⟨t,k,n,d,m⟩:=Gk Di
 go_in
 go_wp2_with(go_at_call 163;refine(Er B b xs _ h).mono ?_)
 rintro e w1 ⟨rfl,p,y⟩
 obtain⟨x,v,hbk,q,hne⟩:=p
 have c0:w1.cell? (ad b 0)=some (pt b):=by rw[Rd hbk];rfl
 have c1:w1.cell? (ad b 1)=some v:=by rw[Rd hbk];rfl
 go_wp2_with(at_builtin;refine LQ _ rfl _ _ 116 rfl B 5 t (.int .u8 0) 1 1 underlying116 k n d m rfl dM _ _ _ rfl (q.alloc _) (ad w1.heap.size 0) 1 1 [.int .u8 c] rfl rfl ?c1 ?c2 ?c3 ?c4 ?c5 ?_)
 case c1=>
  intro j u z;match j,z with
  |0,z=>simp at z;subst z;simp[Addr.add]
 case c2=>intro u f;simp at f;subst f;rfl
 case c3=>have:=K5 xs;unfold maxLen;omega
 case c4=>have:=K5 xs;omega
 case c5=>have:=y.size;simp;omega
 intro v' w2 hown' hgrow _
 have hlt:b<w1.heap.size:=Qg hbk
 have hb2:w2.heap[b]? =some (.cells #[pt b,v] 118 (0,0)):=by
  exact wR
 have r:w2.cell? (ad b 0)=some (pt b):=by rw[Rd hb2];rfl
 have d1:w2.cell? (ad b 1)=some v:=by rw[Rd hb2];rfl
 refine TT ?_
 intro f1
 obtain⟨g,cap,rfl⟩:∃g cap,v'=.slice (some (ad g 0)) ((Xl xs).length+1) cap:=by
  exact wS
 go_wp2
 go_ret
 refine⟨rfl,.inr ?_,?_⟩
 ·rw[Ep];exact NJ (T:=118) (e:=5) x hb2 (bs':=Xl xs++[.int .u8 c]) (by simpa using hown') dM
 ·exact NR y hgrow q
def Vt{w:Qm}{B:Nat}{v:Q0}{n:Nat}{xs:Kb}{e:TypeId}(h:w.ownsRow B e 1 v n xs):∃a cap,v=.slice a n cap:=by
 exact NM
def iA{B:Nat}{v:Q0}{n:Nat}{xs:Qv}{w:Qm}(h:w.ownsRow B 5 1 v n (Xl xs))(hx:∀x∈xs,x<256):
  (convert 116 9 v).run prog w=.ok (.string (Xh xs)) w:=by
 have d:xs.length=n:=by have:=h.1;rw[K5]at this;omega
 subst d
 rcases h.2 with⟨rfl,u⟩| ⟨g,z,q,rfl,_,m,t,_,f,b⟩
 ·rw[CW.1 u];exact run_convert_bytes_nil w _ _ underlying116 underlying5 _ _ _ underlying9
 ·have:=T8 (P:=prog) w 116 9 5 (ad g 0) z (xs.map UInt8.ofNat) underlying116 underlying5 underlying9 (fun j y=>by
   rw[Vq]at y;have e:((ad g 0):Addr).add j=(ad g j):=by unfold Addr.add;split<;>simp_all
   rw[e,Rd m];have c:q[j]? =(Xl xs)[j]?:=by
    rw[<-b,E5 oM,wD]
   rw[c];simp[Xl,Ye (hx _ (Zp y))];exact⟨_,Km y,rfl⟩)
  simpa[Xh] using this
def Nv{P:Prop}(h:P:=by
 go_wp2;go_ret;exact⟨rfl,rfl⟩):P:=h
def wT(s:Qo)(w:Qm):
  Calls prog 262 #[.string s] w fun e w'=>e=.returned (.func (.func 317) #[] #[.pointer (some ⟨w.heap.size,0,none⟩)])/\w'=w.alloc (.cells #[.string s] 9):=by
 go_in
 exact Nv
def Ie{P Q:Prop}(h:Q)(f:Wz Q->P:=by
 intro zz;simp only[Gj,Xf,Vp,Nat.reduceAdd,Nat.reduceSub,Qdi,Qdj,VO,nC,Ri,Y0];exact zz.o):P:=f ⟨h⟩
def NS{P Q:Prop}(h:Q)(f:Wz Q->P:=by
 intro zz;obtain⟨r,hl⟩:=hlp 0 W h0;have hne:=J2 hbx.cell hl;revert r hl hne;exact zz.o):P:=f ⟨h⟩
def nE{P:Prop}(h:P:=by
 gi_wp2;refine Xs (Dr rfl _ _ _) rfl ?_;exact⟨⟨_,rfl⟩,.inr ⟨k,hlt,hj3,trivial⟩⟩):P:=h
def iB(s:Qo)(bx:Nat)(Sb Si:Nat->Obj->Prop)(W:Qm)(hs:s.size<=9223372036854775807)(hbx:Boxed W bx 9 (.string s))(hSb:∀c f,Sb bx (.cells c 9 f)):
  Hk prog 317 #[.pointer (some ⟨bx,0,none⟩)] s.size (fun i v _=>v=#[.int .u64 (Zi (Qf s) i)]) Sb Si (fun _=>True) (fun _ _=>True) W:=by
 rintro l J Jx hlp hJ b p h0
 refine NS ?_
 intro r hl hne
 have t:=hbx.cell
 refine Nf func317 rfl trivial ?_ rfl
 simp only[ntmps317]
 refine Ie ?_
 gi_wp2
 gi_loopw [6] (fun i wr=>∃k:Nat,k<=s.size/\i=i6 k/\J k wr/\Boxed wr bx 9 (.string s)) (fun i _=>s.size-(RowKit.intOf i).toNat)
 case atStart=>exact⟨0,Xi _,rfl,h0,hbx⟩
 case round=>
  obtain⟨k,hk,rfl,u,j⟩:=hrel;have hc:=j.cell;by_cases hlt:k<s.size
  ·obtain⟨fn,n,q,m,hy,d⟩:=p k _ wr hlt u rfl;have x:IntKind.u64.wrap (↑(s[k]).toNat)=(Zi (Qf s) k:Int):=by
    rw[Cc s hlt];exact X7 oM (by have:=(s[k]).toNat_lt;omega)
   gi_wp2;refine d.mono ?_;rintro e W3 ⟨y,(⟨rfl,hj3⟩| ⟨rfl,hj3⟩)⟩
   ·have z:=y.boxed j ⟨hne,hSb _ _⟩;gi_wp2;go_roundw
    case rel=>exact⟨k+1,oM,by go_num,hj3,z⟩
    case measure=>simp[RowKit.intOf];omega
   ·exact nE
  ·gi_wp2;go_end0;have:k=s.size:=oM;subst this;exact⟨⟨_,rfl⟩,.inl ⟨u,trivial⟩⟩
def Aq(w:Qm)(t n c to:Nat):Prop:=w.heap[t]? =some (.cells #[.int .u64 n,.int .i64 c,.int .i64 to] 271 (0,0))
def Aq.c0{w:Qm}{t n c to:Nat}(h:Aq w t n c to):w.cell? ⟨t,0,none⟩=some (.int .u64 n):=by simp[World.cell?,show w.heap[t]? =_ from h]
def Aq.c1{w:Qm}{t n c to:Nat}(h:Aq w t n c to):w.cell? ⟨t,1,none⟩=some (.int .i64 c):=by simp[World.cell?,show w.heap[t]? =_ from h]
def Aq.c2{w:Qm}{t n c to:Nat}(h:Aq w t n c to):w.cell? ⟨t,2,none⟩=some (.int .i64 to):=by simp[World.cell?,show w.heap[t]? =_ from h]
def Aq.f{w:Qm}{t n c to:Nat}(h:Aq w t n c to)(j:Nat):w.frozen? ⟨t,j,none⟩=false:=by simp[World.frozen?,show w.heap[t]? =_ from h]
def Aq.Af{S:Nat->Obj->Prop}{w w':Qm}{t n c to:Nat}(h:Aq w t n c to)(hk:Ac S w w')(hS:∀o,S t o):Aq w' t n c to:=hk.same _ _ h (hS _)
def Gg{w:Qm}{b off:Nat}{cs:Array Q0}{T:TypeId}{fr:Nat × Nat}(v:Q0)(h:w.heap[b]? =some (.cells cs T fr)):(w.setCell ⟨b,off,none⟩ v).heap[b]? =some (.cells (cs.setIfInBounds off v) T fr):=by
 obtain⟨j,q⟩:=QW.1 h;show(w.heap.modify b _)[b]? =_;rw[OX (by rw[Array.size_modify];exact j),Qgd,q];rfl
def Qgl(n x k:Nat)(hx:x<2^k):(n*2^k|||x)=n*2^k+x:=by
 rw[Jj];exact(Nat.two_pow_add_eq_or_of_lt hx n).symm
def Qdm(n x k:Nat)(hn:n<65536)(hk:k<=8)(hx:x<2^k):bits BinOp.or IntKind.u64 (IntKind.u64.wrap ((n:Int)*2^k)) (x:Int)=((n*2^k+x:Nat):Int):=by
 have j:(2:Nat)^k<=256:=Rj oM hk;have q:n*2^k<=65535*256:=LR oM j;have e:((n:Int)*2^k)=((n*2^k:Nat):Int):=by push_cast;rfl
 rw[e,X7 oM oM,bits_or_u64_nat _ _ oM oM,Qgl n x k hx]
def Qdn(w:Qm)(t n c to x k:Nat)(h:Aq w t n c to)(hn:n<65536)(hc:c<64)(hk:k<=8)(hx:x<2^k):
  Calls prog 315 #[.pointer (some ⟨t,0,none⟩),.int .u64 x,.int .i64 k] w fun e w'=>e=.returned (.tuple #[])/\Ac (fun b _=>b≠t) w w'/\Aq w' t (n*2^k+x) (c+k) to:=by
 have y:=h.c0
 have z:=h.c1
 have m:=h.f 0
 have u:=h.f 1
 have j:=Qdm n x k hn hk hx
 have H:Hid (Aq w t n c to):=h
 clear h
 go_in
 go_wp2
 go_region
 all_goals
  go_wp2
  go_end0
  refine⟨rfl,?_,?_⟩
  ·refine Ac.drew ((Ac.setCell (Ac.setCell (Ac.refl _ w) _ ?_) _ ?_))<;>intro o _ h _<;>exact h rfl
  ·have q:=Gg (off:=0) (.int .u64 ((n*2^k+x:Nat):Int)) H.out;have v:=Gg (off:=1) (i6 ((c+k:Nat):Int)) q;show(World.setCell _ _ _).heap[t]? =_;simpa using v
def TU(d k:Nat)(h:d<=k):(2:Nat)^d<=2^k:=Rj oM h
def rD(n d to:Nat)(hn:n<2^(d+to))(hc:d+to<16):bits BinOp.and IntKind.u64 (n:Int) (IntKind.u64.wrap (IntKind.u64.wrap ((2:Int)^d)-1))=((n % 2^d:Nat):Int):=by
 have y:=TU d 16 oM;have v:1<=(2:Nat)^d:=Nat.one_le_two_pow;have q:=TU (d+to) 16 oM;have e:((2:Int)^d)=((2^d:Nat):Int):=by push_cast;rfl
 rw[e];generalize j:(2:Nat)^d=p at*
 rw[X7 (x:=(p:Int)) oM oM,show((p:Int)-1)=((p-1:Nat):Int) by omega,X7 oM oM,
  bits_and_u64_nat _ _ oM oM]
 subst j;rw[T9]
def wU(w:Qm)(t n d to:Nat)(h:Aq w t n (d+to) to)(hn:n<2^(d+to))(hc:d+to<16):
  Calls prog 316 #[.pointer (some ⟨t,0,none⟩),.int .i64 to] w fun e w'=>e=.returned (.int .u64 (n/2^d:Nat))/\Ac (fun b _=>b≠t) w w'/\Aq w' t (n % 2^d) d to:=by
 have y:=h.c0
 have z:=h.c1
 have m:=h.f 0
 have u:=h.f 1
 have H:Hid (Aq w t n (d+to) to):=h
 clear h
 have v:=rD n d to hn hc
 go_in
 go_wp2
 go_region
 go_wp2
 go_region
 go_wp2
 go_ret
 refine⟨sM,?_,?_⟩
 ·refine Ac.drew (Ac.drew (Ac.setCell (Ac.setCell (Ac.refl _ w) _ ?_) _ ?_))<;>intro o _ h _<;>exact h rfl
 ·have j:=Gg (off:=1) (i6 (d:Int)) H.out;have q:=Gg (off:=0) (.int .u64 ((n % 2^d:Nat):Int)) j;show(World.setCell _ _ _).heap[t]? =_;simpa using q
def iC(w:Qm)(t:Nat)(g:Nat)(lb:Array Q0)(fr:Int):
  Calls prog 261 #[.pointer (some ⟨t,0,none⟩),.func (.func g) #[] lb,.int .i64 fr] w fun e w'=>
   e=.returned (.func (.func 314) #[] #[.pointer (some ⟨w.heap.size+1,0,none⟩),.pointer (some ⟨w.heap.size,0,none⟩),.pointer (some ⟨w.heap.size+2,0,none⟩)])/\
   w'=((w.alloc (.cells #[.pointer (some ⟨t,0,none⟩)] 267)).alloc (.cells #[.func (.func g) #[] lb] 273)).alloc (.cells #[.int .i64 fr] 3):=by
 go_in
 exact Nv
abbrev St:=Nat × Nat
def Pg(fr:Nat)(s:St)(x:Nat):St:=(s.1*2^fr+x,s.2+fr)
def ZG(to:Nat)(s:St):Qv:=(List.range (s.2/to)).map fun j=>(s.1 % 2^(s.2-j*to))/2^(s.2-(j+1)*to)
def MO(to:Nat)(s:St):St:=(s.1 % 2^(s.2 % to),s.2 % to)
def G4(to fr:Nat):St->Qv->Qv
 |_,[]=>[]
 |s,x::xs=>ZG to (Pg fr s x)++G4 to fr (MO to (Pg fr s x)) xs
def fin(to fr:Nat):St->Qv->St
 |s,[]=>s
 |s,x::xs=>fin to fr (MO to (Pg fr s x)) xs
def DV(to fr:Nat):∀(s:St) (xs ys:Qv),G4 to fr s (xs++ys)=G4 to fr s xs++G4 to fr (fin to fr s xs) ys
 |_,[],_=>rfl
 |s,x::xs,ys=>by simp[G4,fin,DV to fr _ xs ys]
def TV(to fr:Nat):∀(s:St) (xs ys:Qv),fin to fr s (xs++ys)=fin to fr (fin to fr s xs) ys
 |_,[],_=>rfl
 |s,x::xs,ys=>by simp[fin,TV to fr _ xs ys]
def Fc(to:Nat)(s:St):(ZG to s).length=s.2/to:=by simp[ZG]
def outsAt(to fr:Nat)(xs:Qv)(i:Nat):Nat:=(G4 to fr (0,0) (xs.take i)).length
def K7(to fr:Nat)(xs:Qv)(i:Nat):St:=fin to fr (0,0) (xs.take i)
def TW(xs:Qv)(i:Nat)(h:i<xs.length):xs.take (i+1)=xs.take i++[Zi xs i]:=by
 rw[Gl h];simp[Zi,h]
def TX(to fr:Nat)(xs:Qv)(i:Nat)(h:i<xs.length):K7 to fr xs (i+1)=MO to (Pg fr (K7 to fr xs i) (Zi xs i)):=by
 simp[K7,TW xs i h,TV,fin]
def Sl(to fr:Nat)(xs:Qv)(i:Nat)(h:i<xs.length):outsAt to fr xs (i+1)=outsAt to fr xs i+((K7 to fr xs i).2+fr)/to:=by
 simp[outsAt,K7,TW xs i h,DV,G4,Fc,Pg]
def iD(to fr:Nat)(xs:Qv):outsAt to fr xs xs.length=(G4 to fr (0,0) xs).length:=by simp[outsAt]
def rE(to fr:Nat)(xs:Qv)(i:Nat)(h:i<xs.length):outsAt to fr xs i+((K7 to fr xs i).2+fr)/to<=(G4 to fr (0,0) xs).length:=by
 rw[<-Sl to fr xs i h];have:xs=xs.take (i+1)++xs.drop (i+1):=(FW _ _).symm;conv=>rhs;rw[this,DV]
 simp[outsAt]
def wV(to fr:Nat)(xs:Qv)(i j:Nat)(h:i<xs.length)(hj:j< ((K7 to fr xs i).2+fr)/to):
  Zi (G4 to fr (0,0) xs) (outsAt to fr xs i+j)=
   ((K7 to fr xs i).1*2^fr+Zi xs i) % 2^((K7 to fr xs i).2+fr-j*to)/2^((K7 to fr xs i).2+fr-(j+1)*to):=by
 have e:xs=xs.take i++(Zi xs i::xs.drop (i+1)):=by
  conv=>lhs;rw[<-FW i xs,Dq h]
  simp[Zi,h]
 have q:G4 to fr (0,0) xs=G4 to fr (0,0) (xs.take i)++(ZG to (Pg fr (K7 to fr xs i) (Zi xs i))++G4 to fr (MO to (Pg fr (K7 to fr xs i) (Zi xs i))) (xs.drop (i+1))):=by
  conv=>lhs;rw[e,DV]
  rfl
 unfold Zi at*
 rw[q]
 rw[K9,MK (by unfold outsAt;omega),L3 (by rw[Fc];unfold outsAt;simp[Pg];omega)]
 simp only[outsAt,ZG,Pg,CV]
 rw[show(G4 to fr (0,0) (xs.take i)).length+j-(G4 to fr (0,0) (xs.take i)).length=j by omega]
 rw[List.getElem?_range (by simpa using hj)]
 rfl
def wW(to:Nat)(s:St)(h:1<=to):(MO to s).2<to/\(MO to s).1<2^(MO to s).2:=
 ⟨Hj _ oM,Hj _ (Ng _)⟩
def NT(to fr:Nat)(xs:Qv)(h:1<=to):∀i,i<=xs.length->(K7 to fr xs i).2<to/\(K7 to fr xs i).1<2^(K7 to fr xs i).2
 |0,_=>by simp[K7,fin];omega
 |i+1,hi=>by rw[TX to fr xs i oM];exact wW to _ h
def TY(to fr:Nat):∀(s:St) (xs:Qv),(G4 to fr s xs).length*to+(fin to fr s xs).2=s.2+fr*xs.length
 |s,[]=>by simp[G4,fin]
 |s,x::xs=>by
  have ih:=TY to fr (MO to (Pg fr s x)) xs;simp only[G4,fin,Zv,Fc,Xf,Aaa,N5]at ih|-;have j:(MO to (Pg fr s x)).2=(s.2+fr) % to:=rfl;have v:(Pg fr s x).2=s.2+fr:=rfl;have q:=TA (s.2+fr) to;rw[Jj]at q;rw[j]at ih;rw[v];omega
def LW(w:Qm)(o:Obj):Qd w (w.alloc o):=(Ac.refl _ w).alloc o
def Ku{w:Qm}{b:Nat}{o:Obj}(h:w.heap[b]? =some o){p:Prop}(f:b<w.heap.size->p:=by intro;omega):p:=f (Qg h)
def LX{P:Prop}(h:P:=by
 intro l2 A K hK;gi_wp2;exact hK):P:=h
def wX{P Q:Prop}(h:Q)(f:Wz Q->P:=by
 intro zz;refine TL rfl rfl ?_;intro K hK;go_simp;revert K hK;exact zz.o):P:=f ⟨h⟩
def Sm{P Q:Prop}(h:Q)(f:Wz Q->P:=by
 intro zz;refine⟨sM,.inl ⟨_,_,rfl,Vx hDB,?_⟩⟩;exact zz.o):P:=f ⟨h⟩
def VS(to fr:Nat)(hto:1<=to)(hto8:to<=8)(hfr8:fr<=8)(t bt bl bf g:Nat)(lb:Array Q0)(xs:Qv)(hx:∀i,Zi xs i<2^fr)
  (Sb Si Sii:Nat->Obj->Prop)(FinI:Qm->Prop)(W:Qm)
  (hT:Aq W t 0 0 to)(hbt:Boxed W bt 267 (.pointer (some ⟨t,0,none⟩)))(hbl:W.cell? ⟨bl,0,none⟩=some (.func (.func g) #[] lb))(hbf:Boxed W bf 3 (.int .i64 fr))
  (hne:bt≠t/\bf≠t)
  (hSb:(∀c f,Sb t (.cells c 271 f))/\(∀c f,Sb bt (.cells c 267 f))/\∀c f,Sb bf (.cells c 3 f))(hSb2:∀b o,W.heap.size<=b->(o.isCells=false∨∃c f,o=.cells c 329 f)->Sb b o)
  (hSi:∀b o,Si b o->(∀c f,o=.cells c 271 f->b≠t)/\(b<W.heap.size∨o.isCells=true)/\Sii b o)
  (hSii:∀b o,(b=t∨b=bt∨b=bf∨W.heap.size<=b)->(b<W.heap.size+3∨o.isCells=true)->Sii b o)
  (eg:∀args w,(callFunc g args).run prog w=.ok (.enter g args) w)
  (hit:∀l W1,(∃r,W.heap[l]? =some (.loop r))->Qd W W1->W1.heap.size=W.heap.size+3->Hk prog g lb xs.length (fun i v _=>v=#[.int .u64 (Zi xs i)]) (fun b o=>b≠l/\b≠t/\Sb b o) Sii FinI (fun _ _=>True) W1)
  (hFinI:∀A B,FinI A->Ac (fun b o=>b<W.heap.size∨o.isCells=true) A B->FinI B):
  Hk prog 314 #[.pointer (some ⟨bl,0,none⟩),.pointer (some ⟨bt,0,none⟩),.pointer (some ⟨bf,0,none⟩)] (G4 to fr (0,0) xs).length (fun i v _=>v=#[.int .u64 (Zi (G4 to fr (0,0) xs) i)]) Sb Si
   (fun B=>Aq B t (K7 to fr xs xs.length).1 (K7 to fr xs xs.length).2 to/\FinI B) (fun _ _=>True) W:=by
 rintro l J Jx d3 hJ ba hY h0
 obtain⟨r,hl⟩:=d3 0 W h0
 have be:∀{A:Qm} {n c:Nat},Aq A t n c to->∀b o,A.heap[b]? =some o->Si b o->b≠t:=fun hT b o hb hs e=>by
  subst e;rw[show _=some _ from hT]at hb;cases hb;exact(hSi _ _ hs).1 _ _ rfl rfl
 have n1:=J2 hT.c0 hl
 have n2:=J2 hbt.cell hl
 have n3:=J2 hbf.cell hl
 have d9:=Qg hl
 refine Vy func314 rfl trivial ?_ rfl
 simp only[ntmps314]
 refine Ie ?_
 have y:(W.alloc (.cells #[.func (.yield l) #[] #[]] 329)).heap.size=W.heap.size+1:=sM
 have p:=LW W (.cells #[.func (.yield l) #[] #[]] 329)
 have c5:=Boxed.new W 329 (.func (.yield l) #[] #[])
 have d8:=p.cell hbl fun _ _=>trivial
 have d7:=hbt.cell
 have d6:=hbf.cell
 gi_wp2
 refine Rx (gf:=g) (lb:=lb) rfl eg xs.length (fun i v _=>v=#[.int .u64 (Zi xs i)]) (fun b o=>b≠l/\b≠t/\Sb b o) Sii FinI (fun _ _=>True)
  (fun W1 h1 h2=>hit l W1 ⟨r,hl⟩ (p.trans h1) (by rw[y]at h2;omega)) ?hSb ?hSi
  (fun i A=>Aq A t (K7 to fr xs i).1 (K7 to fr xs i).2 to/\Boxed A bt 267 (pt t)/\Boxed A bf 3 (i6 fr)/\
   Boxed A W.heap.size 329 (.func (.yield l) #[] #[])/\J (outsAt to fr xs i) A)
  (fun i c A=>c=.ret/\∃k,k< (G4 to fr (0,0) xs).length/\Jx k A) ?hI ?hIx (fun _ _ _ _ h _=>h) (fun A B h hk=>hFinI A B h (hk.mono fun b o _ h=>h.imp (fun h=>by rw[y];omega) id)) (fun _ _ _ _ _=>trivial) (fun i v A h=>by rw[h];rfl) ?h0 ?hround ?hdone ?hstop
 case hSb=>
  intro b o hb ho;rw[y]at hb
  have:=Qg hT;exact⟨oM,oM,hSb2 b o oM (.inl ho)⟩
 case hSi=>
  intro b o hb a5 _;rw[y]at hb a5;exact hSii b o oM (.inl oM)
 case hI=>
  rintro i A B ⟨h1,h2,h3,h4,h5⟩ hk;have z1:=Qg hT;have z2:=Qg hbt;have z3:=Qg hbf;refine⟨h1.Af hk fun o=>⟨.inl (by rw[y];omega),hSii _ _ sM (.inl oM)⟩,hk.boxed h2 ⟨.inl (by rw[y];omega),hSii _ _ sM (.inr rfl)⟩,hk.boxed h3 ⟨.inl (by rw[y];omega),hSii _ _ sM (.inr rfl)⟩,
   hk.boxed h4 ⟨.inl (by rw[y];omega),hSii _ _ sM (.inr rfl)⟩,hJ _ _ _ h5 (hk.mono fun b o _ h=>⟨?_,(hSi b o h).2.2⟩)⟩
  exact(hSi b o h).2.1.imp (fun h=>by rw[y];omega) id
 case hIx=>
  rintro i c A B ⟨rfl,k,ae,h5⟩ hk;refine⟨rfl,k,ae,ba _ _ _ h5 (hk.mono fun b o _ h=>⟨?_,(hSi b o h).2.2⟩)⟩;exact(hSi b o h).2.1.imp (fun h=>by rw[y];omega) id
 case h0=>
  exact⟨hT.Af p fun _=>trivial,p.boxed hbt trivial,p.boxed hbf trivial,c5,hJ 0 _ _ h0 (Ac.of_same p)⟩
 case hround=>
  intro i v hv;obtain⟨x,rfl⟩:=E7 rfl hv;apply Exists.intro;apply And.intro
  ·exact LX
  ·rintro l2 A dd ⟨r2,dc⟩ hi ⟨h1,a5,b6,h4,h5⟩ b2;have h2:=a5.cell;have h3:=b6.cell;obtain rfl:x=.int .u64 (Zi xs i):=by simpa using b2
   gi_wp2;refine Zq (fun A'=>A'.cell? (ad bt 0)=some (pt t)/\A'.cell? (ad bf 0)=some (i6 fr)) reads (fun _=>trivial) rfl
    kM kM ⟨h2,h3⟩ ?_
   repeat(refine Dt rfl rfl ?_;intro K hK w' ⟨e1,e2⟩;go_simp;refine hK _ _ ?_;clear hK K e1 e2 w')
   refine wX ?_;intro K hK;have db:=NT to fr xs hto i oM;have p8:=TU (K7 to fr xs i).2 8 oM;refine(Hl l2 (Qdn A.drew t _ _ to (Zi xs i) fr h1 oM oM hfr8 (hx i))).mono ?_;rintro e w3 ⟨rfl,u,bb⟩;have a8:=u.boxed a5 hne.1;have ab:=u.boxed b6 hne.2;have ca:=a8.cell;have ce:=ab.cell;refine hK _ _ ⟨ca,ce⟩ ?_;clear hK K;have cf:Ac (fun b o=>b≠l/\b≠t/\Sb b o) A w3:=(Ac.refl _ A).drew.trans (u.mono fun b o _ h=>h.2.1);have cb:Boxed w3 W.heap.size 329 (.func (.yield l) #[] #[]):=u.boxed h4 (Ku hT);have ch:J (outsAt to fr xs i) w3:=hJ _ _ _ h5 ((Ac.refl _ A).drew.trans (u.mono fun b o hb h=>be h1 b o hb h));have c9:(K7 to fr xs i).1*2^fr+Zi xs i<2^((K7 to fr xs i).2+fr):=by
    have h6:=hx i;have h7:(K7 to fr xs i).1*2^fr+2^fr<=2^(K7 to fr xs i).2*2^fr:=by rw[<-Pc];exact FT _ oM
    rw[Cb];omega
   have cg:=rE to fr xs i hi;have a4:∀j,j< ((K7 to fr xs i).2+fr)/to->Zi (G4 to fr (0,0) xs) (outsAt to fr xs i+j)=_:=fun j=>wV to fr xs i j hi
   have a6:=Sl to fr xs i hi;have a7:=TX to fr xs i hi;have da:(K7 to fr xs i).2+fr<16:=oM;simp only[Pg]at a7;generalize hm:((K7 to fr xs i).2+fr)/to=m at cg a4 a6;generalize(K7 to fr xs i).1*2^fr+Zi xs i=n' at*
   generalize(K7 to fr xs i).2+fr=c' at*
   generalize outsAt to fr xs i=K0 at*
   replace a4:=Qc a4;replace a6:=Qc a6;replace a7:=Qc a7;replace hm:=Qc hm;clear u b2;have d2:Aq w3 t (n' % 2^(c'-0*to)) (c'-0*to) to:=by rw[CJ,FX,Ye c9];exact bb
   clear bb;refine H7 ?_;gi_wp2;gi_loopw [14] (fun _ wr=>∃j:Nat,j<=m/\Aq wr t (n' % 2^(c'-j*to)) (c'-j*to) to/\Boxed wr bt 267 (pt t)/\Boxed wr bf 3 (i6 fr)/\Boxed wr W.heap.size 329 (.func (.yield l) #[] #[])/\J (K0+j) wr/\Ac (fun b o=>b≠l/\b≠t/\Sb b o) A wr)
    (fun _ wr=>(RowKit.intOf ((wr.cell? (ad t 1)).getD undef)).toNat)
   case atStart=>exact⟨0,Xi _,d2,a8,ab,cb,ch,cf⟩
   case round=>
    obtain⟨j,hj,g1,ah,b0,g4,g5,g6⟩:=hrel;have g2:=ah.cell;have g3:=b0.cell;have k1:=g1.c1;have k2:=g1.c2;by_cases ac:j<m
    ·have hq:(j+1)*to<=c':=by rw[<-hm.out]at ac;exact(Nat.le_div_iff_mul_le oM).1 ac
     rw[Pc]at hq;have a1:=a4.out j ac;rw[Pc]at a1;obtain⟨d,hd⟩:=X0 (c'-(j*to+to));have b3:c'-j*to=d+to:=oM;have c8:d+to<16:=oM;have ag:c'-(j+1)*to=d:=by rw[Pc];exact hd
     replace ag:=Qc ag;rw[b3]at g1 k1 a1;rw[hd]at a1;replace a1:=Qc a1;clear hd b3;obtain⟨q,a0⟩:=X0 (n' % 2^(d+to));have b1:q<2^(d+to):=by rw[<-a0];exact Hj _ (Ng _)
     rw[a0]at g1;replace a0:=Qc a0;gi_wp2;refine Zq (fun A'=>A'.cell? (ad bt 0)=some (pt t)/\A'.cell? (ad t 1)=some (i6 ((d+to:Nat):Int))/\A'.cell? (ad t 2)=some (i6 to)) reads (fun _=>trivial) rfl
      kM kM ⟨g2,k1,k2⟩ ?_
     repeat(refine Dt rfl rfl ?_;intro K hK w' ⟨e1,e2,e3⟩;go_simp;refine hK _ _ ?_;clear hK K e1 e2 e3 w')
     refine H7 ?_;gi_wp2;have g7:=g4.cell;refine Zq (fun A'=>A'.cell? (ad W.heap.size 0)=some (.func (.yield l) #[] #[])/\A'.cell? (ad bt 0)=some (pt t)/\A'.cell? (ad t 2)=some (i6 to)) reads (fun _=>trivial) rfl
      kM kM ⟨g7,g2,k2⟩ ?_
     repeat(refine Dt rfl rfl ?_;intro K hK w' ⟨e1,e2,e3⟩;go_simp;refine hK _ _ ?_;clear hK K e1 e2 e3 w')
     refine wX ?_;intro K hK;refine(Hl l2 (wU wr.drew.drew t q d to g1 b1 c8)).mono ?_;rintro e w4 ⟨rfl,z,bc⟩;have zT:=Qg hT;have d1:=z.cell g7 fun o _=>(by show W.heap.size≠t;omega)
     have a9:Boxed w4 bt 267 (pt t):=z.boxed ah hne.1;have bh:Boxed w4 bf 3 (i6 fr):=z.boxed b0 hne.2;have cc:=a9.cell;have d0:Boxed w4 W.heap.size 329 (.func (.yield l) #[] #[]):=z.boxed g4 oM;have cd:J (K0+j) w4:=hJ _ _ _ g5 ((((Ac.refl _ wr).drew).drew).trans (z.mono fun b o hb h=>be g1 b o hb h));have c7:Ac (fun b o=>b≠l/\b≠t/\Sb b o) A w4:=(g6.drew.drew).trans (z.mono fun b o _ h=>h.2.1);refine hK _ _ ⟨d1,cc,bc.c2⟩ ?_;clear hK K z;refine TL rfl rfl ?_;intro K hK;obtain⟨fn,d5,c4,d4,hy,hR⟩:=hY (K0+j) _ w4 oM cd rfl;rw[a1.out,a0.out]at hy;push_cast at hy;go_simp;refine(RoundIn.inRound l2 hR).mono ?_;rintro e w5 ⟨a2,a3⟩;have af:Aq w5 t (q % 2^d) d to:=a2.same _ _ bc ⟨n1,hSb.1 _ _⟩;have b7:Boxed w5 W.heap.size 329 (.func (.yield l) #[] #[]):=a2.boxed d0 ⟨oM,hSb2 _ _ (Q6 _) (.inr ⟨_,_,rfl⟩)⟩;have aa:=a2.boxed a9 ⟨n2,hSb.2.1 _ _⟩;have c3:=a2.boxed bh ⟨n3,hSb.2.2 _ _⟩;have b9:=aa.cell;have b5:Ac (fun b o=>b≠l/\b≠t/\Sb b o) A w5:=c7.trans (a2.mono fun b o _ h=>⟨h.1,h.2.2⟩);have bg:=b7.cell;have b4:=af.c2;have c6:=af.c1;clear hR hy;rcases a3 with⟨rfl,a3⟩| ⟨rfl,a3⟩
     ·refine hK _ _ ⟨bg,b9,b4⟩ ?_;clear hK K;repeat(refine Dt rfl rfl ?_;intro K hK w' ⟨e1,e2,e3⟩;go_simp;refine hK _ _ ?_;clear hK K e1 e2 e3 w')
      refine H7 ?_;gi_wp2;go_roundw
      case rel=>
       refine⟨j+1,oM,?_,aa,c3,b7,a3,b5⟩;rw[ag.out];have e:q % 2^d=n' % 2^d:=by rw[<-a0.out,Nat.mod_mod_of_dvd _ (Nat.pow_dvd_pow 2 (Nat.le_add_right d to))]
       rw[<-e];exact af
      case measure=>simp[RowKit.intOf,k1,c6];omega
     ·refine hK _ _ ⟨bg,b9,b4⟩ ?_;clear hK K;repeat(refine Dt rfl rfl ?_;intro K hK w' ⟨e1,e2,e3⟩;go_simp;refine hK _ _ ?_;clear hK K e1 e2 e3 w')
      refine H7 ?_;gi_wp2;exact⟨b5,rfl,K0+j,oM,a3⟩
    ·obtain rfl:j=m:=oM;have bd:c'-j*to<to:=by
      have:=Hj c' (show 0<to by omega)
      have:=TA c' to;rw[hm.out,Jj]at this;omega
     have he:c'-j*to=c' % to:=by
      have:=TA c' to;rw[hm.out,Jj]at this;omega
     rw[he]at g1 k1 bd;replace he:=Qc he;gi_wp2;refine Zq (fun A'=>A'.cell? (ad bt 0)=some (pt t)/\A'.cell? (ad t 1)=some (i6 ((c' % to:Nat):Int))/\A'.cell? (ad t 2)=some (i6 to)) reads (fun _=>trivial) rfl
      kM kM ⟨g2,k1,k2⟩ ?_
     repeat(refine Dt rfl rfl ?_;intro K hK w' ⟨e1,e2,e3⟩;go_simp;refine hK _ _ ?_;clear hK K e1 e2 e3 w')
     refine H7 ?_;gi_wp2;exact⟨g6.drew,by rw[a7.out];exact g1,ah,b0,g4,by rw[a6.out];exact hJ _ _ _ g5 (Ac.refl _ wr).drew⟩
 case hdone=>
  rintro D B hD ⟨h1,h2,h3,h4,h5⟩ hF _ hDB;rw[y]at hD;have hk:Ac Si B (B.putObj D (.deferred none)):=(Ac.refl _ B).putObj _ fun o ho hs _=>by
   rw[hDB]at ho;cases ho;rcases(hSi _ _ hs).2.1 with h|h
   ·omega
   ·cases h
  have b8:Ac (fun b o=>b<W.heap.size∨o.isCells=true) B (B.putObj D (.deferred none)):=(Ac.refl _ B).putObj _ fun o ho hs _=>by
   rw[hDB]at ho;cases ho;rcases hs with h|h
   ·omega
   ·cases h
  have zT:=Qg hT;gi_wp2;refine Sm ?_;refine⟨_,Dr rfl _ _ _,⟨_,rfl⟩,.inl ⟨hJ _ _ _ (by rw[<-iD];exact h5) hk,h1.Af b8 fun o=>.inl zT,hFinI _ _ hF b8⟩⟩
 case hstop=>
  rintro D i c B hD hi ⟨rfl,k,ae,h5⟩ _ _ hDB;rw[y]at hD;have hk:Ac Si B (B.putObj D (.deferred none)):=(Ac.refl _ B).putObj _ fun o ho hs _=>by
   rw[hDB]at ho;cases ho;rcases(hSi _ _ hs).2.1 with h|h
   ·omega
   ·cases h
  gi_wp2;refine Sm ?_;exact⟨_,Dr rfl _ _ _,⟨_,rfl⟩,.inr ⟨k,ae,ba _ _ _ h5 hk,trivial⟩⟩
end Go.Tm
namespace Go.Tm
open Go.ChangeShapes Go.Proofs Go.RowKit Go.WideShapes Go.Proofs.Tryz
section
variable{H:Type}{enc:TypeId × Q0->H}{P:Program}
def VT{f:Func}{s:ChangeSpec}{apart fresh handsOn again:Bool}{W W':Qm}{args:Array Q0}{v:Q0}{ds gs:List (DataW H)}{before pa pv:List MemPlace}
  (hW:DataW.Whole enc P f.params.toList s.vars apart W args.toList ds gs before)
  (hres:∀(b:Nat) (sp:Nat->Bool) (hd:Bool),DataW.TrodAll enc P W' b sp hd f.resultTypes.toList (v.resultList f.resultTypes.size) (s.fn H (ds++gs)).results [])
  (hargs:∀sp:Nat->Bool,(∀p∈before,sp p.block=true)->DataW.TrodAll enc P W' 0 sp true f.params.toList args.toList (s.fn H (ds++gs)).args pa)
  (hvars:∀sp:Nat->Bool,(∀p∈before,sp p.block=true)->DataW.TrodVars enc P W' sp s.vars (s.fn H (ds++gs)).vars pv)
  (hps:before=pa++pv)(hk:Qd W W')
  (hok:∀(j:Nat) (t:TypeId) (r:Q0),f.resultTypes[j]? =some t->(v.resultList f.resultTypes.size)[j]? =some r->Value.okWide P W' .any 0 t r):
  s.post enc P f apart fresh handsOn again W args v W':=by
 have y:∀p∈before,(fun b=>decide (b<W.heap.size)) p.block=true:=fun p q=>by simpa using hW.lt p q
 have u:∀p∈before,p.block<W.heap.size:=hW.lt
 have heap:∀i,i<W.heap.size->W'.heap[i]? =W.heap[i]?:=fun i m=>by
  have:=hk.same i W.heap[i] (OX m) trivial;rw[this,OX m]
 have c:W.keptBut W' (· ∈before):=World.keptBut_mono (fun _ h=>absurd h id) (show W.keptBut W' (fun _=>False) from⟨hk.os,hk.output,fun i m=>by
  rw[heap i m,OX m];cases W.heap[i]<;>simp⟩)
 refine⟨ds,gs,before,[],pa,pv,hW,hres _ _ _,hargs _ y,hvars _ y,World.keptBut_mono (fun p q=>⟨q,?_⟩) c,fun _=>?_⟩
 ·rw[hps,Kn]at q;exact Or.inr q
 ·obtain⟨_,_,_,_,_,hz,hn⟩:=hW;refine⟨hok,_,_,([]++pa)++pv,⟨[]++pa,pv,trodAll_append (hargs _ (fun _ _=>rfl)) (hres _ _ _),hvars _ (fun _ _=>rfl),rfl,?_,?_⟩,?_⟩
  ·intro b n q;have z:MemPlace.cell b n∈before:=by rw[hps];simpa using q
   have d:=hz b n z;have x:=heap b (u _ z);unfold World.frozen? at d|-;rw[x];exact d
  ·intro k
   have:=hn k;rw[hps]at this;simpa using this
  ·intro p q _;rw[hps];simpa using q
end
end Go.Tm
namespace Go.Tm
open Go.Proofs Go.RowKit Go.Proofs.Tryz
variable{W w w' w1:Qm}{v v':Q0}{B b i k n:Nat}{xs:Kb}
def Ce:=@Nat.lt_or_ge
def nF:=@List.getElem?_eq_none
def VU:=@List.reverse_append
def Ph:=@List.reverse_cons
def MP:=@List.dropWhile_cons
def LY:=@List.mem_of_mem_take
def N9:=@Nat.eq_zero_or_pos
def Hy:=@List.append_nil
def VV:=@World.ownsRow.alloc
def LZ:=@wpListIn_plain
def VW:=@Oper.semAt_plain
def iE:=@Nat.shiftLeft_add_eq_or_of_lt
def Y5:=@Nat.shiftLeft_eq
def Fd:=@Nat.shiftRight_eq_div_pow
def Gb:=@Nat.pow_succ
def Yf:=@Nat.add_zero
def Cf:=@Nat.lt_of_lt_of_le
def CM:=@Nat.mul_assoc
def Ig:=@Int.toNat_natCast
def Pi:=@Nat.one_mul
def Sn:=@List.drop_succ_cons
abbrev uV(x:Nat):Q0:=.int .u32 (x:Int)
def Ao(w:Qm)(v:Q0)(l:Qv):Prop:=
 l.length<=1000000/\(∀x∈l,x<LB)/\∃a cap,v=.slice a l.length cap/\l.length<=cap/\∀i,i<l.length->∃b off,a=some ⟨b,off,none⟩/\w.cell? ⟨b,off+i,none⟩=some (uV (Zi l i))
def Ao.same{l:Qv}(h:Ao w v l)(hk:Qd w w'):Ao w' v l:=by
 obtain⟨z,m,a,j,rfl,y,u⟩:=h;refine⟨z,m,a,j,rfl,y,fun i n=>?_⟩;obtain⟨b,q,e,c⟩:=u i n;exact⟨b,q,e,hk.cell c fun _ _=>trivial⟩
def Ao.Ab{l:Qv}(h:Ao w v l):∃a cap,v=.slice a l.length cap:=by
 obtain⟨q,y,a,cap,rfl,j,z⟩:=h;exact⟨a,cap,rfl⟩
def Ao.nil(w:Qm):Ao w (.slice none 0 0) []:=⟨sM,sM,none,0,rfl,sM,fun i j=>absurd j sM⟩
def MQ{l:Qv}(h:i<l.length):Zi l i∈l:=by
 unfold Zi;rw[K9,Km h];exact Zp h
def Ao.lt{l:Qv}(h:Ao w v l)(i:Nat):Zi l i<LB:=by
 rcases Ce i l.length with j|j
 ·exact h.2.1 _ (MQ j)
 ·unfold Zi;rw[K9,nF j];decide
def Ma{l:Qv}(h:l.length<=i):Zi l i=0:=by unfold Zi;rw[K9,nF h];rfl
def iF{P:Prop}(h:P:=by
 simp[Zi,K9,Km hi]):P:=h
def Ao.Be{l:Qv}{t:TypeId}{f:Nat × Nat}{cap:Nat}(h:w.heap[b]? =some (.cells (l.map uV).toArray t f))(hl:l.length<=1000000)(hb:∀x∈l,x<LB)(hc:l.length<=cap):Ao w (.slice (some ⟨b,0,none⟩) l.length cap) l:=by
 refine⟨hl,hb,_,cap,rfl,hc,fun i hi=>⟨b,0,rfl,?_⟩⟩;unfold World.cell?;rw[h];show(l.map uV).toArray[0+i]? =_;rw[Z3,MJ,CV,Km hi];exact iF
def Ih(l:Qv)(v:Q0)(i:Nat)(w:Qm)(hv:Ao w v l)(hi:i<=1000000000):
  Calls prog 277 #[v,.int .i64 (i:Int)] w fun e w'=>e=.returned (.int .u64 (Zi l i))/\w'=w:=by
 have q:Zi l i<1000000000:=hv.lt i
 have u:IntKind.u64.wrap (Zi l i:Int)=(Zi l i:Int):=X7 oM oM
 obtain⟨d,f,a,y,rfl,c,m⟩:=hv
 by_cases j:i<l.length
 ·obtain⟨b,z,rfl,t⟩:=m i j;go_in;go_wp2;go_ret;exact⟨sM,rfl⟩
 ·have n:=Ma (Nat.le_of_not_lt j);go_in;go_wp2;go_ret;exact⟨by rw[n];rfl,rfl⟩
def Mb(l:Qv)(x:Nat):Jf (l++[x])=if x=0 then Jf l else l++[x]:=by
 unfold Jf;rw[VU];simp only[Ph,List.reverse_nil,Ri,List.singleton_append,MP];by_cases h:x=0<;>simp[h]
def Es(l:Qv)(k:Nat)(h:k<l.length):l.take (k+1)=l.take k++[Zi l k]:=by
 rw[List.take_add_one,Km h];simp[Zi,K9,Km h]
def wY{P:Prop}(h:P:=by
 have hL:=F (by rw[ht,Mb,Qa h0]);have h0':((x:Int)==0)=false:=by simpa using h0
 clear ht hx F;go_wp2;go_ret;exact⟨⟨_,rfl,hL⟩,rfl⟩):P:=h
def TZ(l:Qv)(v:Q0)(w:Qm)(hv:Ao w v l):
  Calls prog 334 #[v] w fun e w'=>(∃v',e=.returned v'/\Ao w v' (Jf l))/\w'=w:=by
 obtain⟨h1,h2,a,t,rfl,h3,d⟩:=hv
 go_in
 go_wp2
 go_loop [3] (fun n=>∃k:Nat,k<=l.length/\n=i6 k/\Jf l=Jf (l.take k)) (fun n=>(RowKit.intOf n).toNat)
 case atStart=>exact⟨l.length,Q6 _,rfl,by rw[Vc]⟩
 case round=>
  obtain⟨k,hk,rfl,u⟩:=hrel;replace u:=Qc u;have z:Jf (l.take k)=l.take k->Ao w (.slice a k k) (Jf l):=by
   intro p;rw[u.out,p];have q:(l.take k).length=k:=by rw[Ji];omega
   refine⟨oM,fun x hx=>h2 x (LY hx),a,k,by rw[q],oM,fun i hi=>?_⟩;obtain⟨b,y,e,c⟩:=d i oM;refine⟨b,y,e,?_⟩;rw[c];have:Zi (l.take k) i=Zi l i:=by unfold Zi;rw[K9,E5 oM,K9]
   rw[this]
  obtain⟨F,r⟩:∃F,F=z:=⟨_,rfl⟩;clear r z;rcases N9 k with rfl|f
  ·have hL:=F (by simp[Jf]);go_wp2;go_ret;exact⟨⟨_,rfl,hL⟩,rfl⟩
  ·obtain⟨m,rfl⟩:∃m,k=m+1:=⟨k-1,oM⟩;obtain⟨b,y,rfl,c⟩:=d m oM;have ht:=Es l m oM;have hw:wrap64 (((m+1:Nat):Int)-1)=(m:Int):=by rw[F9 _ oM];omega
   generalize hx:Zi l m=x at c ht;by_cases h0:x=0
   ·subst h0;have j:Jf l=Jf (l.take m):=by rw[u.out,ht,Mb,Qe rfl]
    replace j:=Qc j;clear ht hx F;go_wp2;go_round
    case rel=>exact⟨m,oM,sM,j.out⟩
    case measure=>simp[RowKit.intOf]
   ·exact wY
def L4{t:TypeId}(hs:Qd w W)(hB:B=w.heap.size)(hrow:W.ownsRow B t 1 v k xs)(hgrow:W.grownBy w1 v.ownBlock):Qd w w1:=by
 exact hs.grown hgrow fun r j o' _ _ y=>by
  rcases hrow.2 with⟨rfl,_⟩| ⟨g,m,q,rfl,n,z,_⟩
  ·simp[Value.ownBlock]at j
  ·simp[Value.ownBlock]at j;omega
def E9:(prog.info? 236).map (fun i=>(i.zero,i.size,i.bytes))=some (some (.int .u32 0),1,4):=by kernel_rfl
def Ao.AU{l:Qv}(h:w.ownsRow B 236 1 v l.length (l.map uV))(hl:l.length<=1000000)(hb:∀x∈l,x<LB):Ao w v l:=by
 rcases h.2 with⟨rfl,z⟩| ⟨g,q,j,rfl,_,y,m,_,b,n⟩
 ·rw[CW.1 z];exact Ao.nil w
 ·refine⟨hl,hb,_,q,rfl,m,fun i hi=>⟨g,0,rfl,?_⟩⟩;rw[Rd y,Z3];have u:j[i]? =(l.map uV)[i]?:=by
   rw[<-n,E5 oM,wD]
  rw[u,CV,Km hi];exact iF
def So(h0:0<n)(hn:n<18446744073709551616):Y3 n=n % LB::Y3 (n/LB):=by
 unfold Y3;have e:LB=1000000000:=rfl;by_cases j:n<1000000000
 ·have:n/1000000000=0:=Nat.div_eq_of_lt j;have y:n % 1000000000=n:=Ye j;rw[e,Qa oM,Qe j,this,Qe rfl,y]
 ·have y:0<n/1000000000:=Nat.div_pos oM dM;by_cases v:n<1000000000*1000000000
  ·have q:n/1000000000<1000000000:=oM;rw[e,Qa oM,Qa j,Qe v,Qa oM,Qe q]
  ·have q:¬n/1000000000<1000000000:=oM;have z:n/1000000000<1000000000*1000000000:=oM;rw[e,Qa oM,Qa j,Qa v,Qa oM,Qa q,Qe z]
def Pj(n:Nat)(hn:n<18446744073709551616):∀x∈Y3 n,x<LB:=by
 unfold Y3;have e:LB=1000000000:=rfl;have j:=Hj n (show 0<1000000000 by decide);have q:=Hj (n/1000000000) (show 0<1000000000 by decide);rw[e];intro x hx;split at hx
 ·simp at hx
 ·split at hx
  ·simp at hx;omega
  ·split at hx
   ·simp at hx;rcases hx with rfl|rfl<;>omega
   ·simp at hx;rcases hx with rfl|rfl|rfl<;>omega
def Fe(n:Nat):(Y3 n).length<=3:=by
 unfold Y3;split
 ·simp
 ·split
  ·simp
  ·split<;>simp
def BC{x:Int}(h0:0<=x)(h1:x<4294967296):IntKind.u32.wrap x=x:=by
 exact wG
def ZH(n:Nat)(w:Qm)(hn:n<18446744073709551616):
  Calls prog 319 #[.int .u64 (n:Int)] w fun e w'=>(∃v',e=.returned v'/\Ao w' v' (Y3 n))/\Qd w w':=by
 obtain⟨i0,a3,a4,a5,a2⟩:=Gk E9
 obtain⟨t,ht⟩:=X0 (Y3 n)
 have b:=Fe n
 have f:=Pj n hn
 rw[ht]at b f|-
 go_in
 go_wp2
 go_loopw [0,3] (fun m v wr=>∃(k:Nat) (l:Qv),m=.int .u64 k/\k<=n/\t=l++Y3 k/\wr.ownsRow w.heap.size 236 1 v l.length (l.map uV)/\Qd w wr) (fun m _ _=>(RowKit.intOf m).toNat)
 case atStart=>exact⟨n,[],rfl,Q6 _,by simpa using ht.symm,Yz _ _ _ _,Ac.refl _ _⟩
 case round=>
  obtain⟨k,l,rfl,hk,r,z,p⟩:=hrel;obtain⟨a,cp,rfl⟩:=Vt z;rcases N9 k with rfl|x
  ·have hz:Y3 0=[]:=rfl;rw[hz,Hy]at r;subst r;have hL:=Ao.AU z oM f;go_wp2;go_ret;exact⟨⟨_,rfl,hL⟩,p⟩
  ·rw[So x oM]at r;have HS:=Qc r;have a8:l.length<=3:=by rw[r]at b;simp at b;omega
   clear r;have c1:IntKind.u32.wrap ((k:Int) % 1000000000)=((k % LB:Nat):Int):=by rw[BC oM oM];show _=((k % 1000000000:Nat):Int);omega
   generalize hy:k % LB=y at c1;have c2:(k:Int)/1000000000=((k/LB:Nat):Int):=by show _=((k/1000000000:Nat):Int);omega
   generalize hq:k/LB=q at c2;have a6:q<k:=by rw[<-hq];exact Nat.div_lt_self x dM
   replace hy:=Qc hy;replace hq:=Qc hq;go_wp2_with(at_builtin;refine LQ _ rfl _ _ 288 rfl w.heap.size 236 i0 (.int .u32 0) 1 4 underlying288 a3 a4 a5 a2 rfl dM _ _ _ rfl (z.alloc _) (ad wr.heap.size 0) 1 1 [uV y] rfl rfl ?c1 ?c2 ?c3 ?c4 ?c5 ?_)
   case c1=>intro j u hu;exact Jw wr #[uV y] _ j u hu
   case c2=>first|rfl| (intro u hu;simp at hu;subst hu;rfl)
   case c3=>unfold maxLen;omega
   case c4=>omega
   case c5=>have:=p.size;simp;omega
   intro v' w1 d c _;have a0:Qd w w1:=L4 (p.alloc _) rfl (VV z _) c;obtain⟨a1,a7,rfl⟩:=Vt d;clear c z;go_wp2;go_roundw
   case rel=>
    refine⟨q,l++[y],sM,oM,by rw[HS.out,hy.out,hq.out];simp,?_,a0⟩;simpa using d
   case measure=>simp[RowKit.intOf];omega
def Ii(s:Qo):Lib.strCells s=Xl (Qf s):=by
 simp[Lib.strCells,Xl,Qf]
def Pk{w w1 w2:Qm}(h1:Ac (fun k _=>k≠b) w w1)(hg:w1.grownBy w2 v.ownBlock)(hown:w1.ownsRow B 5 1 v n xs):
  Ac (N2 B b) w (w2.setCell ⟨b,1,none⟩ v'):=by
 have u:Ac (N2 B b) w w1:=h1.mono fun _ _ _ h=>h.1
 have h3:Ac (N2 B b) w w2:=u.grown hg fun r q o' y hs _=>by
  rcases hown.2 with⟨rfl,_⟩| ⟨g,m,z,rfl,c,j,_⟩
  ·simp[Value.ownBlock]at q
  ·simp[Value.ownBlock]at q;subst q;rw[j]at y;cases y;rcases hs.2 with h|h
   ·omega
   ·exact h _ _ rfl
 exact gZ
def wZ{P:Prop}(h:P:=by
 rcases hown'.2 with⟨hv,_⟩| ⟨g,cap,cur,hv,_⟩
 ·exact⟨_,_,_,hv⟩
 ·exact⟨_,_,_,hv⟩):P:=h
def Ke(B b:Nat)(s:Qo)(xs:Qv)(w:Qm)(h:EU B b xs w)(hlen:xs.length+s.size<=140737488355328)(hBw:B<=w.heap.size):
  Calls prog 94 #[.pointer (some ⟨b,0,none⟩),.string s] w fun e w'=>(∃v,e=.returned v)/\EU B b (xs++Qf s) w'/\Ac (N2 B b) w w':=by
 obtain⟨x,p,d,t,n⟩:=Gk Di
 have u:=K5 xs
 go_in
 go_wp2_with(go_at_call 163;refine(Er B b xs _ h).mono ?_)
 rintro e f ⟨rfl,h1,z⟩
 obtain⟨r,v,q,y,c⟩:=h1
 have c0:f.cell? (ad b 0)=some (pt b):=by rw[Rd q];rfl
 have c1:f.cell? (ad b 1)=some v:=by rw[Rd q];rfl
 go_wp2_with(at_builtin;refine Lib.wpList_append_own_string _ rfl _ _ 116 9 rfl B 5 x underlying116 underlying9 p d t n _ _ _ rfl y s rfl ?c3 ?c4 ?c5 ?_)
 case c3=>unfold maxLen;omega
 case c4=>omega
 case c5=>have:=z.size;omega
 intro v' w2 hown' j _
 have m:b<f.heap.size:=Qg q
 have hb2:w2.heap[b]? =some (.cells #[pt b,v] 118 (0,0)):=by
  rw[j.block b m (fun e=>c e.symm)];exact q
 have d0:w2.cell? (ad b 0)=some (pt b):=by rw[Rd hb2];rfl
 have d1:w2.cell? (ad b 1)=some v:=by rw[Rd hb2];rfl
 refine TT ?_
 intro f1
 obtain⟨k,n',cap,rfl⟩:∃k n' cap,v'=.slice k n' cap:=by
  exact wZ
 go_wp2
 go_ret2
 refine⟨⟨_,rfl⟩,.inr ?_,?_⟩
 ·rw[CL,<-Ii];exact NJ (T:=118) (e:=5) r hb2 (bs':=Xl xs++Lib.strCells s) (by simpa[Lib.strCells_length,u] using hown') dM
 ·exact Pk z j y
section
variable{F:Fence}{n:Nat}{P:Program}{ops:Array Oper}{Q:Exit->Act->Qm->Prop}{S:Qm->Prop}{X:Oper->Bool}
def ZI(F:Fence)(n:Nat)(P:Program)(ops:Array Oper)(Q:Exit->Act->Qm->Prop)(o:Oper)(a:Act)(w:Qm):Prop:=
 if Region.wanted o (yielded ops a.tmps)=true then o.wpIn F n P a w (fun a' w'=>Q .normal a' w') (Jk Q)
 else Q .normal (a.put o.dst undef) w
def Sp(F:Fence)(n:Nat)(P:Program)(ops:Array Oper)(Q:Exit->Act->Qm->Prop)(o:Oper):Exit->Act->Qm->Prop
 | .normal,a,w=>ZI F n P ops Q o a w
 |_,_,_=>False
def Ua{o:Oper}:ZF (Sp F n P ops Q o):=⟨fun _ _ _ h=>h,fun _ _ h=>h⟩
def VX(hF:∀f,F.fn f)(hd:F.depth=none)(hchk:Fb ops X=true)(L:Nat)(oL:Oper)(hL:ops[L]? =some oL)(hLs:ops.size=L+1)(hwt:∀i,i<L->MN ops 10 i L=true):
  ∀(m:Nat) (T:Qv) (listed:Array Bool) (a:Act) (w:Qm),T.length=m->T.Pairwise (· < ·)->
  (∀i,i∈T↔i<L/\listed.getD i true=false)->listed.getD L true=false->TN ops listed->listed.size=ops.size->S w->Dh F n P ops (Sp F n P ops Q oL) S X (T.filterMap (ops[·]?)) a w->
  wpAnyIn F n P .any ops (Jk Q) (m+1) listed a w:=by
 intro m
 have k:∀j o,ops[j]? =some o->G3 o=true/\(∀e∈o.after,Region.binds .any e=true->e.on<j)/\∀i,i<j->TM ops X i j=true:=by
  exact Qfl
 induction m with
 |zero=>
  intro T listed a w hT hp z a2 hc hs hS h;obtain rfl:T=[]:=wC hT;have b6:L<ops.size:=oM;have ad:∀e∈oL.after,Region.binds .any e=true->listed.getD e.on false=true:=fun e he hb=>by
   have hlt:=(k L oL hL).2.1 e he hb;cases hl:listed.getD e.on false with
   |true=>rfl
   |false=>
    have a4:=(z e.on).2 ⟨hlt,by rw[Yi oM];exact hl⟩;cases a4
  refine⟨fun hr=>?_,fun i hi=>?_⟩
  ·exfalso;have:L∈Region.ready .any ops listed:=Eo.2 ⟨a2,_,hL,ad⟩;rw[hr]at this;cases this
  ·obtain⟨h0,o,ho,d⟩:=Eo.1 hi;have a0:i<ops.size:=(QW.1 ho).1;have b3:i=L:=by
    rcases Ce i L with u|u
    ·have:=(z i).2 ⟨u,h0⟩;cases this
    ·omega
   subst b3;rw[hL]at ho;cases ho;have a9:∀a w,Q .normal a w->wpAnyIn F n P .any ops (Jk Q) 0 (listed.setIfInBounds i true) a w:=fun a w hq=>by
    refine⟨?_,hq⟩;rw[List.eq_nil_iff_forall_not_mem];intro j hj;obtain⟨h2,o,ho,_⟩:=Eo.1 hj;have b7:j<ops.size:=(QW.1 ho).1;by_cases c:j=i
    ·subst c;simp[Array.getD,hs,a0]at h2
    ·rw[OZ true (Ne.symm c)]at h2
     have:=(z j).2 ⟨oM,h2⟩;cases this
   have h':ZI F n P ops Q oL a w:=h;unfold ZI at h';unfold wpOpIn;simp only[hL];by_cases hw:Region.wanted oL (yielded ops a.tmps)=true
   ·rw[Qe hw]at h'|-;exact Oper.wpIn_mono (fun a w h=>a9 _ _ h) h'
   ·rw[Qa hw]at h'|-;exact⟨fun f _=>hF f,a9 _ _ h'⟩
 |succ m ih=>
  intro T listed a w hT hp z a2 hc hs hS h;have b1:∀i∈Region.ready .any ops listed,i∈T:=fun i hi=>by
   obtain⟨h0,o,ho,d⟩:=Eo.1 hi;have a0:i<ops.size:=(QW.1 ho).1;rcases Ce i L with u|u
   ·exact(z i).2 ⟨u,h0⟩
   ·exfalso;obtain rfl:i=L:=oM;cases T with
    |nil=>simp at hT
    |cons t T=>
     obtain⟨a7,a1⟩:=(z t).1 (Yr ..)
     have:=Db hc 10 t i (hwt t a7) fun o' b e he hb=>by rw[ho]at b;cases b;exact d e he hb
     rw[Yi oM,this]at a1;cases a1
  refine⟨fun hr=>?_,fun i hi=>?_⟩
  ·exfalso;cases T with
   |nil=>simp at hT
   |cons t T=>
    obtain⟨a7,a1⟩:=(z t).1 (Yr ..);have aa:t<ops.size:=oM;have ho:ops[t]? =some ops[t]:=OX aa;have:t∈Region.ready .any ops listed:=Eo.2 ⟨a1,_,ho,fun e he hb=>by
     have hlt:=(k t _ ho).2.1 e he hb;cases hl:listed.getD e.on false with
     |true=>rfl
     |false=>
      have a4:=(z e.on).2 ⟨oM,by rw[Yi oM];exact hl⟩;rcases Xg.1 a4 with u|u
      ·omega
      ·have:=(LP.1 hp).1 _ u;omega⟩
    rw[hr]at this;cases this
  ·have af:=b1 i hi;obtain⟨h0,o,ho,d⟩:=Eo.1 hi;have b5:=((z i).1 af).1;obtain⟨r,post,rfl⟩:=List.append_of_mem af;obtain⟨ah,a6,a3⟩:=OY.1 hp;have a0:i<ops.size:=(QW.1 ho).1;rw[NI,ZD,ho]at h;have q:=Pf (post:=post.filterMap (ops[·]?)) hF hd Ua (k i o ho).1 (r.filterMap (ops[·]?)) a w ?_ hS h
   ·rw[<-NI]at q;have b2:∀j,j∈r++post↔j<L/\(listed.setIfInBounds i true).getD j true=false:=by
     intro j;by_cases c:j=i
     ·subst c;constructor
      ·intro hj;rcases Kn.1 hj with u|u
       ·have:=a3 j u j (Yr ..);omega
       ·have:=(LP.1 a6).1 j u;omega
      ·rintro⟨_,u⟩;simp[Array.getD,hs,a0]at u
     ·rw[OZ true (Ne.symm c),<-z j];simp only[Kn,Xg];constructor
      ·rintro(u|u)<;>simp[u]
      ·rintro(u|u|u)
       ·exact .inl u
       ·exact absurd u c
       ·exact .inr u
    have ae:(listed.setIfInBounds i true).getD L true=false:=by
     rw[OZ true oM];exact a2
    have b0:TN ops (listed.setIfInBounds i true):=by
     intro m' o' b ab e he hb;refine getD_set_true ?_;by_cases a8:m'=i
     ·subst a8;rw[ho]at b;cases b;exact d e he hb
     ·rw[OZ false (Ne.symm a8)]at ab;exact hc m' o' b ab e he hb
    have next:∀a w,S w->Dh F n P ops (Sp F n P ops Q oL) S X ((r++post).filterMap (ops[·]?)) a w->wpAnyIn F n P .any ops (Jk Q) (m+1) (listed.setIfInBounds i true) a w:=fun a w hS h=>
     ih (r++post) _ a w (by simp at hT|-;omega) (OY.2 ⟨ah,(LP.1 a6).2,fun x hx y hy=>a3 x hx y (Kk _ hy)⟩) b2 ae b0 (by simp[hs]) hS h
    unfold wpOpIn;simp only[ho];unfold N8 at q;by_cases hw:Region.wanted o (yielded ops a.tmps)=true
    ·rw[Qe hw]at q|-;by_cases hx:X o=true
     ·rw[Qe hx]at q;obtain⟨v,hv,_,hk⟩:=q w hS;refine⟨fun f _=>hF f,?_⟩;rw[Ib (k i o ho).1,hv];exact next _ _ hS hk
     ·rw[Qa hx]at q;have h2:=(C3 (k i o ho).1 hF hd Ua).1 q;have h3:o.wpIn F n P a w (fun a' w'=>S w'/\Dh F n P ops (Sp F n P ops Q oL) S X (List.filterMap (fun x=>ops[x]?) (r++post)) a' w') (Jk Q):=(C3 (k i o ho).1 hF hd MM).2 h2;exact Oper.wpIn_mono (fun a w h=>next _ _ h.1 h.2) h3
    ·rw[Qa hw]at q|-;exact⟨fun f _=>hF f,next _ _ hS q⟩
   ·intro p b4;obtain⟨j,hj,ac⟩:=List.mem_filterMap.1 b4;have c:j<i:=a3 j hj i (Yr ..);have ag:=(z j).1 (T7 _ hj);refine⟨(k j p ac).1,?_⟩;have a5:=(k i o ho).2.2 j c;unfold TM at a5;simp only[ac,ho,Y2,X1]at a5;rcases a5 with u|u
    ·exact u
    ·have:=Db hc 10 j i u fun o' b e he hb=>by rw[ho]at b;cases b;exact d e he hb
     rw[Yi oM,this]at ag;cases ag.2
def Pl{id:Nat}{l:List Oper}{oL:Oper}{a:Act}{w:Qm}(S:Qm->Prop)(X:Oper->Bool)(hF:∀f,F.fn f)(hd:F.depth=none)(hm:P.follows .mixedOrders=true)(hchk:Fb (l++[oL]).toArray X=true)
  (hwt:((List.range l.length).all fun i=>MN (l++[oL]).toArray 10 i l.length)=true)(hS:S w.drew)
  (h:AL (Dh F n P (l++[oL]).toArray (Sp F n P (l++[oL]).toArray Q oL) S X l a w.drew)):(Code.region id (l++[oL]).toArray true).wpIn F n P Q a w:=by
 refine wpIn_mono (Q:=Jk Q) (wpIn_region_any hm ?_) fun e a w h=>by cases e<;>first|exact h|exact h.elim
 have j:(l++[oL]).toArray.size=l.length+1:=sM
 rw[j]
 refine VX hF hd hchk l.length oL sM j (fun i q=>(Vf.1 hwt) i (Vw.2 q)) _ (List.range l.length) _ a _ sM List.pairwise_lt_range ?_ ?_ ?_ sM hS ?_
 ·intro i;simp only[Vw];constructor
  ·intro h;refine⟨h,?_⟩;simp[Array.getD];omega
  ·exact fun h=>h.1
 ·simp[Array.getD]
 ·intro m o _ hm;exfalso;simp[Array.getD]at hm
 ·have:(List.range l.length).filterMap ((l++[oL]).toArray[·]?)=l:=by
   have z:(List.range l.length).filterMap ((l++[oL]).toArray[·]?)=(List.range l.length).filterMap (l[·]?):=by
    have v:∀r:Qv,(∀i∈r,i<l.length)->r.filterMap ((l++[oL]).toArray[·]?)=r.filterMap (l[·]?):=by
     intro r;induction r with
     |nil=>intro _;rfl
     |cons x r ih=>
      intro y;rw[ZD,ZD,ih fun i q=>y i (Kk _ q)];have:(l++[oL]).toArray[x]? =l[x]?:=by rw[MJ,L3 (y x Yr)]
      rw[this]
    exact v _ fun i q=>Vw.1 q
   rw[z];exact CK l
  rw[this];exact h.out
def Vz:List Oper->List Oper
 | []=>[]
 | [_]=>[]
 |x::y::l=>x::Vz (y::l)
def nG:List Oper->Option Oper
 | []=>none
 | [x]=>some x
 |_::y::l=>nG (y::l)
def ZJ:∀(l:List Oper) {o:Oper},nG l=some o->l=Vz l++[o]
 | [],_,h=>by cases h
 | [x],_,h=>by cases h;rfl
 |x::y::l,o,h=>by
  have:=ZJ (y::l) (o:=o) h;rw[Vz,Y0,<-this]
def Gh{id:Nat}{oL:Oper}{a:Act}{w:Qm}(S:Qm->Prop)(X:Oper->Bool)(hF:∀f,F.fn f)(hd:F.depth=none)(hm:P.follows .mixedOrders=true)(ho:nG ops.toList=some oL)(hchk:Fb ops X=true)
  (hwt:((List.range (ops.size-1)).all fun i=>MN ops 10 i (ops.size-1))=true)(hS:S w.drew)
  (h:AL (Dh F n P ops (Sp F n P ops Q oL) S X (Vz ops.toList) a w.drew)):(Code.region id ops true).wpIn F n P Q a w:=by
 have e:=ZJ _ ho
 have q:(Vz ops.toList++[oL]).toArray=ops:=by rw[<-e]
 have j:(Vz ops.toList).length=ops.size-1:=by
  have:=congrArg List.length e;rw[Zv]at this;simp at this;omega
 have:=Pl (id:=id) (l:=Vz ops.toList) (oL:=oL) (a:=a) (w:=w) (F:=F) (n:=n) (P:=P) (Q:=Q) S X hF hd hm
 rw[q,j]at this
 exact this hchk hwt hS h
def G5{o:Oper}{a:Act}{w:Qm}(hg:o.guard=none)(h:o.wpIn F n P a w (fun a' w'=>Q .normal a' w') (Jk Q)):ZI F n P ops Q o a w:=by
 unfold ZI;rw[Qe (by unfold Region.wanted;rw[hg])];exact h
def BD{a:Act}{w:Qm}{o:Oper}(h:ZI F n P ops Q o a w):AL (Dh F n P ops (Sp F n P ops Q o) S X [] a w):=⟨h⟩
end
def Du{F:Fence}{n:Nat}{P:Program}{ops:Array Oper}{rest:List Oper}{o:Oper}{a:Act}{w:Qm}{Q:Exit->Act->Qm->Prop}(hgd:o.guard=none)(ty:TypeId)(x y:Operand)(ho:o.op=.store ty x y)
  (g:Nat)(cells:Array Q0)(hx:a.eval x=.pointer (some ⟨g,0,none⟩))(hy:a.eval y=.agg cells)
  (t:TypeId)(old:Array Q0)(hg:w.heap[g]? =some (.cells old t (0,0)))(hi:(P.info? ty).map (·.size)=some cells.size)
  (hold:old.size=cells.size)(h1:cells.all (·.oneCell')=true)
  (h:wpListIn F n P ops Q rest (a.put o.dst undef) (w.setRow g cells)):wpListIn F n P ops Q (o::rest) a w:=by
 refine LZ hgd fun K q=>?_
 unfold Oper.wpIn
 refine⟨?_,?_⟩
 ·simp[Oper.about,ho]
 ·rw[VW F _ _ (by rw[ho];intro c j;cases j)];unfold execOp;simp only[ho,hx,hy,Instr.storeAt,Instr.sureAddr,Vv,N4,Yd,run_storeVar_row w g t ty old cells hg hi hold h1];exact q _ _ h
def Gi{F:Fence}{n:Nat}{P:Program}{ops:Array Oper}{rest:List Oper}{op:Oper}{a:Act}{w:Qm}{Q:Exit->Act->Qm->Prop}(hgd:op.guard=none)(ty:TypeId)(x:Operand)(ho:op.op=.load ty x)
  (b o:Nat)(hx:a.eval x=.pointer (some ⟨b,o,none⟩))(cs:Kb)(d:TypeDesc)(hc:w.rangeAt b o cs)
  (hu:P.underlying ty=some d)(hd:d.isRow=true)(hi:(P.info? ty).map (·.size)=some cs.length)
  (h:wpListIn F n P ops Q rest (a.put op.dst (.agg cs.toArray)) w):wpListIn F n P ops Q (op::rest) a w:=by
 refine LZ hgd fun K j=>?_
 unfold Oper.wpIn
 refine⟨?_,?_⟩
 ·simp[Oper.about,ho]
 ·rw[VW F _ _ (by rw[ho];intro c hc;cases hc)];unfold execOp;simp only[ho,hx,Instr.loadAt,Instr.sureAddr,Vv,N4,Yd,run_loadVar_mid w b o ty cs d hc hu hd hi];exact j _ _ h
def C4(x n:Nat):x&&&Qw n=x % 2^n:=by unfold Qw;exact T9 x n
def Ub(fr ex sign exp frac:Nat)(he:exp<2^ex)(hf:frac<2^fr):Kg fr (fr+ex+1) sign exp frac=(sign*2^ex+exp)*2^fr+frac:=by
 unfold Kg;rw[show fr+ex+1-1=ex+fr by omega,Nat.shiftLeft_add,<-Nat.shiftLeft_or_distrib,<-iE he,<-iE hf];simp only[Y5]
def NU{b:Nat}(hb:b<18446744073709551616):∃s e f:Nat,s<=1/\e<2048/\f<4503599627370496/\b=(s*2048+e)*4503599627370496+f/\b>>>63&&&1=s/\b>>>52&&&2047=e/\b&&&Qw 52=f:=by
 refine⟨b/9223372036854775808,b/4503599627370496 % 2048,b % 4503599627370496,oM,oM,oM,oM,?_,?_,?_⟩
 ·rw[Fd,show(1:Nat)=2^1-1 from rfl,T9];omega
 ·rw[Fd,show(2047:Nat)=2^11-1 from rfl,T9]
 ·rw[C4]
def ZK{x n:Nat}(h:x<2^n):Zl x<=n:=by
 unfold Zl;split
 ·omega
 ·rename_i j
  have:=(Nat.log2_lt j).2 h;omega
def rF{x n:Nat}(h1:2^n<=x)(h2:x<2^(n+1)):Zl x=n+1:=by
 have j:x≠0:=by have:=Ng n;omega
 unfold Zl;rw[Qa j,(Nat.log2_eq_iff j).2 ⟨h1,h2⟩]
def MR{w:Int}{fr ex:Nat}(hw:Gf w=some (fr,ex,fr+ex+1))(hfe:fr+ex+1≠64)(s e f:Nat)(hs:s<=1)(he:e<2^ex)(hf:f<2^fr):
  Kx (Kg fr (fr+ex+1) s e f) w=
   (if e=Qw ex then(Kg 52 64 s 2047 (f<<<(52-fr)),0)
   else if e=0/\f=0 then(Kg 52 64 s 0 0,0)
   else if e=0 then(Kg 52 64 s (1+1023-Qw (ex-1)-(fr+1-Zl f)) ((f<<<(fr+1-Zl f)&&&Qw fr)<<<(52-fr)),0)
   else(Kg 52 64 s (e+1023-Qw (ex-1)) (f<<<(52-fr)),0)):=by
 have v:=Ub fr ex s e f he hf
 have c:=Ng fr
 have n:=Ng ex
 have b:s*2^ex+e<2^(ex+1):=by
  rw[Gb];have:s*2^ex<=1*2^ex:=FT _ hs;omega
 have j:Kg fr (fr+ex+1) s e f/2^fr=s*2^ex+e:=by
  rw[v,Jj,Nat.mul_add_div c,Nat.div_eq_of_lt hf,Yf]
 have q:Kg fr (fr+ex+1) s e f % 2^fr=f:=by
  rw[v,Jj,Nat.mul_add_mod,Ye hf]
 have y:Kg fr (fr+ex+1) s e f<2^(fr+ex+1):=by
  rw[v,show fr+ex+1=(ex+1)+fr by omega,Cb];have:(s*2^ex+e+1)*2^fr<=2^(ex+1)*2^fr:=FT _ b;rw[Aaa]at this;omega
 have u:Kg fr (fr+ex+1) s e f>>>(fr+ex+1-1)&&&1=s:=by
  rw[show fr+ex+1-1=fr+ex by omega,Fd,Cb,<-Nat.div_div_eq_div_mul,j,show(1:Nat)=2^1-1 from rfl,T9];rw[Jj s,Nat.mul_add_div n,Nat.div_eq_of_lt he];omega
 have m:Kg fr (fr+ex+1) s e f>>>fr&&&Qw ex=e:=by
  rw[Fd,j,C4,Jj s,Nat.mul_add_mod,Ye he]
 have z:Kg fr (fr+ex+1) s e f&&&Qw fr=f:=by rw[C4,q]
 unfold Kx
 rw[hw]
 simp only
 rw[Qa (by have:=ZK y;omega),u,m,z,Qa hfe]
def Ij{s e f:Nat}(he:e<2048)(hf:f<4503599627370496):Kg 52 64 s e f=(s*2048+e)*4503599627370496+f:=Ub 52 11 s e f he hf
def rG{fr f up:Nat}(hfr:fr<=52)(h1:1<=up)(h2:up<=fr)(hf:f<4503599627370496)(hd:(f+4503599627370496) % 2^(52-fr+up)=0):
  (f+4503599627370496)/2^(52-fr+up)<2^fr/\0< (f+4503599627370496)/2^(52-fr+up)/\fr+1-Zl ((f+4503599627370496)/2^(52-fr+up))=up/\
  (((f+4503599627370496)/2^(52-fr+up))<<<up&&&Qw fr)<<<(52-fr)=f:=by
 generalize b:(f+4503599627370496)/2^(52-fr+up)=F
 have q:F*2^(52-fr+up)=f+4503599627370496:=by
  have:=TA (f+4503599627370496) (2^(52-fr+up));rw[b,hd,Jj]at this;omega
 have j:(4503599627370496:Nat)=2^(fr-up)*2^(52-fr+up):=by rw[<-Cb,show fr-up+(52-fr+up)=52 by omega]
 have z:(9007199254740992:Nat)=2^(fr-up+1)*2^(52-fr+up):=by rw[<-Cb,show fr-up+1+(52-fr+up)=53 by omega]
 have d:=Ng (52-fr+up)
 have n:2^(fr-up)<=F:=Nat.le_of_mul_le_mul_right (by rw[<-j,q];omega) d
 have m:F<2^(fr-up+1):=Nat.lt_of_mul_lt_mul_right (a:=2^(52-fr+up)) (by rw[<-z,q];omega)
 have c:=rF n m
 refine⟨Cf m (Rj dM oM),Cf (Ng _) n,by rw[c];omega,?_⟩
 rw[C4,Y5,Y5]
 generalize k:F*2^up=Y
 have y:Y*2^(52-fr)=f+4503599627370496:=by rw[<-k,<-q,CM,<-Cb,Nat.add_comm up]
 have v:(4503599627370496:Nat)=2^fr*2^(52-fr):=by rw[<-Cb,show fr+(52-fr)=52 by omega]
 have u:=Ng (52-fr)
 have x:2^fr<=Y:=Nat.le_of_mul_le_mul_right (by rw[<-v,y];omega) u
 have p:Y<2^fr+2^fr:=Nat.lt_of_mul_lt_mul_right (a:=2^(52-fr)) (by rw[Aaa,<-v,y];omega)
 have t:Y % 2^fr=Y-2^fr:=by
  rw[Nat.mod_eq_sub_mod x,Ye oM]
 rw[t,Nat.sub_mul,<-v,y]
 omega
def MS{b:Nat}{w:Int}{u:Nat}(hb:b<18446744073709551616)(h:Xx b w=(u,true)):Kx u w=(b,0):=by
 obtain⟨s,e,f,hs,he,d,m,c1,c2,c3⟩:=NU hb;have c:∀fr ex:Nat,Gf w=some (fr,ex,fr+ex+1)->(fr=10/\ex=5∨fr=23/\ex=8)->Kx u w=(b,0):=by
  intro fr ex hw y;have z:fr+ex+1≠64:=oM;unfold Xx at h;rw[hw]at h;simp only[Qa z,c1,c2,c3]at h;have hz:∀k:Nat,k<=52->∀x:Nat,x&&&Qw k=0->x % 2^k=0:=fun k _ x hx=>by rwa [C4]at hx
  have v:∀x:Nat,x<4503599627370496->x % 2^(52-fr)=0->(x>>>(52-fr))<2^fr/\(x>>>(52-fr))<<<(52-fr)=x:=fun x hx hm=>by
   rw[Fd,Y5];rcases y with⟨rfl,rfl⟩| ⟨rfl,rfl⟩
   ·simp only[Nat.reduceSub,Nat.reducePow]at hm|-;omega
   ·simp only[Nat.reduceSub,Nat.reducePow]at hm|-;omega
  have a1:0<2^fr:=Ng fr;have t:Qw ex<2^ex/\Qw ex≠0:=by rcases y with⟨rfl,rfl⟩| ⟨rfl,rfl⟩<;>decide
  by_cases h1:e=2047
  ·rw[Qe h1]at h;unfold X2 at h;split at h
   ·cases h
   ·rename_i q;have j:=hz _ oM _ (Classical.not_not.1 q);obtain⟨g1,g2⟩:=v f d j;cases h;rw[MR hw z s _ _ hs t.1 g1,Qe rfl,g2,Ij dM d,m,h1]
  ·rw[Qa h1]at h;by_cases h2:e=0/\f=0
   ·rw[Qe h2]at h;unfold X2 at h;split at h
    ·cases h
    ·cases h;rw[show(0:Nat)>>>(52-fr)=0 by simp,MR hw z s 0 0 hs (Ng ex) a1,Qa (Ne.symm t.2),Qe ⟨rfl,rfl⟩,Ij dM dM,m,h2.1,h2.2]
   ·rw[Qa h2]at h;split at h
    ·rename_i h3;unfold X2 at h;split at h
     ·cases h
     ·rename_i q;have j:=hz _ oM _ (Classical.not_not.1 q);obtain⟨g1,g2⟩:=v f d j;cases h;obtain⟨k,hk⟩:∃k:Nat,((e:Int)-1023+(Qw (ex-1):Nat))=k:=⟨((e:Int)-1023+(Qw (ex-1):Nat)).toNat,oM⟩;rw[hk]at h3|-;rw[Ig];have a6:k<Qw ex:=oM;rw[MR hw z s k _ hs oM g1,Qa oM,Qa oM,Qa oM,g2,show k+1023-Qw (ex-1)=e by omega,Ij he d,m]
    ·split at h
     ·rename_i h3 h4;unfold X2 at h;split at h
      ·cases h
      ·rename_i q;have a3:f|||2^52=f+4503599627370496:=by
        have:=iE (i:=52) (b:=f) d 1;rw[Nat.or_comm];simp only[Y5,Pi]at this;omega
       rw[a3]at q h;obtain⟨up,a4⟩:∃up:Nat,1-((e:Int)-1023+(Qw (ex-1):Nat))=up:=⟨(1-((e:Int)-1023+(Qw (ex-1):Nat))).toNat,oM⟩;have a2:((52:Int)-fr+1-((e:Int)-1023+(Qw (ex-1):Nat))).toNat=52-fr+up:=oM;rw[a2]at q h;have j:=hz _ oM _ (Classical.not_not.1 q);obtain⟨g1,g2,g3,g4⟩:=rG (fr:=fr) (up:=up) oM oM oM d j;cases h;rw[Fd,MR hw z s 0 _ hs (Ng ex) g1,Qa (Ne.symm t.2),Qa oM,Qe rfl,g3,g4,show 1+1023-Qw (ex-1)-up=e by omega,Ij he d,m]
     ·cases h
 by_cases r:w=16
 ·subst r;exact c 10 5 rfl (.inl ⟨rfl,rfl⟩)
 ·by_cases a0:w=32
  ·subst a0;exact c 23 8 rfl (.inr ⟨rfl,rfl⟩)
  ·by_cases p:w=64
   ·subst p;have:Xx b 64=(b,true):=rfl;rw[this]at h;cases h;have a5:Zl b<=64:=ZK (n:=64) hb;unfold Kx;simp only[show Gf 64=some (52,11,64) from rfl];rw[Qa oM,Qe trivial]
   ·unfold Xx Gf at h;rw[Qa r,Qa a0,Qa p]at h;cases h
def Ar.B9{S S':Qz}{w:Qm}{B:Nat}{v:Q0}{l:Qp}(h:Ar S w B v l)(hS:∀b,b<w.heap.size->S b->S' b):Ar S' w B v l:=by
 obtain⟨q,h,z⟩:=h;exact⟨q,h,z.mono fun b y j=>⟨hS b y j.1,j.2⟩⟩
def Ak.drop{S:Qz}{w:Qm}:∀{l:Qp} {xs:Kb} (k:Nat),Ak S w l xs->Ak S w (l.drop k) (xs.drop (9*k))
 | [],xs,k,h=>by rw[Ak]at h;subst h;simp[Ak]
 |x::l,xs,0,h=>by simpa using h
 |x::l,xs,k+1,h=>by
  rw[Ak]at h;obtain⟨cs,rest,e,h1,h2⟩:=h;rw[Sn];subst e;have j:=Rep.length h1;rw[show 9*(k+1)=cs.length+9*k by omega,List.drop_append,nB (show cs.length<=cs.length+9*k by omega),Ri,show cs.length+9*k-cs.length=9*k by omega];exact h2.drop k
def Et{S:Qz}{w:Qm}:∀{l:Qp} {xs:Kb},Ak S w l xs->∀u∈xs,u.oneCell'=true
 | [],xs,h,u,hu=>by rw[Ak]at h;subst h;cases hu
 |x::l,xs,h,u,hu=>by
  rw[Ak]at h;obtain⟨cs,rest,rfl,h1,h2⟩:=h;rcases Kn.1 hu with hu|hu
  ·obtain⟨j,m⟩:=x;rw[Kc]at h1;obtain⟨_,v,rfl,q⟩:=h1;obtain⟨a,c,rfl⟩:=q.Ab;exact N6 j a _ c u hu
  ·exact Et h2 u hu
def Uc{w w':Qm}{ops:Array Oper}{rest:List Oper}{o:Oper}{a:Act}{Q:Exit->Act->Qm->Prop}{t:TypeId}{v v' vx:Q0}(hgd:o.guard=none)(s x:Operand)
  (ho:o.op=.call {callee:=.builtin .append,args:=#[s,x],argTypes:=#[t,t]})(hs:a.eval s=v)(hx:a.eval x=vx)
  (hrun:(Builtin.append_ #[t,t] o.type #[v,vx]).run prog w=.ok v' w')(h:wpList prog ops Q rest (a.put o.dst v') w'):wpList prog ops Q (o::rest) a w:=by
 refine wpList_plain hgd fun K j=>?_
 unfold Oper.wp execOp
 simp only[ho,resolve,invoke,builtin,Vv,N4,Yd,List.map_toArray,Zy,EV,hs,hx,hrun]
 exact j _ _ h
def Qdo{S:Qz}{W:Qm}{b:Nat}{f:Nat × Nat}{x y:Aa}{lx ly:Q0}(hb:W.heap[b]? =some (.cells (Qn x.hd lx++Qn y.hd ly).toArray 27 f))(hS:S b)
  (hx:x.hd.ok)(hxr:Ad S W x.l lx)(hy:y.hd.ok)(hyr:Ad S W y.l ly):Ad S W [x,y] (.slice (some ⟨b,0,none⟩) 2 2):=by
 refine⟨Qn x.hd lx++Qn y.hd ly,⟨by show 2<=1099511627776;omega,.inr ⟨b,0,2,_,f,rfl,hS,hb,Q6 _,sM,sM⟩⟩,?_⟩
 rw[Ak]
 refine⟨Qn x.hd lx,Qn y.hd ly,rfl,?_,Y4 ?_⟩
 ·rw[<-Aa.eta x,Kc];exact⟨hx,lx,rfl,hxr⟩
 ·rw[<-Aa.eta y,Kc];exact⟨hy,ly,rfl,hyr⟩
end Go.Tm
namespace Go.Tm
open Go.Lib Go.Proofs Go.RowKit Go.Shelf Go.Sort Go.Proofs.Tryz
variable{w:Qm}{B:Nat}{v:Q0}
def Eu:=@getElem!_pos
def Ik:=@wp_loop_rounds
def Yg:=@rounds_succ
def xA:=@Array.getElem?_modify
def CN:=@UInt8.toNat_ofNat'
def MT:=@List.length_reverse
abbrev Ff(b:UInt8):Q0:=.int .u8 (b.toNat:Int)
def NV(blk off cap:Nat)(d:Array UInt8)(w:Qm)(hH:Holds Ff w blk off d)(hsz:d.size<=9223372036854775807):
  Calls prog 280 #[.slice (some ⟨blk,off,none⟩) d.size cap] w fun e w'=>e=.returned (.tuple #[])/\∃n,w'=putRow Ff (Sort.ahead w n) blk off d.reverse:=by
 go_in
 go_wp2
 go_loopg [2,3] d.size (fun k r p wr=>∃(i jn:Nat) (jz:Int) (dk:Array UInt8) (n:Nat),r=i6 i/\p=i6 jz/\((i:Int)<jz->jz=jn/\jn<d.size)/\(¬(i:Int)<jz->¬i<jn)/\jn-i<=k/\
  dk.size=d.size/\wr=putRow Ff (Sort.ahead w n) blk off dk/\reverseLoop i jn dk=reverseLoop 0 (d.size-1) d)
 case atStart=>exact⟨0,d.size-1,(d.size:Int)-1,d,0,rfl,rfl,fun h=>⟨oM,oM⟩,fun h=>oM,oM,rfl,(putRow_self Ff w blk off d hH).symm,rfl⟩
 case round=>
  obtain⟨i,jn,jz,dk,n,rfl,rfl,c,f,hk,m,v,j⟩:=hrel;by_cases y:(i:Int)<jz
  ·obtain⟨rfl,x⟩:=c y;have b:i<jn:=oM;have q:Holds Ff wr blk off dk:=by rw[v];exact holds_putRow Ff _ blk off d dk (holds_ahead Ff w n blk off d hH) m
   obtain⟨ci,fi⟩:=q i oM;obtain⟨cj,fj⟩:=q jn oM;have A:Aside (wr=putRow Ff (Sort.ahead w n) blk off dk):=v;have u:prog.follows .mixedOrders=true:=rfl;have t:i<d.size:=oM;clear v q hH c f;go_wp2_with fail;go_region_o;go_wp2;go_roundg (jn-1-(i+1))
   case measure=>omega
   case rel=>
    rw[reverseLoop,Qe b]at j;exact⟨i+1,jn-1,(jn:Int)-1,swp dk i jn,n+1,sM,rfl,fun h=>⟨oM,oM⟩,fun h=>oM,Q6 _,by rw[size_swp];exact m,
     swap_world Ff oM oM A.out (by first|rfl|simp[Ff,Eu,show jn<dk.size by omega]) (by first|rfl|simp[Ff,Eu,show i<dk.size by omega]),j⟩
  ·have z:=f y;go_wp2;go_end0;refine⟨rfl,n,?_⟩;rw[reverseLoop,Qa z]at j;rw[<-Lib.reverseLoop_reverse,<-j]
def Ev{P Q:Prop}(h:Q)(f:Wz Q->P:=by
 intro zz;refine Ik 1 ?_;rw[Yg];exact zz.o):P:=f ⟨h⟩
def NW(w:Qm):Calls prog 280 #[.slice none 0 0] w fun e w'=>e=.returned (.tuple #[])/\w'=w:=by
 go_in;go_wp2;refine Ev ?_;go_wp2;go_end0;exact LV
def NX(w:Qm)(n blk:Nat)(d:Array UInt8):Ac (fun b _=>b≠blk) w (putRow Ff (Sort.ahead w n) blk 0 d):=
 ⟨rfl,rfl,rfl,by simp[Sort.ahead],fun b o q j=>by
  show(w.heap.modify blk _)[b]? =some o;rw[xA,Qa (fun e=>j e.symm)];exact q⟩
def NY{xs:Qv}(h:w.ownsRow B 5 1 v xs.length (Xl xs))(hx:∀x∈xs,x<256)(hl:xs.length<=1000000):
  Calls prog 280 #[v] w fun e w'=>e=.returned (.tuple #[])/\(convert 116 9 v).run prog w'=.ok (.string (Xh xs.reverse)) w'/\Ac (fun b _=>v.ownBlock≠some b) w w':=by
 rcases h.2 with⟨rfl,p⟩| ⟨g,y,m,rfl,hB,d,h1,_,h3,k⟩
 ·refine(NW w).mono ?_;rintro e w' ⟨rfl,rfl⟩;have:xs=[]:=CW.1 p;subst this;exact⟨rfl,run_convert_bytes_nil _ _ _ underlying116 underlying5 _ _ _ underlying9,Ac.refl _ _⟩
 ·have hd:∀j (hj:j<xs.length),(xs.map UInt8.ofNat).toArray[j]! =UInt8.ofNat xs[j]:=fun j hj=>by
   rw[Eu _ j (by simpa using hj)];simp
  have q:∀j (hj:j<xs.length),w.cell? (ad g (0+j))=some (Ff (xs.map UInt8.ofNat).toArray[j]!):=fun j hj=>by
   rw[Z3,Rd d];have h5:m[j]? =(Xl xs)[j]?:=by
    rw[<-k,E5 oM,wD]
   rw[h5,hd j hj];unfold Xl Ff;rw[CV,Km hj,CN,Ye (hx _ (Zp hj))];rfl
  have f:Holds Ff w g 0 (xs.map UInt8.ofNat).toArray:=fun j hj=>⟨q j (by simpa using hj),Je d _⟩
  have z:(xs.map UInt8.ofNat).toArray.size=xs.length:=sM;have t:=NV g 0 y (xs.map UInt8.ofNat).toArray w f (by rw[z];omega);rw[z]at t;refine t.mono ?_;rintro e w' ⟨rfl,n,rfl⟩;refine⟨rfl,?_,(NX w n g _).mono fun b o _ r=>fun e=>r (by rw[e];rfl)⟩;have u:=holds_putRow Ff (Sort.ahead w n) g 0 (xs.map UInt8.ofNat).toArray (xs.map UInt8.ofNat).toArray.reverse (holds_ahead Ff w n g 0 _ f) sM
  have:=T8 (P:=prog) (putRow Ff (Sort.ahead w n) g 0 (xs.map UInt8.ofNat).toArray.reverse) 116 9 5 (ad g 0) y (xs.reverse.map UInt8.ofNat) underlying116 underlying5 underlying9 (fun j hj=>by
   rw[Vq,MT]at hj;have c:=(u j (by simpa using hj)).1;rw[Z3]at c;have e:((ad g 0):Addr).add j=(ad g j):=by unfold Addr.add;split<;>simp_all
   rw[e,c,Eu _ j (by simpa using hj)];simp[Ff])
  simpa[Xh] using this
end Go.Tm
namespace Go.Tm
open Go.Proofs Go.RowKit Go.Proofs.Tryz
variable{K:Nat->Obj->Prop}{W w:Qm}{F:Fence}{n:Nat}{P:Program}{Q:Exit->Act->Qm->Prop}{a:Act}
def Vd:=@wpIn_wide
def NZ:=@List.drop_of_length_le
def Xd(h:Ac K w W:=by repeat with_reducible first|exact Ac.refl _ _|refine Ac.alloc ?_ _|refine Ac.drew ?_ |refine Ac.drewN ?_ _|refine Ac.trans ?_ (by assumption)):Ac K w W:=h
class Cl(p:Prop)(q:outParam Prop):Prop where
 o:p->q
instance{p q r s:Prop}[Cl p r][Cl q s]:Cl (p/\q) (r/\s):=⟨fun h=>⟨Cl.o h.1,Cl.o h.2⟩⟩
instance{w:Qm}{b:Nat}{a:Q0}{t:TypeId}{f:Nat × Nat}:Cl (w.heap[b]? =some (.cells #[a] t f)) (w.cell? ⟨b,0,none⟩=some a):=⟨Q4⟩
instance{w:Qm}{b:Nat}{a c:Q0}{t:TypeId}{f:Nat × Nat}:Cl (w.heap[b]? =some (.cells #[a,c] t f)) (w.cell? ⟨b,0,none⟩=some a/\w.cell? ⟨b,1,none⟩=some c):=⟨Ys⟩
instance{w:Qm}{b:Nat}{a c d:Q0}{t:TypeId}{f:Nat × Nat}:Cl (w.heap[b]? =some (.cells #[a,c,d] t f)) (w.cell? ⟨b,0,none⟩=some a/\w.cell? ⟨b,1,none⟩=some c/\w.cell? ⟨b,2,none⟩=some d):=⟨Q1⟩
instance{w:Qm}{b:Nat}{a0 a1 a2 a3 a4 a5 a6 a7 a8:Q0}{t:TypeId}{f:Nat × Nat}:Cl (w.heap[b]? =some (.cells #[a0,a1,a2,a3,a4,a5,a6,a7,a8] t f)) (w.cell? ⟨b,0,none⟩=some a0/\w.cell? ⟨b,1,none⟩=some a1/\w.cell? ⟨b,2,none⟩=some a2/\w.cell? ⟨b,3,none⟩=some a3/\w.cell? ⟨b,4,none⟩=some a4/\w.cell? ⟨b,5,none⟩=some a5/\w.cell? ⟨b,6,none⟩=some a6/\w.cell? ⟨b,7,none⟩=some a7/\w.cell? ⟨b,8,none⟩=some a8):=⟨Qi⟩
instance{w:Qm}{b:Nat}{a:Q0}{t:TypeId}:Cl (Boxed w b t a) (w.cell? ⟨b,0,none⟩=some a):=⟨Boxed.cell⟩
instance{w:Qm}{b:Nat}{h:Hd}{lv:Q0}:Cl (w.rangeAt b 0 (Qn h lv)) (w.cell? ⟨b,0,none⟩=some (.int .i64 h.kind)/\w.cell? ⟨b,1,none⟩=some (.bool h.b)/\w.cell? ⟨b,2,none⟩=some (.bool h.d.neg)/\w.cell? ⟨b,3,none⟩=some (.string h.d.digits)/\w.cell? ⟨b,4,none⟩=some (.int .i64 h.d.exp)/\w.cell? ⟨b,5,none⟩=some (.int .u64 h.u)/\w.cell? ⟨b,6,none⟩=some (.int .i64 h.w)/\w.cell? ⟨b,7,none⟩=some (.string h.s)/\w.cell? ⟨b,8,none⟩=some lv):=⟨fun h=>Z0 h⟩
instance{w:Qm}{b o:Nat}{h:Hd}{lv:Q0}:Cl (w.rangeAt b o (Qn h lv)) (w.cell? ⟨b,o,none⟩=some (.int .i64 h.kind)/\w.cell? ⟨b,o+1,none⟩=some (.bool h.b)/\w.cell? ⟨b,o+2,none⟩=some (.bool h.d.neg)/\w.cell? ⟨b,o+3,none⟩=some (.string h.d.digits)/\w.cell? ⟨b,o+4,none⟩=some (.int .i64 h.d.exp)/\w.cell? ⟨b,o+5,none⟩=some (.int .u64 h.u)/\w.cell? ⟨b,o+6,none⟩=some (.int .i64 h.w)/\w.cell? ⟨b,o+7,none⟩=some (.string h.s)/\w.cell? ⟨b,o+8,none⟩=some lv):=⟨Z0⟩
instance(priority:=1){p:Prop}:Cl p p:=⟨id⟩
def sX{P Q:Prop}(h:Q)(f:Wz Q->P:=by
 intro zz;first|refine K6 rfl rfl ?_ |refine Dt rfl rfl ?_
 intro K hK w' hs;replace hs:=Cl.o hs;go_simp;refine hK _ _ ?_;exact zz.o):P:=f ⟨h⟩
def sG{P Q:Prop}(h:Q)(f:Wz Q->P:=by
 intro zz;refine Qgk (by kernel_rfl) rfl ?_;intro K hK w' hs;replace hs:=Cl.o hs;go_simp;refine hK _ _ ?_;exact zz.o):P:=f ⟨h⟩
def sK{P Q:Prop}(h:Q)(f:Wz Q->P:=by
 intro zz;refine wK (by kernel_rfl) ?_;exact zz.o):P:=f ⟨h⟩
abbrev nR(h:Hd)(s:Q0):Array Q0:=#[.int .i64 h.kind,.bool h.b,.bool h.d.neg,.string h.d.digits,.int .i64 h.d.exp,.int .u64 h.u,.int .i64 h.w,.string h.s,s]
abbrev zR:Array Q0:=#[.int .i64 0,.bool false,.bool false,.string ⟨#[]⟩,.int .i64 0,.int .u64 0,.int .i64 0,.string ⟨#[]⟩,.slice none 0 0]
class Fa(p:Prop)(w:outParam Qm)(S:outParam (Qm->Prop)):Prop where
 o:p->S w.drew
instance{p q:Prop}{w:Qm}{S T:Qm->Prop}[Fa p w S][Fa q w T]:Fa (p/\q) w (fun Z=>S Z/\T Z):=⟨fun h=>⟨Fa.o h.1,Fa.o h.2⟩⟩
instance{w:Qm}{b:Nat}{o:Option Obj}:Fa (w.heap[b]? =o) w (fun Z=>Z.heap[b]? =o):=⟨id⟩
instance{w:Qm}{a:Addr}{v:Option Q0}:Fa (w.cell? a=v) w (fun Z=>Z.cell? a=v):=⟨id⟩
instance{w:Qm}{b o:Nat}{l:Kb}:Fa (w.rangeAt b o l) w (fun Z=>Z.rangeAt b o l):=⟨id⟩
instance{w:Qm}{b:Nat}{t:TypeId}{v:Q0}:Fa (Boxed w b t v) w (fun Z=>Boxed Z b t v):=⟨id⟩
def gR{id:Nat}{l:List Oper}{p:Prop}{S:Qm->Prop}[Fa p w S](hp:p)(h:AL (Dh F n P l.toArray (Jk Q) S reads l a w.drew))(hF:∀f,F.fn f:=by exact fun _=>trivial)(hd:F.depth=none:=by rfl)(hm:P.follows .mixedOrders=true:=by kernel_rfl)(hc:Fb l.toArray reads=true:=by kernel_rfl):(Code.region id l.toArray true).wpIn F n P Q a w:=Ja S reads hF hd hm hc (Fa.o hp) h
def EA{P Q:Prop}(h:Q)(f:Wz Q->P:=by
 intro zz;refine(Vd (n:=0)).1 ?_;exact zz.o):P:=f ⟨h⟩
def Vr{P Q:Prop}(h:Q)(f:Wz Q->P:=by
 intro zz;refine Kd rfl rfl ?_;intro K hK;go_simp;revert K hK;exact zz.o):P:=f ⟨h⟩
def MU{P:Prop}(h:P:=by
 have HS:=Qc hs;clear hs;go_in;go_wp2;go_ret;exact⟨by simp[HS.out],((Ac.refl _ _).alloc _).alloc _⟩):P:=h
def Sq:∀t u:Aa,∀(S:Qz) (lv lv':Q0) (w:Qm),Ad S w t.l lv->Ad S w u.l lv'->Calls prog 17 #[Qu t.hd lv,Qu u.hd lv'] w fun e w'=>e=.returned (.bool (t.same u))/\Qd w w':=by
 refine Aa.ind fun h l ih=>?_
 rintro⟨g,m⟩ S lv lv' w hl hm;simp only[Aa.Ae,Aa.Ag]at hl hm|-;obtain⟨c7,a,a1,rfl,c3,p⟩:=hl.shape;obtain⟨c6,a2,f,rfl,be,j⟩:=hm.shape;by_cases z:h.kind=g.kind
 ·have k1:((h.kind:Int)==(g.kind:Int))=true:=by simp[z]
  have bb:((h.kind:Int)!=(g.kind:Int))=false:=by unfold bne;rw[k1];rfl
  by_cases x:h.b=g.b
  ·have k2:(h.b==g.b)=true:=by simp[x]
   have b3:(h.b !=g.b)=false:=by unfold bne;rw[k2];rfl
   by_cases e3:h.d.neg=g.d.neg
   ·have k3:(h.d.neg==g.d.neg)=true:=by simp[e3]
    have bc:(h.d.neg !=g.d.neg)=false:=by unfold bne;rw[k3];rfl
    by_cases e4:h.d.digits=g.d.digits
    ·have k4:(h.d.digits.toList==g.d.digits.toList)=true:=Pd e4;have ba:(h.d.digits.toList !=g.d.digits.toList)=false:=by unfold bne;rw[k4];rfl
     by_cases e5:h.d.exp=g.d.exp
     ·have k5:((h.d.exp:Int)==(g.d.exp:Int))=true:=by simp[e5]
      have bf:((h.d.exp:Int)!=(g.d.exp:Int))=false:=by unfold bne;rw[k5];rfl
      by_cases e6:h.u=g.u
      ·have k6:((h.u:Int)==(g.u:Int))=true:=by simp[e6]
       have b7:((h.u:Int)!=(g.u:Int))=false:=by unfold bne;rw[k6];rfl
       by_cases e7:h.w=g.w
       ·have k7:((h.w:Int)==(g.w:Int))=true:=by simp[e7]
        have b8:((h.w:Int)!=(g.w:Int))=false:=by unfold bne;rw[k7];rfl
        by_cases e8:h.s=g.s
        ·have k8:(h.s.toList==g.s.toList)=true:=Pd e8;have b5:(h.s.toList !=g.s.toList)=false:=by unfold bne;rw[k8];rfl
         by_cases e9:l.length=m.length
         ·have k9:((l.length:Int)==(m.length:Int))=true:=by simp[e9]
          have b6:((l.length:Int)!=(m.length:Int))=false:=by unfold bne;rw[k9];rfl
          have hg:=wH h g z x e3 e4 e5 e6 e7 e8;clear z x e3 e4 e5 e6 e7 e8;replace hg:=Qc hg;replace e9:=Qc e9;go_in;go_wp2;have q:((w.alloc (.cells (nR h (.slice a l.length a1)) 27)).alloc (.cells (nR g (.slice a2 m.length f)) 27)).heap[w.heap.size]? =some (.cells (nR h (.slice a l.length a1)) 27 (0,0)):=Qb (Qt w _);have v:((w.alloc (.cells (nR h (.slice a l.length a1)) 27)).alloc (.cells (nR g (.slice a2 m.length f)) 27)).heap[w.heap.size+1]? =some (.cells (nR g (.slice a2 m.length f)) 27 (0,0)):=Ql sM;go_loopw [5] (fun i wr=>∃k:Nat,k<=l.length/\i=i6 (k:Int)/\BU l m=BU (l.drop k) (m.drop k)/\Qd w wr/\wr.heap[w.heap.size]? =some (.cells (nR h (.slice a l.length a1)) 27 (0,0))/\wr.heap[w.heap.size+1]? =some (.cells (nR g (.slice a2 m.length f)) 27 (0,0))) (fun i _=>l.length-(RowKit.intOf i).toNat)
          case atStart=>exact⟨0,Xi _,rfl,rfl,((Ac.refl _ _).alloc _).alloc _,q,v⟩
          case round=>
           clear q v;obtain⟨k,hk,rfl,hs,a4,q,v⟩:=hrel;have x0:=Qi q;have y0:=Qi v;by_cases aa:k<l.length
           ·have a0:k<m.length:=by have:=e9.out;omega
            obtain⟨b1,c0,b4,rfl,c8,b0,ac,bg,a7⟩:=p k aa;obtain⟨b2,c5,bd,rfl,cb,b9,ad,c4,a9⟩:=j k a0;rw[TG l m k aa a0]at hs;have a3:=fun W h1 h2=>ih _ (Zp aa) (m[k]'a0) S b4 bd W h1 h2
            obtain⟨c1,a6⟩:∃c,l[k]=c:=⟨_,rfl⟩;obtain⟨c2,a5⟩:∃c,m[k]=c:=⟨_,rfl⟩;rw[a6]at hs a3 ac a7;rw[a5]at hs a3 ad a9;generalize ah:c1.same c2=r at hs a3;have Hs:=Qc hs;clear hs ah b0 b9 a6 a5 p j ih;obtain⟨a',ca,rfl⟩:=ac.Ab;obtain⟨c9,bh,rfl⟩:=ad.Ab;have ab:=Qy a4 a7;have ae:=Qy a4 a9;have u0:=Rv ab;have v0:=Rv ae;go_wp2_with fail;refine EA ?_;refine gR (n:=0) (And.intro q (And.intro v (And.intro ab ae))) ?_;repeat refine sX ?_
            refine Vr ?_;intro K hK;refine(Qr (a3 _ (ac.same Xd) (ad.same Xd))).mono ?_;rintro e w' ⟨rfl,y⟩;refine hK _ _ ⟨y.s q,y.s v,Qy y ab,Qy y ae⟩ ?_;clear hK K;have ag:=y.s q;have af:=y.s v;clear x0 y0 u0 v0;repeat refine sX ?_
            refine Jc ?_;have a8:Qd w w':=a4.trans (Ac.trans ((Ac.refl _ _).drew) y);cases r with
            |true=>
             go_wp2;go_roundw
             case rel=>exact⟨k+1,oM,by go_num,by simpa using Hs.out,a8,ag,af⟩
             case measure=>simp[RowKit.intOf];omega
            |false=>
             go_wp2;go_ret;exact⟨by simp[Aa.same,Hs.out],a8⟩
           ·obtain rfl:k=l.length:=oM;replace hs:=Qc hs;clear p j ih;go_wp2;go_ret;refine⟨?_,a4⟩
            have:=e9.out;simp[Aa.same,hg.out,hs.out,NZ (show m.length<=l.length by omega),BU]
         ·have hs:(Aa.node h l).same (.node g m)=false:=by simp only[Aa.same,EZ l m e9,Bool.and_false]
          have k9:((l.length:Int)==(m.length:Int))=false:=by simp;omega
          have b6:((l.length:Int)!=(m.length:Int))=true:=by unfold bne;rw[k9];rfl
          clear z x e3 e4 e5 e6 e7 e8 e9 p j ih;exact MU
        ·have hs:(Aa.node h l).same (.node g m)=false:=by simp only[Aa.same,BT,Rg];exact .inl fun e=>e8 (by rw[e])
         have k8:(h.s.toList==g.s.toList)=false:=Pe e8;have b5:(h.s.toList !=g.s.toList)=true:=by unfold bne;rw[k8];rfl
         clear z x e3 e4 e5 e6 e7 e8 p j ih;exact MU
       ·have hs:(Aa.node h l).same (.node g m)=false:=by simp only[Aa.same,BT,Rg];exact .inl fun e=>e7 (by rw[e])
        have k7:((h.w:Int)==(g.w:Int))=false:=by simp[e7]
        have b8:((h.w:Int)!=(g.w:Int))=true:=by unfold bne;rw[k7];rfl
        clear z x e3 e4 e5 e6 e7 p j ih;exact MU
      ·have hs:(Aa.node h l).same (.node g m)=false:=by simp only[Aa.same,BT,Rg];exact .inl fun e=>e6 (by rw[e])
       have k6:((h.u:Int)==(g.u:Int))=false:=by simp;omega
       have b7:((h.u:Int)!=(g.u:Int))=true:=by unfold bne;rw[k6];rfl
       clear z x e3 e4 e5 e6 p j ih;exact MU
     ·have hs:(Aa.node h l).same (.node g m)=false:=by simp only[Aa.same,BT,Rg];exact .inl fun e=>e5 (by rw[e])
      have k5:((h.d.exp:Int)==(g.d.exp:Int))=false:=by simp[e5]
      have bf:((h.d.exp:Int)!=(g.d.exp:Int))=true:=by unfold bne;rw[k5];rfl
      clear z x e3 e4 e5 p j ih;exact MU
    ·have hs:(Aa.node h l).same (.node g m)=false:=by simp only[Aa.same,BT,Rg];exact .inl fun e=>e4 (by rw[e])
     have k4:(h.d.digits.toList==g.d.digits.toList)=false:=Pe e4;have ba:(h.d.digits.toList !=g.d.digits.toList)=true:=by unfold bne;rw[k4];rfl
     clear z x e3 e4 p j ih;exact MU
   ·have hs:(Aa.node h l).same (.node g m)=false:=by simp only[Aa.same,BT,Rg];exact .inl fun e=>e3 (by rw[e])
    have k3:(h.d.neg==g.d.neg)=false:=by simp[e3]
    have bc:(h.d.neg !=g.d.neg)=true:=by unfold bne;rw[k3];rfl
    clear z x e3 p j ih;exact MU
  ·have hs:(Aa.node h l).same (.node g m)=false:=by simp only[Aa.same,BT,Rg];exact .inl fun e=>x (by rw[e])
   have k2:(h.b==g.b)=false:=by simp[x]
   have b3:(h.b !=g.b)=true:=by unfold bne;rw[k2];rfl
   clear z x p j ih;exact MU
 ·have hs:(Aa.node h l).same (.node g m)=false:=by simp only[Aa.same,BT,Rg];exact .inl fun e=>z (by rw[e])
  have k1:((h.kind:Int)==(g.kind:Int))=false:=by simp[z]
  have bb:((h.kind:Int)!=(g.kind:Int))=true:=by unfold bne;rw[k1];rfl
  clear z p j ih;exact MU
end Go.Tm
