/-
  Part 5 of what the claim leans on: contracts of the functions that the law reaches, and plain facts. Conditions: the theorems' own.
-/
import Derived.Deep.Slices
import Derived.Deep.Fields
import Derived.ChangeSame
import Derived.Lib.LaidU8T
import Derived.Lib.LaidTab
import Derived.PinnedBridge
import Derived.LaidSub
import Derived.Stop.LaidErr
import Derived.Carry
import Derived.Handy
import Derived.Laws.MakeOwn
import Derived.Deep.QuietTactic
import Derived.Deep.RegionWith
import Derived.StillTailTactics
import Derived.Lib.AppendIntMem
import Derived.Lib.TrimUEq
import Derived.ScopeJumps
import Derived.Laws.ResultCell
import Derived.Lib.TrailingZeros
import Derived.Sort.Walk0
import Derived.RangeFuncBox
import Derived.MapKept
import Derived.Test.YtkfaoeobfigagaaGreatDoorShYD
import Derived.Test.YtkfaoeobfigagaaGreatDoorRows
set_option linter.all false
set_option maxRecDepth 100000
set_option maxHeartbeats 16000000
namespace Go.Tm
open Go.Proofs Go.RowKit Go.Proofs.Tryz
variable{w w':Qm}{t:Aa}{lv:Q0}{h:Hd}
def L7:=@ByteArray.size_extract
def Hg:=@List.map_append
def YT:=@Nat.add_sub_cancel
def Us:=@Nat.min_eq_left
def J0:=@Nat.lt_irrefl
def Hd.okW(h:Hd):Prop:=
 (-9223372036854775808<=h.kind/\h.kind<=9223372036854775807)/\(-9223372036854775808<=h.d.exp/\h.d.exp<=9223372036854775807)/\(-9223372036854775808<=h.w/\h.w<=9223372036854775807)/\
  h.u<18446744073709551616/\h.d.digits.size<=9223372036854775807/\h.s.size<=9223372036854775807
mutual
def Aa.AS(w:Qm):Aa->Q0->Prop
 | .node h l,lv=>h.okW/\∃a cap,lv=.slice a l.length cap/\l.length<=9223372036854775807/\AE w a 0 l
def AE(w:Qm):Jr->Nat->Qp->Prop
 |_,_,[]=>True
 |a,i,x::l=>(∃b off lv,a=some ⟨b,off,none⟩/\w.rangeAt b (off+i*9) (Qn x.hd lv)/\x.AS w lv)/\AE w a (i+1) l
end
def Lh(h:t.AS w lv):t.hd.okW/\∃a cap,lv=.slice a t.l.length cap/\t.l.length<=9223372036854775807/\AE w a 0 t.l:=by
 cases t with
 |node h l=>rwa [Aa.AS]at h
def ZU{a:Jr}:∀{l:Qp} {i:Nat},AE w a i l->∀k (hk:k<l.length),∃b off lv,a=some ⟨b,off,none⟩/\w.rangeAt b (off+(i+k)*9) (Qn (l[k]).hd lv)/\(l[k]).AS w lv
 |x::l,i,h,0,_=>by rw[AE]at h;exact h.1
 |x::l,i,h,k+1,hk=>by
  rw[AE]at h
  have:=ZU h.2 k (by simpa using hk);rw[show i+1+k=i+(k+1) by omega]at this;exact this
mutual
def Aa.AS.same(hk:Qd w w'):∀{t:Aa} {lv:Q0},t.AS w lv->t.AS w' lv
 | .node h l,lv,hh=>by
  rw[Aa.AS]at hh|-;obtain⟨ho,a,cap,e,h1,h2⟩:=hh;exact⟨ho,a,cap,e,h1,AE.same hk h2⟩
def AE.same(hk:Qd w w'):∀{l:Qp} {a:Jr} {i:Nat},AE w a i l->AE w' a i l
 | [],a,i,h=>by rw[AE];trivial
 |x::l,a,i,h=>by
  rw[AE]at h|-;obtain⟨⟨b,off,lv,e,h1,h2⟩,h3⟩:=h;exact⟨⟨b,off,lv,e,Qy hk h1,h2.same hk⟩,AE.same hk h3⟩
end
def DZ(h:Hd):Hd:={h with s:=h.s.extract 0 (min h.s.size 410),d:={h.d with digits:=h.d.digits.extract 0 (min h.d.digits.size 200)}}
def Aa.cut:Nat->Aa->Aa
 |0,t=>.node (DZ t.hd) []
 |d+1,t=>.node (DZ t.hd) ((t.l.take 40).map (Aa.cut d))
def jI(d:Nat)(t:Aa):(t.cut d).hd=DZ t.hd:=by cases d<;>rfl
def Qdy(d:Nat)(t:Aa):(t.cut d).l.length<=40:=by
 cases d with
 |zero=>simp[Aa.cut]
 |succ d=>simp only[Aa.cut,Aa.Ag,Vq,Ji];omega
def Oe(s:Qo)(k:Nat):(s.extract 0 (min s.size k)).size<=k:=by
 rw[L7];omega
def bE(ho:h.okW):(DZ h).ok:=by
 obtain⟨q,v,j,y,m,z⟩:=ho;refine⟨q,v,j,y,?_,?_⟩
 ·have:=Oe h.d.digits 200;show(h.d.digits.extract 0 (min h.d.digits.size 200)).size<=_;omega
 ·have:=Oe h.s 410;show(h.s.extract 0 (min h.s.size 410)).size<=_;omega
def Vl(d:Nat)(l:Qp)(k:Nat):Qp:=(l.take k).map (Aa.cut (d-1))
def bG(d:Nat)(l:Qp)(k:Nat)(h:k<l.length):Vl d l (k+1)=Vl d l k++[(l[k]).cut (d-1)]:=by
 unfold Vl;rw[List.take_add_one,Km h,Hg];rfl
def Qh4(d:Nat)(t:Aa):(t.cut d).l=if d=0 then[]else Vl d t.l (min t.l.length 40):=by
 cases d with
 |zero=>rfl
 |succ d=>
  simp only[Aa.cut,Aa.Ag,Vl,YT];rw[Qa oM];congr 1;by_cases h:t.l.length<=40
  ·rw[Us h,Vc,Nd h]
  ·rw[Nat.min_eq_right oM]
def yF(d:Nat):Prop:=∀(t:Aa) (lv:Q0) (w:Qm),d<=1000->t.AS w lv->
  Calls prog 31 #[Qu t.hd lv,.int .i64 ((d+1:Nat):Int)] w fun e w'=>∃lv',e=.returned (Qu (DZ t.hd) lv')/\Ad (fun b=>w.heap.size<=b) w' (t.cut d).l lv'/\Qd w w'
def yG{P:Prop}(h:P:=by
 refine Ad.mono (fun b _ (hb:w.heap.size+2<=b)=>(by omega:w.heap.size<=b)) ?_;exact(hrep2.Af hk8 fun b (hb:w.heap.size+2<=b) _ _=>oM).Af hk9 fun b (hb:w.heap.size+2<=b) _ _=>oM):P:=h
def bH(d:Nat)(ih:∀d',d'+1=d->yF d'):yF d:=by
 intro t lv w hd a8;obtain⟨ho,a,n,rfl,b7,hL⟩:=Lh a8;generalize hh:t.hd=h at ho|-;have a6:=fun k hk=>ZU hL k hk
 have ac:=Qh4 d t;generalize hl:t.l=l at b7 a6 ac|-;have e1:min (h.s.size:Int) 410=((min h.s.size 410:Nat):Int):=oM;have e2:min (h.d.digits.size:Int) 200=((min h.d.digits.size 200:Nat):Int):=oM;obtain⟨k1,a1⟩:∃k,min h.s.size 410=k:=⟨_,rfl⟩;obtain⟨k2,z⟩:∃k,min h.d.digits.size 200=k:=⟨_,rfl⟩;have aa:DZ h={h with s:=h.s.extract 0 k1,d:={h.d with digits:=h.d.digits.extract 0 k2}}:=by unfold DZ;rw[a1,z]
 rw[a1]at e1;rw[z]at e2;have b1:k1<=h.s.size:=oM;have b2:k2<=h.d.digits.size:=oM;obtain⟨hs,ce⟩:∃x,h.s.extract 0 k1=x:=⟨_,rfl⟩;obtain⟨hg,be⟩:∃x,h.d.digits.extract 0 k2=x:=⟨_,rfl⟩;rw[ce,be]at aa;have cg:=Qc ac;rw[aa];replace ih:=Qc ih;clear a1 z aa hL a8 hh hl ho ac;go_in;go_wp2;have b6:((w.alloc (.cells #[i6 h.kind,.bool h.b,.bool h.d.neg,.string hg,i6 h.d.exp,.int .u64 h.u,i6 h.w,.string hs,.slice a l.length n] 27)).alloc (.cells zR 27)).heap[w.heap.size]? =some (.cells #[i6 h.kind,.bool h.b,.bool h.d.neg,.string hg,i6 h.d.exp,.int .u64 h.u,i6 h.w,.string hs,.slice a l.length n] 27 (0,0)):=BR;have ag:((w.alloc (.cells #[i6 h.kind,.bool h.b,.bool h.d.neg,.string hg,i6 h.d.exp,.int .u64 h.u,i6 h.w,.string hs,.slice a l.length n] 27)).alloc (.cells zR 27)).heap[w.heap.size+1]? =some (.cells zR 27 (0,0)):=BR;have cc:((w.alloc (.cells #[i6 h.kind,.bool h.b,.bool h.d.neg,.string hg,i6 h.d.exp,.int .u64 h.u,i6 h.w,.string hs,.slice a l.length n] 27)).alloc (.cells zR 27)).heap.size=w.heap.size+2:=sM;have a1:Qd w ((w.alloc (.cells #[i6 h.kind,.bool h.b,.bool h.d.neg,.string hg,i6 h.d.exp,.int .u64 h.u,i6 h.w,.string hs,.slice a l.length n] 27)).alloc (.cells zR 27)):=Xd;generalize((w.alloc (.cells #[i6 h.kind,.bool h.b,.bool h.d.neg,.string hg,i6 h.d.exp,.int .u64 h.u,i6 h.w,.string hs,.slice a l.length n] 27)).alloc (.cells zR 27))=W1 at b6 ag cc a1|-;clear b1 b2 e1 e2;go_loopw [5,6] (fun ov iv wr=>∃k:Nat,k<=l.length/\k<=40/\k<=40*d/\iv=i6 (k:Int)/\Ar (fun x=>w.heap.size+2<=x) wr (w.heap.size+2) ov (Vl d l k)/\Qd w wr/\wr.heap[w.heap.size]? =some (.cells #[i6 h.kind,.bool h.b,.bool h.d.neg,.string hg,i6 h.d.exp,.int .u64 h.u,i6 h.w,.string hs,.slice a l.length n] 27 (0,0))/\wr.heap[w.heap.size+1]? =some (.cells zR 27 (0,0))) (fun _ iv _=>40-(RowKit.intOf iv).toNat)
 case atStart=>exact⟨0,Xi _,oM,Xi _,rfl,Ar.nil _ _ _,a1,b6,ag⟩
 case round=>
  obtain⟨k,d7,d0,ca,rfl,m,a4,hb,hr⟩:=hrel;have n0:=Qi hb;have m0:=Qi hr;have d8:=Jd hb;have d4:=Jd hr;obtain⟨a0,y,rfl⟩:=m.Ab;by_cases cd:k<l.length/\k<40/\0<d
  ·obtain⟨a9,af,ah⟩:=cd;obtain⟨d',rfl⟩:∃d',d=d'+1:=⟨d-1,oM⟩;obtain⟨b',d6,d2,rfl,bb,hW⟩:=a6 k a9;rw[Z3]at bb;obtain⟨ba,a',ch,rfl,_,_⟩:=Lh hW;obtain⟨c0,c1,c2,c3,c4,c5,c6,c7,c8⟩:=Z0 (Qy a4 bb);have r:=fun W bf=>ih.out d' rfl (l[k]) _ W oM (hW.same bf)
   have ab:=bG (d'+1) l k a9;simp only[YT]at ab;have b3:=Qc ab;have cf:DZ (l[k]).hd=DZ (l[k]).hd:=rfl;obtain⟨q,hq⟩:=X0 (DZ (l[k]).hd);have b0:q.ok:=by rw[<-hq];exact bE ba
   have ae:(l[k]).cut d'=.node q ((l[k]).cut d').l:=by rw[<-hq,<-jI d'];exact(Aa.eta _).symm
   rw[hq]at r;generalize b8:((l[k]).cut d').l=cl at r ae;rw[ae]at b3;clear cf hq ae b8 ab;have g1:(1:Int)< (((d'+1)+1:Nat):Int):=by push_cast;omega
   have g2:(((d'+1)+1:Nat):Int)-1=((d'+1:Nat):Int):=by push_cast;omega
   have g3:wrap64 ((d'+1:Nat):Int)=((d'+1:Nat):Int):=F9 _ oM;have d1:=a4.size;have b4:=fun b (hb:wr.heap.size<=b)=>m.lt hb
   have bd:(Vl (d'+1) l k).length<=40:=by unfold Vl;rw[Vq,Ji];omega
   go_wp2_with(first
    | (go_at_call 31;refine(r _ Xd).mono ?_;rintro e w1 ⟨d5,rfl,bc,z⟩;obtain⟨a2,cb,rfl⟩:=bc.Ab)
    | (at_builtin;refine Jn (v:=.slice a0 (Vl (d'+1) l k).length y) (ts:=[.node q cl]) (news:=Qn q (.slice a2 cl.length cb)) rfl _ _ rfl rfl rfl ((m.same z).same ((Ac.refl _ _).alloc _)) rfl ?c2 ?c3 (N6 _ _ _ _) ?c4 ?c5 ?_))
   case c2=>
    refine Y4 ?_;rw[Kc];refine⟨b0,_,rfl,?_⟩;exact(bc.mono (fun b hb h=>(⟨by have h':wr.heap.size<=b:=h;have:=Qg hr;omega,b4 b h⟩:_/\_))).same ((Ac.refl _ _).alloc _)
   case c3=>exact fun j u h=>Jw _ _ _ _ _ h
   case c4=>simp only[Xf,Vp];omega
   case c5=>have:=z.size;have:=Qg hr;simp;omega
   intro v' w2 f hg;have b9:Qd w w2:=Ds ((a4.trans z).alloc _) oM ((m.same z).same ((Ac.refl _ _).alloc _)) hg;have bh:w2.heap[w.heap.size]? =_:=(hg.block _ (by have:=Qg (z.s hb);simp;omega) (fun e=>m.apart (b:=w.heap.size) oM e.symm)).trans (Qb (z.s hb));have b5:w2.heap[w.heap.size+1]? =_:=(hg.block _ (by have:=Qg (z.s hr);simp;omega) (fun e=>m.apart (b:=w.heap.size+1) oM e.symm)).trans (Qb (z.s hr));rw[<-b3.out]at f;obtain⟨a3,c3,rfl⟩:=f.Ab;go_wp2;clear g1 g2 g3;refine⟨?_,by show 40-((k:Int)+1).toNat<40-(k:Int).toNat;omega⟩
   (repeat apply Exists.intro);refine⟨?_,rfl⟩;exact⟨k+1,oM,oM,oM,by go_num,f,b9,bh,b5⟩
  ·have a7:(Aa.cut d t).l=Vl d l k:=by
    rw[cg.out];by_cases h0:d=0
    ·rw[Qe h0];obtain rfl:k=0:=oM;rfl
    ·rw[Qa h0];congr 1;omega
   have a5:=Qc a7;have c9:(Vl d l k).length<=40:=by unfold Vl;rw[Vq,Ji];omega
   have hrep2:=m.rep (fun b hb=>hb) oM;have c:∀(X:Qm) (p:Addr) (v:Q0) (b:Nat),p.block≠b->(X.setCell p v).heap[b]? =X.heap[b]?:=fun X p v b h=>Sg X p v b (fun e=>h e.symm)
   have d9:((d+1:Nat):Int)=(d:Int)+1:=by push_cast;rfl
   clear a7 a6 ca;rcases Ce k l.length with a9|d3
   ·rcases Ce k 40 with af|bg
    ·have ah:d=0:=oM;subst ah;go_wp2;have hX:(wr.setCell (ad w.heap.size 8) (.slice a0 (Vl 0 l k).length y)).heap[w.heap.size+1]? =some (.cells zR 27 (0,0)):=by rw[c _ _ _ _ (by show w.heap.size≠w.heap.size+1;omega)];exact hr
     obtain⟨h9,hk9⟩:=FM hX (i6 h.kind) (.bool h.b) (.bool h.d.neg) (.string hg) (i6 h.d.exp) (.int .u64 h.u) (i6 h.w) (.string hs) (.slice a0 (Vl 0 l k).length y);refine DS rfl rfl h9 rfl ⟨_,rfl,?_,?_⟩
     ·rw[a5.out];have hk8:Ac (fun k _=>k≠w.heap.size) wr (wr.setCell (ad w.heap.size 8) (.slice a0 (Vl 0 l k).length y)):=(Ac.refl _ _).setCell _ fun o _ h _=>h rfl
      exact yG
     ·have hk8:Qd w (wr.setCell (ad w.heap.size 8) (.slice a0 (Vl 0 l k).length y)):=a4.setCell (p:=(ad w.heap.size 8)) _ (fun o _ _ h=>absurd h (J0 _));exact Ho hk8 hk9 fun k o hk=>(Ku hk)
    ·have hk:k=40:=oM;subst hk;go_wp2;have hX:(wr.setCell (ad w.heap.size 8) (.slice a0 (Vl d l 40).length y)).heap[w.heap.size+1]? =some (.cells zR 27 (0,0)):=by rw[c _ _ _ _ (by show w.heap.size≠w.heap.size+1;omega)];exact hr
     obtain⟨h9,hk9⟩:=FM hX (i6 h.kind) (.bool h.b) (.bool h.d.neg) (.string hg) (i6 h.d.exp) (.int .u64 h.u) (i6 h.w) (.string hs) (.slice a0 (Vl d l 40).length y);refine DS rfl rfl h9 rfl ⟨_,rfl,?_,?_⟩
     ·rw[a5.out];have hk8:Ac (fun k _=>k≠w.heap.size) wr (wr.setCell (ad w.heap.size 8) (.slice a0 (Vl d l 40).length y)):=(Ac.refl _ _).setCell _ fun o _ h _=>h rfl
      exact yG
     ·have hk8:Qd w (wr.setCell (ad w.heap.size 8) (.slice a0 (Vl d l 40).length y)):=a4.setCell (p:=(ad w.heap.size 8)) _ (fun o _ _ h=>absurd h (J0 _));exact Ho hk8 hk9 fun k o hk=>(Ku hk)
   ·have hk:k=l.length:=oM;subst hk;go_wp2;have hX:(wr.setCell (ad w.heap.size 8) (.slice a0 (Vl d l l.length).length y)).heap[w.heap.size+1]? =some (.cells zR 27 (0,0)):=by rw[c _ _ _ _ (by show w.heap.size≠w.heap.size+1;omega)];exact hr
    obtain⟨h9,hk9⟩:=FM hX (i6 h.kind) (.bool h.b) (.bool h.d.neg) (.string hg) (i6 h.d.exp) (.int .u64 h.u) (i6 h.w) (.string hs) (.slice a0 (Vl d l l.length).length y);refine DS rfl rfl h9 rfl ⟨_,rfl,?_,?_⟩
    ·rw[a5.out];have hk8:Ac (fun k _=>k≠w.heap.size) wr (wr.setCell (ad w.heap.size 8) (.slice a0 (Vl d l l.length).length y)):=(Ac.refl _ _).setCell _ fun o _ h _=>h rfl
     exact yG
    ·have hk8:Qd w (wr.setCell (ad w.heap.size 8) (.slice a0 (Vl d l l.length).length y)):=a4.setCell (p:=(ad w.heap.size 8)) _ (fun o _ _ h=>absurd h (J0 _));exact Ho hk8 hk9 fun k o hk=>(Ku hk)
def oI:∀d:Nat,yF d
 |0=>bH 0 fun d' h=>absurd h oM
 |d+1=>bH (d+1) fun d' h=>by cases h;exact oI d
end Go.Tm
namespace Go.Tm
open Go.ChangeShapes Go.Deep Go.Proofs Go.RowKit Go.WideShapes Go.Proofs.Tryz
variable{w:Qm}
def Iv:=@List.getElem_cons_zero
def Of:=@List.getElem_map
def E2:=@List.take_zero
def Sy{P:Nat->Aa->Prop}:∀n:Nat,(∀i,i<n->∃t,P i t)->∃l:Qp,l.length=n/\∀i (h:i<l.length),P i l[i]
 |0,_=>⟨[],rfl,fun i h=>absurd h (Nat.not_lt_zero i)⟩
 |n+1,H=>by
  obtain⟨l,hl,h⟩:=Sy n fun i q=>H i oM
  obtain⟨t,v⟩:=H n oM;refine⟨l++[t],by simp[hl],fun i q=>?_⟩;by_cases j:i<l.length
  ·rw[List.getElem_append_left j];exact h i j
  ·obtain rfl:i=n:=by simp at q;omega
   rw[List.getElem_append_right oM];simpa[hl] using v
def bI{a:Jr}:∀(l:Qp) (i:Nat),(∀k (hk:k<l.length),∃b off lv,a=some ⟨b,off,none⟩/\w.rangeAt b (off+(i+k)*9) (Qn (l[k]).hd lv)/\(l[k]).AS w lv)->AE w a i l
 | [],i,_=>by rw[AE];trivial
 |x::l,i,h=>by
  rw[AE];refine⟨(show _ from h 0 (Nat.zero_lt_succ _)),bI l (i+1) fun k hk=>?_⟩
  have:=h (k+1) (by simpa using hk);rw[show i+(k+1)=i+1+k by omega]at this;exact this
def jJ{n:Int}(h:(Lit.int .i64 n).wf=true): -9223372036854775808<=n/\n<=9223372036854775807:=by
 simpa[Lit.wf,IntKind.min,IntKind.max,IntKind.signed,IntKind.bits] using h
def Qgp{n:Int}(h:(Lit.int .u64 n).wf=true):0<=n/\n<18446744073709551616:=by
 have j:0<=n/\n<=18446744073709551615:=by simpa[Lit.wf,IntKind.min,IntKind.max,IntKind.signed,IntKind.bits] using h
 omega
def Iw{H:Type}(B:DataW H->Nat):Prop:=(∀parts,(parts.map B).sum+1<=B (.agg parts))/\∀e s,(e.map B).sum<=B (.slice e s)
def oJ{x:Nat}:∀{xs:Qv},x∈xs->x<=xs.sum
 |y::xs,h=>by
  rw[List.sum_cons];rcases Xg.1 h with rfl|h
  ·omega
  ·have:=oJ h;omega
def Ut{H:Type}{B:DataW H->Nat}:∀(l:Qp) (ds:List (DataW H)),l.length=ds.length->(∀i (h:i<l.length) (h2:i<ds.length),l[i].count<=B ds[i])->Q7 l<=(ds.map B).sum
 | [],ds,_,_=>by rw[Q7];exact Xi _
 |x::l,[],h,_=>by simp at h
 |x::l,d::ds,h,hx=>by
  have h0:=hx 0 sM sM;have v:=Ut l ds (by simpa using h) fun i q j=>hx (i+1) (by simpa using q) (by simpa using j)
  rw[Q7,Zy,List.sum_cons];simp only[Iv]at h0;omega
section
variable{H:Type}{enc:TypeId × Q0->H}{w:Qm}{base:Nat}{spare:Nat->Bool}{held:Bool}
def Cx{α:Type}{xs:List α}{n i:Nat}(h:xs.length=n)(hi:i<n):∃y,xs[i]? =some y:=⟨xs[i]'(oM),Km oM⟩
def Qdz{P:Prop}(h:P:=by
 obtain⟨_,_,hcell⟩:=World.cells?_some h2;have hsp:a.spot=none:=by
  have h0:=hget 0 oM;rw[Km oM]at h0;obtain⟨cs0,h20,h30⟩:=Option.bind_eq_some_iff.1 h0;rw[show prog.cellsOf 27=9 by kernel_rfl]at h20;obtain⟨_,hl0,hc0⟩:=World.cells?_some h20
  have:=hc0 0 dM;rw[Km oM]at this;simpa[Addr.add] using World.cell?_spot this
 obtain⟨b,off,sp⟩:=a;cases hsp;refine⟨t,⟨b,off,lv,rfl,?_,hr⟩,fun B hB y hy=>by rw[Km oM]at hy;cases hy;exact hbk B hB⟩;intro j v hj;have hj9:j<9:=by have:=(DT.1 hj).1;simpa using this
 have h5:=(hcell j hj9).trans hj;have h6:(((ad b off):Addr).add (i*9)).add j=(ad b (off+i*9+j)):=by
  unfold Addr.add;by_cases h7:i*9=0<;>by_cases h8:j=0<;>simp[h7,h8,LM]
 rw[h6]at h5;exact h5):P:=h
def Qd0{P:Prop}(h:P:=by
 rw[Of];exact(hl3 i hi).2 B hB _ (Km (by rw[Vq]at hi2;exact hi2))):P:=h
def YU:∀(fuel:Nat) (cs:Kb) (x:DataW H × List MemPlace),DataW.trod enc prog w base spare held fuel 27 cs=some x->∃(t:Aa) (lv:Q0),cs=Qn t.hd lv/\t.AS w lv/\∀B:DataW H->Nat,Iw B->t.count<=B x.1:=by
 intro fuel;induction fuel using Nat.strongRecOn with
 |_ fuel ih=>
  intro cs x h;obtain⟨xs,n,rfl,hx,v,q,f⟩:=DataW.trod_struct underlying27 h;rw[show prog.cellsOf 27=9 by kernel_rfl]at v;have k1:prog.cellsOf 3=1:=kM;have k2:prog.cellsOf 4=1:=kM;have k3:prog.cellsOf 23=3:=kM;have k4:prog.cellsOf 24=1:=kM;have k5:prog.cellsOf 9=1:=kM;have k6:prog.cellsOf 25=1:=kM;match cs,v with
  | [c0,c1,c2,c3,c4,c5,c6,c7,c8],_=>
   obtain⟨y0,e0⟩:=Cx (i:=0) q dM;obtain⟨y1,e1⟩:=Cx (i:=1) q dM;obtain⟨y2,e2⟩:=Cx (i:=2) q dM;obtain⟨y3,e3⟩:=Cx (i:=3) q dM;obtain⟨y4,e4⟩:=Cx (i:=4) q dM;obtain⟨y5,e5⟩:=Cx (i:=5) q dM;obtain⟨y6,e6⟩:=Cx (i:=6) q dM;have f0:DataW.trod enc prog w base spare held n 3 (([c0,c1,c2,c3,c4,c5,c6,c7,c8].drop 0).take (prog.cellsOf 3))=some y0:=(f 0 _ rfl).trans e0;have f1:DataW.trod enc prog w base spare held n 4 (([c0,c1,c2,c3,c4,c5,c6,c7,c8].drop 1).take (prog.cellsOf 4))=some y1:=(f 1 _ rfl).trans e1;have f2:DataW.trod enc prog w base spare held n 23 (([c0,c1,c2,c3,c4,c5,c6,c7,c8].drop 2).take (prog.cellsOf 23))=some y2:=(f 2 _ rfl).trans e2;have f3:DataW.trod enc prog w base spare held n 24 (([c0,c1,c2,c3,c4,c5,c6,c7,c8].drop 5).take (prog.cellsOf 24))=some y3:=(f 3 _ rfl).trans e3;have f4:DataW.trod enc prog w base spare held n 3 (([c0,c1,c2,c3,c4,c5,c6,c7,c8].drop 6).take (prog.cellsOf 3))=some y4:=(f 4 _ rfl).trans e4;have f5:DataW.trod enc prog w base spare held n 9 (([c0,c1,c2,c3,c4,c5,c6,c7,c8].drop 7).take (prog.cellsOf 9))=some y5:=(f 5 _ rfl).trans e5;have f6:DataW.trod enc prog w base spare held n 25 (([c0,c1,c2,c3,c4,c5,c6,c7,c8].drop 8).take (prog.cellsOf 25))=some y6:=(f 6 _ rfl).trans e6;simp only[k1,k2,k3,k4,k5,k6,FU,Sn,Nc,E2]at f0 f1 f2 f3 f4 f5 f6;obtain⟨v0,q0,_,b0⟩:=DataW.trod_int underlying3 f0;obtain⟨v1,q1,_⟩:=DataW.trod_bool underlying4 f1;obtain⟨v3,q3,_,b3⟩:=DataW.trod_int underlying24 f3;obtain⟨v4,q4,_,b4⟩:=DataW.trod_int underlying3 f4;obtain⟨v5,q5,_,b5⟩:=DataW.trod_string underlying9 f5;simp only[DW,and_true]at q0 q1 q3 q4 q5;obtain⟨ys,m,hm,_,a7,c,hg⟩:=DataW.trod_struct underlying23 f2;obtain⟨z0,d0⟩:=Cx (i:=0) c dM;obtain⟨z1,d1⟩:=Cx (i:=1) c dM;obtain⟨z2,d2⟩:=Cx (i:=2) c dM;have g0:DataW.trod enc prog w base spare held m 4 (([c2,c3,c4].drop 0).take (prog.cellsOf 4))=some z0:=(hg 0 _ rfl).trans d0;have g1:DataW.trod enc prog w base spare held m 9 (([c2,c3,c4].drop 1).take (prog.cellsOf 9))=some z1:=(hg 1 _ rfl).trans d1;have g2:DataW.trod enc prog w base spare held m 3 (([c2,c3,c4].drop 2).take (prog.cellsOf 3))=some z2:=(hg 2 _ rfl).trans d2;simp only[k1,k2,k5,FU,Sn,Nc,E2]at g0 g1 g2;obtain⟨u0,p0,_⟩:=DataW.trod_bool underlying4 g0;obtain⟨u1,p1,_,b6⟩:=DataW.trod_string underlying9 g1;obtain⟨u2,p2,_,b7⟩:=DataW.trod_int underlying3 g2;simp only[DW,and_true]at p0 p1 p2;subst q0 q1 q3 q4 q5 p0 p1 p2;have w0:=jJ b0;have w3:=Qgp b3;have w4:=jJ b4;have w7:=jJ b7;unfold maxLen at b5 b6;obtain⟨U,hU⟩:∃U:Nat,v3=U:=⟨v3.toNat,oM⟩;subst hU;obtain⟨hd,p⟩:∃hd:Hd,hd=⟨v0,v1,⟨u0,u1,u2⟩,U,v4,v5⟩:=⟨_,rfl⟩;have z:hd.okW:=by subst p;exact⟨w0,w7,w4,by show U<18446744073709551616;omega,b6,b5⟩
   rcases DataW.trod_slice underlying25 f6 with⟨hc,_⟩| ⟨a,d,r,j,u,n',a6,hc,a1,hb,hl,a2,a5,hget,_,_⟩
   ·simp only[DW,and_true]at hc;subst hc;refine⟨.node hd [],.slice none 0 0,by subst p;rfl,?_,fun B hB=>?_⟩
    ·rw[Aa.AS];exact⟨z,none,0,rfl,sM,by rw[AE];trivial⟩
    ·have:=hB.1 (xs.map (·.1));rw[Aa.count,Q7,hx];show 1+0<=B (.agg (xs.map (·.1)));omega
   ·simp only[DW,and_true]at hc;subst hc;have a0:∀i,i<d->∃t:Aa,(∃b off lv,(some a:Jr)=some (ad b off)/\w.rangeAt b (off+i*9) (Qn t.hd lv)/\t.AS w lv)/\∀B:DataW H->Nat,Iw B->∀y,j[i]? =some y->t.count<=B y.1:=by
     intro i hi;have h1:=hget i hi;rw[Km oM]at h1;obtain⟨a4,h2,h3⟩:=Option.bind_eq_some_iff.1 h1;rw[show prog.cellsOf 27=9 by kernel_rfl]at h2;obtain⟨t,lv,rfl,hr,hbk⟩:=ih n' oM _ _ h3;exact Qdz
    obtain⟨l,a3,hl3⟩:=Sy (P:=fun i t=>(∃b off lv,(some a:Jr)=some (ad b off)/\w.rangeAt b (off+i*9) (Qn t.hd lv)/\t.AS w lv)/\∀B:DataW H->Nat,Iw B->∀y,j[i]? =some y->t.count<=B y.1) d a0;refine⟨.node hd l,.slice (some a) d r,by subst p;rfl,?_,fun B hB=>?_⟩
    ·rw[Aa.AS];refine⟨z,some a,r,by rw[a3],by unfold maxLen at a2;omega,bI l 0 fun k hk=>?_⟩;rw[Z3];exact(hl3 k hk).1
    ·have h1:=hB.1 (xs.map (·.1));have h2:=hB.2 (j.map (·.1)) (u.map (·.1));have h3:=Ut (B:=B) l (j.map (·.1)) (by rw[Vq];omega) fun i hi hi2=>by
      exact Qd0
     have h4:B (DataW.slice (j.map (·.1)) (u.map (·.1)))∈(xs.map (·.1)).map B:=Xq.2 ⟨y6.1,Xq.2 ⟨y6,Pm e6,rfl⟩,by rw[a1]⟩;have h5:=oJ h4;rw[Aa.count,hx];show 1+Q7 l<=B (.agg (xs.map (·.1)));omega
end
end Go.Tm
namespace Go.Tm
open Go.ChangeShapes Go.Proofs Go.RowKit Go.Shelf Go.Proofs.Tryz
variable{P:Program}{W:Qm}{g n:Nat}
def YV:=@List.mem_append_right
def bJ:=@Lib.laidMet.reads
def u8R:Ren:=⟨fun n=>n,fun|5=>5|119=>315|138=>317|139=>318|n=>n,fun|3=>4|4=>5|n=>n⟩
def Sz{name:String}{k:IntKind}{zs:List Int}{t e:TypeId}
  (hg:P.globalNamed name=some g)(hty:(P.globals[g]?).map (·.type)=some t)(ht:P.underlying t=some (.array n e))(he:P.underlying e=some (.int k))(hce:P.cellsOf e=1)(hct:P.cellsOf t=n)
  (h:Lib.VarReads P W name (Lib.tabData k zs)):Lib.TabIs P W name k zs:=by
 obtain⟨g',t',cs,z,p,y,q,j,hd⟩:=h
 obtain rfl:=Dw (hg.symm.trans y)
 obtain rfl:=Dw (hty.symm.trans q)
 have v:=Lib.cells_of_tab ht he hce hct hd
 unfold Lib.TabIs
 rw[j,<-v]
def Ch{n:String}{text:List UInt8}{ps:List MemPlace}{l:List (String × DataW Unit)}{ti tp te ts:TypeId}{ms:Array (String × TypeId)}{f:Field}
  (h:DataW.LaidVars P W ((n,.iface "*errors.errorString" (.ptr (.agg [.lit (.string text)])))::l) ps)
  (hrows:∀b off,MemPlace.cell b off∈ps->(∃c t,W.heap[b]? =some (.cells c t (0,0)))/\∀u v,W.cell? ⟨b,off,none⟩=some (.iface u v)->Value.okWide P W .any 0 u v)
  (hg:P.globalNamed n=some g)(ht:(P.globals[g]?).map (·.type)=some ti)(hi:P.underlying ti=some (.interface ms))(hrow:∀u,P.typeName? 3 u=some "*errors.errorString" ->u=tp)
  (hp:P.underlying tp=some (.pointer te))(he:P.underlying te=some (.struct #[f]))(hft:f.type=ts)(hfo:f.offset=0)(hs:P.underlying ts=some .string)(hc:P.cellsOf te=1)(hcs:P.cellsOf ts=1):
  ∃(a:Addr) (q:List MemPlace),W.cell? ⟨g,0,none⟩=some (.iface tp (.pointer (some a)))/\W.var? P n=some #[.iface tp (.pointer (some a))]/\a.block<W.heap.size/\(∃c t,W.heap[a.block]? =some (.cells c t (0,0)))/\DataW.LaidVars P W l q/\
   ps=MemPlace.row ⟨g,0,none⟩ 1++MemPlace.row a 1++q:=by
 obtain⟨g0,t0,d,f0,p0,q0,y,k,j,x,hq,e0⟩:=h
 obtain rfl:=Dw (hg.symm.trans y)
 obtain rfl:=Dw (ht.symm.trans k)
 subst e0
 obtain⟨l0⟩:=d
 have r:∀u v,l0=[.iface u v]->Value.okWide P W .any 0 u v:=fun u v e=>by
  subst e;exact(hrows g 0 (by simp[MemPlace.row])).2 u v (by simpa using World.var?_cell y j 0)
 obtain⟨m,s0,rfl,a3,a2,a1,rfl⟩:=errorString_of_trod hi hrow hp he hft hfo hs hc hcs x r
 have z:W.cell? (ad g 0)=some (.iface tp (.pointer (some m))):=by simpa using World.var?_cell y j 0
 have p:=(hrows m.block m.off (by simp[MemPlace.row])).1
 obtain⟨c,t,hb⟩:=p
 exact⟨m,q0,z,j,Qg hb,⟨c,t,hb⟩,hq,rfl⟩
def ZV{a b:Addr}{p q r:List MemPlace}(h:(p++MemPlace.row a 1++(q++MemPlace.row b 1++r)).Nodup):a≠b:=by
 rintro rfl;rw[List.nodup_append]at h;exact h.2.2 (.cell a.block a.off) (by simp[MemPlace.row]) (.cell a.block a.off) (by simp[MemPlace.row]) rfl
def bL: "*" ++ "errors.errorString" = "*errors.errorString" :=by decide
def Li(u:TypeId)(h:prog.typeName? 3 u=some "*errors.errorString"):u=395:=
 typeName_ptr_named (nm:= "errors.errorString") (by rw[bL];kernel_rfl) kM dM u (by rw[bL];exact h)
def YW(hL:laidMet prog YtkfaoeobfigagaaGreatDoor.Rows.embedShellsRow.laid W):∃E,Ah W.heap.size E W:=by
 have z:laidMet prog [("targum/tree.errTree",YtkfaoeobfigagaaGreatDoor.Rows.laid_targum_tree_errTree),("targum/tree.errForm",YtkfaoeobfigagaaGreatDoor.Rows.laid_targum_tree_errForm)] W:=by
  have:=hL.filter fun x=>x.1== "targum/tree.errTree" ||x.1== "targum/tree.errForm"
  exact this
 have h2:laidMet prog [("targum/proj.errKeys",YtkfaoeobfigagaaGreatDoor.Rows.laid_targum_proj_errKeys),("targum/proj.errTree",YtkfaoeobfigagaaGreatDoor.Rows.laid_targum_proj_errTree)] W:=by
  have:=hL.filter fun x=>x.1== "targum/proj.errKeys" ||x.1== "targum/proj.errTree"
  exact this
 have v:laidMet prog [("strconv.ErrRange",YtkfaoeobfigagaaGreatDoor.Rows.laid_strconv_ErrRange),("strconv.ErrSyntax",YtkfaoeobfigagaaGreatDoor.Rows.laid_strconv_ErrSyntax)] W:=by
  have:=hL.filter fun x=>x.1== "strconv.ErrRange" ||x.1== "strconv.ErrSyntax"
  exact this
 obtain⟨p1,q1,n1,r1⟩:=z;obtain⟨p2,q2,n2,r2⟩:=h2;obtain⟨p3,q3,n3,r3⟩:=v;obtain⟨aT,s1,cT,_,bT,oT,l1,e1⟩:=Ch (g:=1) q1 r1 kM kM underlying66 Li underlying395 underlying397 rfl rfl underlying9 kM kM;obtain⟨aF,s2,cF,_,bF,oF,_,e2⟩:=Ch (g:=2) l1 (fun b q y=>r1 b q (by rw[e1];exact YV _ y)) kM kM underlying66 Li underlying395 underlying397 rfl rfl underlying9 kM kM;obtain⟨aK,s3,cK,_,bK,oK,l3,e3⟩:=Ch (g:=3) q2 r2 kM kM underlying66 Li underlying395 underlying397 rfl rfl underlying9 kM kM;obtain⟨aP,s4,cP,_,bP,oP,_,e4⟩:=Ch (g:=0) l3 (fun b q y=>r2 b q (by rw[e3];exact YV _ y)) kM kM underlying66 Li underlying395 underlying397 rfl rfl underlying9 kM kM;obtain⟨aR,s5,_,vR,bR,oR,l5,e5⟩:=Ch (g:=10) q3 r3 kM kM underlying66 Li underlying395 underlying397 rfl rfl underlying9 kM kM;obtain⟨aS,s6,_,vS,bS,oS,_,e6⟩:=Ch (g:=9) l5 (fun b q y=>r3 b q (by rw[e5];exact YV _ y)) kM kM underlying66 Li underlying395 underlying397 rfl rfl underlying9 kM kM;rw[e1,e2]at n1;rw[e3,e4]at n2;have u:Lib.VarReads prog W "math/bits.deBruijn32tab" YtkfaoeobfigagaaGreatDoor.Rows.laid_math_bits_deBruijn32tab:=bJ hL (by unfold YtkfaoeobfigagaaGreatDoor.Rows.embedShellsRow;simp);have f:Lib.VarReads prog W "math/bits.deBruijn64tab" (Lib.tabData .u8 (Lib.deBruijn64tab.map fun n:Nat=>(n:Int))):=bJ hL (by unfold YtkfaoeobfigagaaGreatDoor.Rows.embedShellsRow;simp;rfl);have m:Lib.VarReads prog W "internal/strconv.uint64pow10" (Lib.tabData .u64 Lib.pow10Tab):=bJ hL (by unfold YtkfaoeobfigagaaGreatDoor.Rows.embedShellsRow;simp;rfl);have k:Lib.VarReads prog W "unicode/utf8.acceptRanges" Lib.acceptData:=bJ hL (by unfold YtkfaoeobfigagaaGreatDoor.Rows.embedShellsRow;simp;rfl);have c:Lib.VarReads prog W "unicode/utf8.first" Lib.firstData:=bJ hL (by unfold YtkfaoeobfigagaaGreatDoor.Rows.embedShellsRow;rw[<-Pinned.utf8First_eq];simp[YtkfaoeobfigagaaGreatDoor.Rows.laid_unicode_utf8_first]);have hz:12<=W.heap.size:=by
  obtain⟨g,t,cs,a1,p,z,h2,v,h4⟩:=u;obtain rfl:g=11:=Dw (z.symm.trans kM);unfold World.var? at v;rw[z]at v;simp only[Option.bind_some]at v;cases ho:W.heap[11]? with
  |none=>rw[ho]at v;cases v
  |some o=>have:=Qg ho;omega
 have r:=Sz (g:=6) (e:=5) kM kM underlying208 underlying5 kM kM f;have d:=Sz (g:=7) (e:=24) kM kM underlying356 underlying24 kM kM m;have a0:=utf8Tabs_of_readsT (ρ:=u8R) ⟨underlying5,underlying315,underlying317,underlying318⟩ ⟨kM,kM,kM,kM,kM,kM,kM⟩ c k;refine⟨⟨.iface G6 (.pointer (some aR)),aT,aF,aK,aP⟩,hz,a0,d,?_,⟨_,_,vR⟩,⟨_,_,vS⟩,cT,cF,cK,cP,?_,ZV n1,ZV n2⟩
 ·intro j hj;rw[World.var?_cell kM r j];simp[hj]
 ·rintro a (rfl|rfl|rfl|rfl)
  ·exact⟨bT,oT⟩
  ·exact⟨bF,oF⟩
  ·exact⟨bK,oK⟩
  ·exact⟨bP,oP⟩
end Go.Tm
namespace Go.Tm
open Go.ChangeShapes Go.Proofs Go.RowKit Go.WideShapes Go.Proofs.Tryz
variable{W W':Qm}
def Zo:=@of_decide_eq_true
def bM(h:Qd W W'):Below W.heap.size W W':=
 ⟨h.os,h.tape,h.output,h.size,fun k j=>by
  have:=h.same k W.heap[k] (OX j) trivial;rw[this,OX j]⟩
def Qd1:laidOutB prog=true:=by kernel_rfl
def XB:prog.readableRec 27=true:=by kernel_rfl
def jK:27<prog.types.size:=Zo kM
section
variable{H:Type}{enc:TypeId × Q0->H}{base:Nat}{spare:Nat->Bool}{held:Bool}
def jL{W W':Qm}{v:Q0}{d:DataW H}{p:List MemPlace}(h:DataW.Trod enc prog W 0 (fun _=>true) true 27 v d p)(hk:Qd W W')(hlt:∀x∈p,x.block<W.heap.size){sp:Nat->Bool}(hsp:∀x∈p,sp x.block=true):
  DataW.Trod enc prog W' 0 sp true 27 v d p:=
 WideElems.Trod_stays Qd1 XB jK h (fun x hx=>(bM hk).same (hlt x hx)) hsp
end
end Go.Tm
namespace Go.Tm
open Go.Proofs Go.RowKit Go.Proofs.Tryz
variable{W w w1:Qm}{B N b i k:Nat}{a0 a1 a2 a3 a4 a5 a6 a7 a8 v:Q0}{E:Am}{xs:Kb}
def Ea:=@Lib.add_plain
def bN:=@List.eq_of_mem_replicate
def BW:=@IntKind.wrap_i64
def YX:=@Nat.lt_succ_self
def rU(h:Hd)(a:Jr)(n cap:Nat)(p:Q0)(w:Qm):
  Calls prog 151 #[p,Qu h (.slice a n cap)] w fun x w'=>x=.returned (Qu h (.slice a n cap))/\Qd w w':=by
 go_in
 go_wp2
 refine Xs (Dv rfl _ _ (w.heap.size+1) 27 (nR h (.slice a n cap)) (0,0) _ rfl (Ql sM) underlying27 rfl kM) rfl ⟨rfl,((Ac.refl _ _).alloc _).alloc _⟩
def Yw{t:TypeId}{f:Nat × Nat}(hb:w.heap[b]? =some (.cells #[a0,a1,a2,a3,a4,a5,a6,a7,a8] t f))(h:Hd)(s:Q0):type_of% (FM hb (.int .i64 h.kind) (.bool h.b) (.bool h.d.neg) (.string h.d.digits) (.int .i64 h.d.exp) (.int .u64 h.u) (.int .i64 h.w) (.string h.s) s):=FM hb _ _ _ _ _ _ _ _ s
def FN{t:TypeId}{f:Nat × Nat}(hb:w.heap[b]? =some (.cells #[a0,a1,a2,a3,a4,a5,a6,a7,a8] t f))(k u l:Int)(s:Q0):type_of% (FM hb (.int .i64 k) (.bool false) (.bool false) (.string ⟨#[]⟩) (.int .i64 0) (.int .u64 u) (.int .i64 l) (.string ⟨#[]⟩) s):=FM hb _ _ _ _ _ _ _ _ s
def Qfo{P:Prop}(h:P:=by
 exact⟨hk9.os.trans hk2.os,hk9.tape.trans hk2.tape,hk9.output.trans hk2.output,Qj hk2.size hk9.size,fun k o hk hne=>hk9.same k o (hk2.same k o hk hne) (Ku hk)⟩):P:=h
def oN{P:Prop}(h:P:=by
 obtain⟨h9,hk9⟩:=Yw hr2 (Xy t) jH;refine DS rfl rfl h9 rfl ⟨rfl,?_,?_⟩
 ·exact hk9.same _ _ hb2 oM
 ·exact Qfo):P:=h
def yH(st b:Nat)(h:Hd)(a:Jr)(n cap:Nat)(w:Qm)(hG:Ah N E w)(hst:st<=2)(hs:h.s.size<=1073741824)(hb:w.heap[b]? =some (.cells #[Dd E st] 68 (0,0))):
  Calls prog 152 #[.pointer (some ⟨b,0,none⟩),Qu h (.slice a n cap)] w fun x w'=>
   x=.returned (Qu (Xy (Xh (He (Qf h.s)).1)) jH)/\w'.heap[b]? =some (.cells #[Dd E (if h.s.size<=400 then st else max st 1)] 68 (0,0))/\Ac (fun k _=>k≠b) w w':=by
 have c:=Qg hb
 obtain⟨t,z⟩:=X0 (Xh (He (Qf h.s)).1)
 obtain⟨q,u⟩:=X0 (Dd E (if h.s.size<=400 then st else max st 1))
 have v:=fun(W:Qm) (hW:Ah N E W) (hB:W.heap[b]? =some (.cells #[Dd E st] 68 (0,0)))=>ZT st b h.s W hW hst hs hB
 rw[u]at v|-
 rw[z]at v|-
 clear u z
 go_in
 go_wp2_with(go_at_call 236;refine(v _ (hG.same Xd) (Qb (Qb hb))).mono ?_;rintro x m ⟨rfl,hb2,y⟩;have hr2:=y.same (w.heap.size+1) _ (Ql sM) oM;have f:=Qi hr2;have d:∀j,m.frozen? (ad (w.heap.size+1) j)=false:=Je hr2)
 have hk2:Ac (fun k _=>k≠b) w m:=Ac.trans (((Ac.refl _ _).alloc _).alloc _) y
 exact oN
def S1(a:Jr)(n cap:Nat)(w:Qm):Calls prog 167 #[.slice a n cap] w fun e w'=>e=.returned (.func (.func 247) #[] #[.pointer (some ⟨w.heap.size,0,none⟩)])/\w'=w.alloc (.cells #[.slice a n cap] 25):=by
 go_in;exact Nv
def Uu{P Q:Prop}(h:Q)(f:Wz Q->P:=by
 intro zz;refine Ik 3 ?_;rw[Yg];exact zz.o):P:=f ⟨h⟩
def jM(x y:Qo)(g c:Nat)(w:Qm)(h0:w.cell? ⟨g,0,none⟩=some (.string x))(h1:w.cell? ⟨g,1,none⟩=some (.string y))(hx:x.size<=1000000000)(hy:y.size<=1000000000):
  Calls prog 237 #[.slice (some ⟨g,0,none⟩) 2 c] w fun e w'=>e=.returned (.string (x++y))/\w'=w:=by
 have j:(⟨#[]⟩:Qo)++x=x:=by apply E6;simp
 go_in
 go_wp2
 refine Uu ?_
 go_wp2
 rw[Yg]
 go_wp2
 rw[Yg]
 exact Nv
def De(h:Hd):Qo:=⟨#[UInt8.ofNat h.u]⟩++h.s
def yI(W:Qm)(g:Nat)(u:Nat)(f:Nat × Nat)(hu:u<18446744073709551616)(hg:W.heap[g]? =some (.cells #[.int .u8 ((u:Int) % 256)] 5 f)):
  (convert 116 9 (.slice (some ⟨g,0,none⟩) 1 1)).run prog W=.ok (.string ⟨#[UInt8.ofNat u]⟩) W:=by
 have h:=T8 (P:=prog) W 116 9 5 (ad g 0) 1 [UInt8.ofNat u] underlying116 underlying5 underlying9 (fun j q=>by
  have:j=0:=by simpa using q
  subst this;rw[Ea];unfold World.cell?;rw[hg];simp)
 exact h
def yJ(st b:Nat)(h:Hd)(a:Jr)(n cap:Nat)(w:Qm)(hG:Ah N E w)(hst:st<=2)(hs:h.s.size<=1000000000)(hu:h.u<18446744073709551616)(hb:w.heap[b]? =some (.cells #[Dd E st] 68 (0,0))):
  Calls prog 153 #[.pointer (some ⟨b,0,none⟩),Qu h (.slice a n cap)] w fun x w'=>
   x=.returned (Qu (Xy (Xh (He (Qf (De h))).1)) jH)/\w'.heap[b]? =some (.cells #[Dd E (if(De h).size<=400 then st else max st 1)] 68 (0,0))/\Ac (fun k _=>k≠b) w w':=by
 have a0:=Qg hb
 obtain⟨f,y⟩:=X0 (De h)
 have p:f.size<=1073741824:=by
  rw[<-y];unfold De;rw[Nw];show 1+h.s.size<=_;omega
 have v:(⟨#[UInt8.ofNat h.u]⟩:Qo)++h.s=f:=y
 rw[y]
 obtain⟨t,ht⟩:=X0 (Xh (He (Qf f)).1)
 obtain⟨q,r⟩:=X0 (Dd E (if f.size<=400 then st else max st 1))
 have z:=fun(W:Qm) (hW:Ah N E W) (hB:W.heap[b]? =some (.cells #[Dd E st] 68 (0,0)))=>ZT st b f W hW hst p hB
 rw[r]at z|-
 rw[ht]at z|-
 have d:=fun(g c:Nat) (W:Qm) (c0:W.cell? (ad g 0)=some (.string ⟨#[UInt8.ofNat h.u]⟩)) (c1:W.cell? (ad g 1)=some (.string h.s))=>jM ⟨#[UInt8.ofNat h.u]⟩ h.s g c W c0 c1 (by show 1<=_;omega) hs
 rw[v]at d
 clear r ht y v p
 have a2:=yI (((w.alloc (.cells (nR h (.slice a n cap)) 27)).alloc (.cells zR 27)).alloc (.cells #[.int .u8 ((h.u:Int) % 256)] 5)) (w.heap.size+1+1) h.u (0,0) hu (Ql sM)
 go_in
 go_wp2_with(first
  | (go_at_call 237;refine(d _ 2 _ (Ys BR).1 (Ys BR).2).mono ?_;rintro x w1 ⟨rfl,h9⟩;replace h9:=h9.symm;subst h9)
  | (go_at_call 236;refine(z _ (hG.same Xd) (Qb (Qb (Qb (Qb hb))))).mono ?_;rintro x w2 ⟨rfl,hb2,m⟩;have hr2:=m.same (w.heap.size+1) _ (Qb (Qb (Ql sM))) oM;obtain⟨c0,c1,c2,c3,c4,c5,c6,c7,c8⟩:=Qi hr2;have a1:∀j,w2.frozen? (ad (w.heap.size+1) j)=false:=Je hr2))
 have hk2:Ac (fun k _=>k≠b) w w2:=Ac.trans (by repeat(first|exact Ac.refl _ _|refine Ac.alloc ?_ _)) m
 exact oN
def L8(ai:Nat):∀(bs:Qv) (p c:Nat) (out:Qv),(Ga ai bs p c out).length=out.length
 | [],p,c,out=>by simp[Ga]
 |b::r,p,c,out=>by rw[Ga,L8];simp
def Uv{out:Qv}{p v:Nat}(h:∀x∈out,x<LB)(hv:v<LB):∀x∈out.set p v,x<LB:=by
 intro x hx;rcases List.mem_or_eq_of_mem_set hx with j|j
 ·exact h x j
 ·rw[j];exact hv
def Fl{l:Qv}(h:∀x∈l,x<LB)(i:Nat):Zi l i<LB:=by
 rcases Ce i l.length with j|j
 ·exact h _ (MQ j)
 ·rw[Ma j];decide
def yK{o a b c:Nat}(ho:o<LB)(ha:a<LB)(hb:b<LB)(hc:c<LB):o+a*b+c<1000000000000000000/\a*b<=999999998000000001:=by
 have h:a*b<=999999999*999999999:=LR (by have:LB=1000000000:=rfl;omega) (by have:LB=1000000000:=rfl;omega);have:LB=1000000000:=rfl;omega
def Iy{l:Qv}(h:k<l.length):l.drop k=Zi l k::l.drop (k+1):=by
 rw[Dq h];simp[Zi,K9,Km h]
def YY(out:Qv)(p v:Nat):(out.map uV).toArray.setIfInBounds p (uV v)=((out.set p v).map uV).toArray:=by
 simp[List.map_set]
def Og{out:Qv}{t:TypeId}{f:Nat × Nat}(h:w.heap[b]? =some (.cells (out.map uV).toArray t f))(hi:i<out.length):w.cell? ⟨b,i,none⟩=some (uV (Zi out i)):=by
 unfold World.cell?;rw[h];show(out.map uV).toArray[i]? =_;rw[MJ,CV,Km hi];exact iF
def rV(n:Nat):madeCells #[Value.int .u32 0] n=((List.replicate n 0).map uV).toArray:=by
 unfold madeCells;apply Array.ext
 ·simp
 ·intro i j q;simp[Nat.mod_one]
def Mh(w:Qm)(n:Nat)(hn:n<=1000000):(Instr.makeSlice 288 (.int .i64 (n:Int)) (.int .i64 (n:Int))).run prog w=.ok (.slice (some ⟨w.heap.size,0,none⟩) n n) (w.alloc (.cells ((List.replicate n 0).map uV).toArray 236)):=by
 obtain⟨z,q,v,y,j⟩:=Gk E9
 have:=run_make (P:=prog) w 288 236 z _ underlying288 q v .i64 .i64 (n:Int) (n:Int) oM (Int.le_refl _) (by rw[j];omega) oM;rw[this];simp only[Ig,y,Nat.mul_one];rw[<-rV];rfl
def Tv(x y:Qv)(v u:Q0)(w:Qm)(hx:Ao w v x)(hy:Ao w u y)(hlen:x.length+y.length<=1000000):
  Calls prog 318 #[v,u] w fun e w'=>(∃v',e=.returned v'/\Ao w' v' (EX x y))/\Qd w w':=by
 obtain⟨xa,xc,rfl⟩:=hx.Ab
 obtain⟨ya,yc,rfl⟩:=hy.Ab
 obtain⟨n,hn⟩:=X0 (x.length+y.length)
 have c4:∀w:Qm,(Instr.makeSlice 288 (i6 ((x.length:Int)+(y.length:Int))) (i6 ((x.length:Int)+(y.length:Int)))).run prog w=.ok (.slice (some (ad w.heap.size 0)) n n) (w.alloc (.cells ((List.replicate n 0).map uV).toArray 236)):=fun w=>by
  have h:=Mh w n oM;rwa [show((n:Nat):Int)=(x.length:Int)+(y.length:Int) by omega]at h
 have c8:=hx.2.1
 have c6:=hy.2.1
 go_in
 go_wp2
 go_loopw [18] (fun iv wr=>∃(i:Nat) (out:Qv),iv=i6 i/\i<=x.length/\H6 y x 0 (List.replicate n 0)=H6 y (x.drop i) i out/\out.length=n/\(∀z∈out,z<LB)/\wr.heap[w.heap.size]? =some (.cells (out.map uV).toArray 236 (0,0))/\Qd w wr) (fun iv _=>x.length-(RowKit.intOf iv).toNat)
 case atStart=>
  refine⟨0,List.replicate n 0,rfl,Xi _,rfl,sM,fun z hz=>by rw[bN hz];decide,?_,(Ac.refl _ _).alloc _⟩;rw[Qt];simp
 case round=>
  obtain⟨i,out,rfl,hi,hs,ag,a6,a7,b3⟩:=hrel;by_cases ba:i<x.length
  ·rw[Iy ba,H6]at hs;replace hs:=Qc hs;have b8:=hx.lt i;generalize a9:Zi x i=ai at hs b8;go_wp2;go_loopw [23,7] (fun kv cv a5=>∃(k c:Nat) (o2:Qv),kv=i6 k/\cv=.int .u64 c/\k<=y.length/\c<LB/\Ga ai y i 0 out=Ga ai (y.drop k) (i+k) c o2/\o2.length=n/\(∀z∈o2,z<LB)/\a5.heap[w.heap.size]? =some (.cells (o2.map uV).toArray 236 (0,0))/\Qd w a5) (fun kv _ _=>y.length-(RowKit.intOf kv).toNat)
   case atStart=>exact⟨0,0,out,rfl,rfl,Xi _,dM,rfl,ag,a6,a7,b3⟩
   case round=>
    obtain⟨k,c,o2,rfl,rfl,hk,hc,a2,a8,d,j,f⟩:=hrel;by_cases b7:k<y.length
    ·have ab:=Og j (i:=i+k) oM;have ah:=hx.same f;have b5:=hy.same f;have af:Zi y k<1000000000:=hy.lt k;have bb:i<=1000000000:=oM;have bf:k<=1000000000:=oM;have L1:∀m,Calls prog 277 #[.slice xa x.length xc,i6 (i:Int)] (wr.drewN m) fun e w'=>e=.returned (.int .u64 ai)/\w'=wr.drewN m:=fun m=>by
      have h:=Ih x _ i (wr.drewN m) (ah.same ((Ac.refl _ _).drewN m)) bb;rwa [a9]at h
     obtain⟨bk,t⟩:=X0 (Zi y k);have L2:∀m,Calls prog 277 #[.slice ya y.length yc,i6 (k:Int)] (wr.drewN m) fun e w'=>e=.returned (.int .u64 bk)/\w'=wr.drewN m:=fun m=>by
      have h:=Ih y _ k (wr.drewN m) (b5.same ((Ac.refl _ _).drewN m)) bf;rwa [t]at h
     obtain⟨p,hp⟩:=X0 (i+k);have c1:(p:Int)< (n:Int):=oM;have c9:IntKind.i64.wrap (p:Int)=(p:Int):=by rw[BW];omega
     have bg:p<=1000000:=oM;have bd:(i:Int)+(k:Int)=(p:Int):=oM;rw[hp]at ab;have c7:=Qc a9;have c3:=Qc t;rw[t]at af;obtain⟨op,a0⟩:=X0 (Zi o2 p);have b0:op<1000000000:=by rw[<-a0];exact Fl d _
     have ca:=Qc a0;rw[a0]at ab;have bc:=yK b0 b8 af hc;obtain⟨ae,b6⟩:=bc;generalize aa:ai*bk=pp at ae b6;have c2:(ai:Int)*(bk:Int)=(pp:Int):=by rw[<-aa];push_cast;rfl
     obtain⟨s1,bh⟩:=X0 (op+pp);obtain⟨s2,b2⟩:=X0 (s1+c);have e1:(op:Int)+(pp:Int)=(s1:Int):=oM;have e2:(s1:Int)+(c:Int)=(s2:Int):=oM;have w1:IntKind.u64.wrap (pp:Int)=(pp:Int):=X7 oM oM;have w2:IntKind.u64.wrap (s1:Int)=(s1:Int):=X7 oM oM;have w3:IntKind.u64.wrap (s2:Int)=(s2:Int):=X7 oM oM;have w4:IntKind.u64.wrap (op:Int)=(op:Int):=X7 oM oM;obtain⟨r1,a3⟩:∃r,s2 % LB=r:=⟨_,rfl⟩;obtain⟨q1,a4⟩:∃q,s2/LB=q:=⟨_,rfl⟩;have w5:IntKind.u32.wrap ((s2:Int) % 1000000000)=(r1:Int):=by rw[BC oM oM,<-a3];show _=((s2 % 1000000000:Nat):Int);omega
     have w6:(s2:Int)/1000000000=(q1:Int):=by rw[<-a4];show _=((s2/1000000000:Nat):Int);omega
     have b1:r1<LB:=by rw[<-a3];exact Hj _ dM
     have b4:q1<LB:=by rw[<-a4];exact Uk (show _<1000000000*1000000000 by omega)
     have b:Ga ai y i 0 out=Ga ai (y.drop (k+1)) (i+(k+1)) q1 (o2.set p r1):=by
      rw[a2,Iy b7,Ga,t,hp,a0,aa,bh,b2,a4,a3,<-LM,hp]
     replace b:=Qc b;clear a3 a4 a2;have c0:=Jd j;clear t a0 a9 aa;go_wp2;go_quiet (first
      | (go_at_call_of 277 (Value.slice xa x.length xc);exact FB (L1 _))
      | (go_at_call_of 277 (Value.slice ya y.length yc);exact FB (L2 _)))
     go_wp2;go_roundw
     case rel=>
      refine⟨k+1,q1,o2.set p r1,by go_num,rfl,oM,b4,b.out,by simp[a8],Uv d b1,?_,?_⟩
      ·have:=Qk (w:=wr.drewN nq) j p (uV r1);rw[YY]at this;exact this
      ·refine(f.drewN nq).setCell _ ?_;intro o _ _ h;exact absurd h (J0 _)
     case measure=>simp[RowKit.intOf];omega
    ·obtain rfl:k=y.length:=oM;rw[FR,Ga]at a2;have ac:=Qc a2;obtain⟨p,hp⟩:=X0 (i+y.length);have c1:(p:Int)< (n:Int):=oM;have bg:p<=1000000:=oM;have bd:(i:Int)+(y.length:Int)=(p:Int):=oM;have ab:=Og j (i:=p) oM;have c5:c<1000000000:=hc;have be:c % 4294967296=c:=Ye oM;rw[hp,be]at ac;have w5:IntKind.u32.wrap (c:Int)=(c:Int):=BC oM oM;have c0:=Jd j;clear a2;go_wp2;go_roundw
     case rel=>
      refine⟨i+1,o2.set p c,by go_num,oM,by rw[hs.out,ac.out],by simp[a8],Uv d hc,?_,?_⟩
      ·have:=Qk j p (uV c);rw[YY]at this;exact this
      ·refine f.setCell _ ?_;intro o _ _ h;exact absurd h (J0 _)
     case measure=>simp[RowKit.intOf];omega
  ·obtain rfl:i=x.length:=oM;rw[FR,H6]at hs;have hL:=Ao.Be a7 oM a6 (cap:=n) oM;rw[ag]at hL;have a1:EX x y=Jf out:=by unfold EX;rw[hn,hs]
   replace a1:=Qc a1;clear hs;go_wp2_with(go_at_call 334;refine(TZ out _ _ hL).mono ?_;rintro e w' ⟨⟨v',rfl,b9⟩,rfl⟩;obtain⟨va,vc,rfl⟩:=b9.Ab);go_ret;exact⟨⟨_,rfl,by rw[a1.out];exact b9⟩,b3⟩
def Uw(a b:Qv)(ha:∀x∈a,x<LB)(hb:∀x∈b,x<LB):∀(k i c:Nat),c<18446744073709551616->∀x∈Rk a b k i c,x<LB
 |0,i,c,hc=>Pj c hc
 |k+1,i,c,hc=>by
  rw[Rk];have h1:=Fl ha i;have j:=Fl hb i;have e:LB=1000000000:=rfl;intro x hx;rcases Xg.1 hx with rfl|hx
  ·exact Hj _ dM
  ·refine Uw a b ha hb k (i+1) _ ?_ x hx;have:(c+(Zi a i+Zi b i))/LB<=(c+(Zi a i+Zi b i))/2:=Nat.div_le_div_left dM dM;omega
def S2(a b:Qv):∀(k i c:Nat),(Rk a b k i c).length<=k+3
 |0,i,c=>by rw[Rk];have:=Fe c;omega
 |k+1,i,c=>by rw[Rk];have:=S2 a b k (i+1) ((c+(Zi a i+Zi b i))/LB);simp;omega
def YZ(a b:Qv)(m i c:Nat)(ha:a.length<=m)(hb:b.length<=m)(hc:c<=1)(h:i<m∨0<c):
  Rk a b (m-i) i c=(c+(Zi a i+Zi b i)) % LB::Rk a b (m-(i+1)) (i+1) ((c+(Zi a i+Zi b i))/LB):=by
 by_cases q:i<m
 ·rw[show m-i=(m-(i+1))+1 by omega,Rk]
 ·have j:0<c:=oM;rw[show m-i=0 by omega,show m-(i+1)=0 by omega,Rk,Rk,Ma oM,Ma oM];simp only[Yf];exact So j oM
def jN{t:TypeId}(h:w.ownsRow B t 1 v k xs)(hb:b<B):v.ownBlock≠some b:=by
 rcases h.2 with⟨rfl,_⟩| ⟨g,q,j,rfl,y,_⟩
 ·simp[Value.ownBlock]
 ·simp[Value.ownBlock];omega
def jO{o:Obj}(hg:W.grownBy w1 v.ownBlock)(hb:W.heap[b]? =some o)(hne:v.ownBlock≠some b):w1.heap[b]? =some o:=
 (hg.block b (Qg hb) (fun e=>hne e.symm)).trans hb
def bO{t:TypeId}(hs:Qd w W)(hB:w.heap.size<=B)(hrow:W.ownsRow B t 1 v k xs)(hg:W.grownBy w1 v.ownBlock):Qd w w1:=
 hs.grown hg fun r q o' _ _ j=>jN hrow (Cf j hB) q
def Ux(x y:Qv)(v u:Q0)(w:Qm)(hx:Ao w v x)(hy:Ao w u y)(hlen:x.length+y.length<=100000):
  Calls prog 342 #[v,u] w fun e w'=>(∃v',e=.returned v'/\Ao w' v' (NK x y))/\Qd w w':=by
 obtain⟨i0,b4,b7,b8,b3⟩:=Gk E9
 obtain⟨xa,xc,rfl⟩:=hx.Ab
 obtain⟨ya,yc,rfl⟩:=hy.Ab
 obtain⟨m,hm⟩:=X0 (max x.length y.length)
 have bf:x.length<=m:=oM
 have b5:y.length<=m:=oM
 have a7:=Uw x y hx.2.1 hy.2.1 m 0 0 oM
 have ba:=S2 x y m 0 0
 have c1:(if(y.length:Int)<=(x.length:Int)then(x.length:Int)else(y.length:Int))=(m:Int):=by split<;>omega
 obtain⟨t,ht⟩:=X0 (NK x y)
 have ah:Rk x y m 0 0=t:=by rw[<-ht];unfold NK;rw[hm]
 rw[ah]at a7 ba
 rw[ht]
 go_in
 go_wp2
 go_loopw [5] (fun v wr=>∃(i c:Nat) (l:Qv),l.length=i/\c<=1/\(c=0∨i<=m)/\t=l++Rk x y (m-i) i c/\wr.ownsRow (w.heap.size+1) 236 1 v l.length (l.map uV)/\wr.heap[w.heap.size]? =some (.cells #[.int .u64 c,i6 i] 381 (0,0))/\Qd w wr) (fun v wr=>match wr.heap[w.heap.size]? with|some (.cells #[.int _ c,.int _ i] _ _)=>(2*(m-i)+c).toNat|_=>0)
 case atStart=>exact⟨0,0,[],rfl,oM,.inl rfl,by simpa using ah.symm,Yz _ _ _ _,Qt w _,(Ac.refl _ _).alloc _⟩
 case round=>
  obtain⟨i,c,l,a0,hc,c4,hs,b,k,a3⟩:=hrel;rw[a0]at b;have aa:=Qc a0;obtain⟨a,cp,rfl⟩:=Vt b;have b0:=Ys k;by_cases b9:i<m∨0<c
  ·rw[YZ x y m i c bf b5 hc b9]at hs;have c0:i<=200000:=by have:=congrArg List.length hs;simp only[Zv,Xf]at this;omega
   clear a0;replace hs:=Qc hs;have bb:Zi x i<1000000000:=hx.lt i;have b6:Zi y i<1000000000:=hy.lt i;have ac:i<=1000000000:=oM;obtain⟨xi,a6⟩:∃z,Zi x i=z:=⟨_,rfl⟩;obtain⟨yi,a5⟩:∃z,Zi y i=z:=⟨_,rfl⟩;have L1:∀W:Qm,Qd w W->Calls prog 277 #[.slice xa x.length xc,i6 (i:Int)] W fun e w'=>e=.returned (.int .u64 xi)/\w'=W:=fun W hW=>by
    have h:=Ih x _ i W (hx.same hW) ac;rwa [a6]at h
   have L2:∀W:Qm,Qd w W->Calls prog 277 #[.slice ya y.length yc,i6 (i:Int)] W fun e w'=>e=.returned (.int .u64 yi)/\w'=W:=fun W hW=>by
    have h:=Ih y _ i W (hy.same hW) ac;rwa [a5]at h
   rw[a6]at hs bb;rw[a5]at hs b6;obtain⟨s1,bc⟩:=X0 (xi+yi);obtain⟨f,be⟩:=X0 (c+s1);rw[bc,be]at hs;obtain⟨r1,a9⟩:∃r,f % LB=r:=⟨_,rfl⟩;obtain⟨q1,a4⟩:∃q,f/LB=q:=⟨_,rfl⟩;rw[a9,a4]at hs;have e1:(xi:Int)+(yi:Int)=(s1:Int):=oM;have e2:(c:Int)+(s1:Int)=(f:Int):=oM;have bg:q1<=1:=by have e:LB=1000000000:=rfl;rw[<-a4,e];omega
   have w5:IntKind.u32.wrap ((f:Int) % 1000000000)=(r1:Int):=by rw[BC oM oM,<-a9];show _=((f % 1000000000:Nat):Int);omega
   have w6:(f:Int)/1000000000=(q1:Int):=by rw[<-a4];show _=((f/1000000000:Nat):Int);omega
   have w1:IntKind.u64.wrap (s1:Int)=(s1:Int):=X7 oM oM;have w2:IntKind.u64.wrap (f:Int)=(f:Int):=X7 oM oM;have bd:=Jd k;have b2:m<=i->q1=0:=fun h=>by
    have z1:xi=0:=by rw[<-a6];exact Ma oM
    have z2:yi=0:=by rw[<-a5];exact Ma oM
    have e:LB=1000000000:=rfl;rw[<-a4,e];omega
   have ag:q1=0∨i+1<=m:=by
    rcases Ce i m with h|h
    ·exact .inr h
    ·exact .inl (b2 h)
   clear a9 a4 a6 a5 b2;have n:(wr.setCell (ad w.heap.size 0) (.int .u64 (f:Int))).ownsRow (w.heap.size+1) 236 1 (.slice a i cp) i (l.map uV):=ownsRow_setCell_below b (YX _) _;by_cases c5:i<m;rotate_left
   have c3:0<c:=oM;rotate_left
   all_goals go_wp2
   all_goals
    refine wp_region_still_tail 13 rfl kM ?_
    simp only[Nc,E2,Sn,FU]
    repeat still_step
    still_call (L1 _ a3.drew)
    repeat still_step
    still_call (L2 _ a3.drew)
    repeat still_step
    refine wpStill_nil ?_
    go_wp2_with(at_builtin;refine LQ _ rfl _ _ 288 rfl (w.heap.size+1) 236 i0 (.int .u32 0) 1 4 underlying288 b4 b7 b8 b3 rfl dM _ _ _ rfl (VV n _) (ad _ 0) 1 1 [uV r1] rfl rfl ?_ ?_ ?_ ?_ ?_ ?_)
    ·intro j u hu;have e:(wr.setCell (ad w.heap.size 0) (.int .u64 (f:Int))).heap.size=wr.heap.size:=by simp[World.setCell]
     rw[<-e];exact Jw (wr.setCell (ad w.heap.size 0) (.int .u64 (f:Int))) #[uV r1] _ j u hu
    ·intro u hu;simp at hu;subst hu;rfl
    ·unfold maxLen;omega
    ·omega
    ·have:=a3.size;simp[World.setCell];omega
    intro v' w1 a2 d _
    have b1:Qd w w1:=bO (((a3.drew).setCell (p:=(ad w.heap.size 0)) (.int .u64 (f:Int)) (fun o _ _ h=>absurd h (J0 _))).alloc (.cells #[uV r1] 236)) (Nat.le_succ _) (VV n _) d
    have a8:w1.heap[w.heap.size]? =some (.cells #[.int .u64 f,i6 i] 381 (0,0)):=jO d (Qb (Qk k 0 (.int .u64 (f:Int)))) (jN n (YX _))
    obtain⟨a1,c2,rfl⟩:=Vt a2
    have d0:=Ys a8
    have bh:=Jd a8
    clear d b n b0 bd L1 L2
    go_wp2
    have ae:=Qk (Qk a8 0 (.int .u64 (q1:Int))) 1 (i6 ((i:Int)+1))
    have af:((w1.setCell (ad w.heap.size 0) (.int .u64 (q1:Int))).setCell (ad w.heap.size 1) (i6 ((i:Int)+1))).heap[w.heap.size]? =some (.cells #[.int .u64 q1,i6 ((i+1:Nat):Int)] 381 (0,0)):=ae
    clear ae
    refine⟨?_,?_⟩
    ·(repeat apply Exists.intro);refine⟨?_,rfl⟩;refine⟨i+1,q1,l++[r1],by simp[aa.out],bg,ag,by rw[hs.out];simp,?_,af,?_⟩
     ·have h9:=ownsRow_setCell_below (ownsRow_setCell_below a2 (a:=(ad w.heap.size 0)) (YX _) (.int .u64 (q1:Int))) (a:=(ad w.heap.size 1)) (YX _) (i6 ((i:Int)+1));simpa[aa.out] using h9
     ·exact(b1.setCell (p:=(ad w.heap.size 0)) _ (fun o _ _ h=>absurd h (J0 _))).setCell (p:=(ad w.heap.size 1)) _ (fun o _ _ h=>absurd h (J0 _))
    ·rw[af,k];show(2*((m:Int)-((i+1:Nat):Int))+(q1:Int)).toNat< (2*((m:Int)-(i:Int))+(c:Int)).toNat;omega
  ·have ab:m-i=0:=oM;obtain rfl:c=0:=oM;have hz:Y3 0=[]:=rfl;rw[ab,Rk,hz,Hy]at hs;have hL:Ao wr (.slice a i cp) t:=by
    subst hs;have h1:=b;rw[<-a0]at h1|-;exact Ao.AU h1 oM a7
   clear a0 aa hs ab;go_wp2;go_ret;exact⟨⟨_,rfl,hL⟩,a3⟩
end Go.Tm
namespace Go.Tm
open Go.Proofs Go.RowKit Go.Sort Go.Proofs.Tryz
variable{W w:Qm}
def Qd2:=@Array.size_replicate
def oO:=@Lib.decDigits_length
abbrev AD(w:Qm):Prop:=Lib.TabIs prog w "internal/strconv.uint64pow10" .u64 Lib.pow10Tab
def Xw(n:Nat):Qo:=⟨(Lib.decDigits n).toArray⟩
def bQ{α:Type}[Inhabited α]{enc:α->Q0}(h:Qd w W)(b off:Nat)(d:Array α)(hb:w.heap.size<=b):Qd w (putRow enc W b off d):=by
 refine⟨h.os,h.tape,h.output,by have:=h.size;simp;omega,fun k o q _=>?_⟩;have v:=h.same k o q trivial;have j:b≠k:=Ku q;show((W.heap.modify b _)[k]?)=some o;rw[xA,Qa j,v]
def yL(u:Nat)(w:Qm)(hu:u<18446744073709551616)(htab:AD w):
  Calls prog 332 #[.int .u64 (u:Int),.int .i64 10] w fun e w'=>e=.returned (.string (Xw u))/\Qd w w':=by
 by_cases p:u<100
 ·have c1:wrap64 (u:Int)=(u:Int):=F9 _ oM;go_in;go_wp2_with(go_at_call 297;refine(internal_strconv_small u p _).mono ?_;rintro e w' ⟨rfl,rfl⟩);go_ret;exact⟨rfl,Ac.refl _ _⟩
 ·have z:1<=u:=oM;have d:Lib.nDigits u<=20:=by have:=Lib.numDigits_eq u z hu;split at this<;>omega
  have f:Lib.nDigits u<=24:=oM;have y:prog.arrayLen 310=24:=kM;have t:∀W,(Instr.sliceAt 310 (pt w.heap.size) none (some (i6 (Lib.nDigits u:Int))) none).run prog W=.ok (.slice (some (ad w.heap.size 0)) (Lib.nDigits u) 24) W:=fun W=>by
   rw[run_sliceAt_array_h W 310 (ad w.heap.size 0) kM .i64 (Lib.nDigits u:Int) oM (by rw[y];omega)];go_simp
  have q:=Lib.holds_zero0 w 310 (Lib.nDigits u) oM;have v:=internal_strconv_formatBase10 w.heap.size 0 24 u (Array.replicate (Lib.nDigits u) 0) (w.alloc (.cells Lib.zeros24 310)) q (by rw[Qd2];exact Lib.lt_pow_nDigits u) hu (by rw[Qd2];omega);rw[Qd2]at v;replace q:=Qc q;clear y;go_in;go_wp2_with(first
   | (go_at_call 298;refine(internal_strconv_numDigits u z hu _ (Lib.tabIs_alloc htab _)).mono ?_;rintro e w' ⟨rfl,rfl⟩))
  refine v.mono ?_;rintro e w' ⟨rfl,k,v',m,rfl,n⟩;have x:(convert 116 9 (.slice (some (ad w.heap.size 0)) (Lib.nDigits u) 24)).run prog ((putRow (fun(b:UInt8)=>Value.int .u8 (b.toNat:Int)) (w.alloc (.cells Lib.zeros24 310)) w.heap.size 0 m).drewN k)=.ok (.string ⟨(Lib.decDigits u).toArray⟩) ((putRow (fun(b:UInt8)=>Value.int .u8 (b.toNat:Int)) (w.alloc (.cells Lib.zeros24 310)) w.heap.size 0 m).drewN k):=by
   have h:=T8 (P:=prog) ((putRow (fun(b:UInt8)=>Value.int .u8 (b.toNat:Int)) (w.alloc (.cells Lib.zeros24 310)) w.heap.size 0 m).drewN k) 116 9 5 (ad w.heap.size 0) 24 (Lib.decDigits u) underlying116 underlying5 underlying9 (fun j c=>by
    rw[Lib.row_is_numeral n j c,Ea,World.cell?_drewN];exact cell?_putRow (fun(b:UInt8)=>Value.int .u8 (b.toNat:Int)) _ w.heap.size 0 _ m q.out (by rw[n.size,Qd2]) j (by rw[n.size];rw[oO]at c;exact c))
   rw[oO]at h;exact h
  go_wp2;go_ret;refine⟨rfl,?_⟩;have r:w.heap.size< (w.alloc (.cells Lib.zeros24 310)).heap.size:=sM;refine Ac.drewN ?_ _;exact bQ ((Ac.refl All w).alloc (.cells Lib.zeros24 310)) _ _ _ (Q6 _)
def Iz(u:Nat)(w:Qm)(hu:u<18446744073709551616)(htab:AD w):
  Calls prog 274 #[.int .u64 (u:Int),.int .i64 10] w fun e w'=>e=.returned (.string (Xw u))/\Qd w w':=by
 go_in
 go_wp2_with(go_at_call 332;refine(yL u _ hu htab).mono ?_;rintro e w' ⟨rfl,j⟩)
 go_ret
 exact⟨rfl,j⟩
def Pv(u:Nat)(w:Qm)(hu:u<18446744073709551616)(htab:AD w):
  Calls prog 215 #[.int .u64 (u:Int)] w fun e w'=>e=.returned (.string (Xw u))/\Qd w w':=by
 go_in
 go_wp2_with(go_at_call 274;refine(Iz u _ hu htab).mono ?_;rintro e w' ⟨rfl,j⟩)
 go_ret
 exact⟨rfl,j⟩
end Go.Tm
namespace Go.Tm
open Go.Proofs Go.RowKit Go.Proofs.Tryz
variable{w w':Qm}{v:Q0}{s:Qo}{X:Hd->Dc × Bool}
def S3:=@List.length_replicate
def I0:=@Nat.sub_self
def Fm(a:Jr)(n cap:Nat)(w:Qm):Calls prog 336 #[.slice a n cap] w fun e w'=>e=.returned (.func (.func 368) #[] #[.pointer (some ⟨w.heap.size,0,none⟩)])/\w'=w.alloc (.cells #[.slice a n cap] 288):=by
 go_in;exact Nv
def Uy(l:Qv)(i:Nat)(v:Array Q0)(_:Qm):Prop:=v=#[.int .i64 ((l.length-1-i:Nat):Int),uV (Zi l (l.length-1-i))]
abbrev Eb(w w':Qm):Prop:=∀(b:Nat) (c:Array Q0) (t:TypeId) (f:Nat × Nat),w.heap[b]? =some (Obj.cells c t f)->w'.heap[b]? =some (Obj.cells c t f)
def Ao.B1{l:Qv}(h:Ao w v l)(hk:Eb w w'):Ao w' v l:=by
 obtain⟨u,d,a,y,rfl,n,x⟩:=h;refine⟨u,d,a,y,rfl,n,fun i k=>?_⟩;obtain⟨b,z,e,j⟩:=x i k;refine⟨b,z,e,?_⟩;obtain⟨o,m,q⟩:=TB j;cases o with
 |cells c t f=>
  unfold World.cell? at j|-;rw[hk b c t f m];rw[m]at j;exact j
 |_=>cases q
def E3(l:Qv)(v:Q0)(bx:Nat)(Sb Si:Nat->Obj->Prop)(w0 W:Qm)(hv:Ao w0 v l)(h0W:Eb w0 W)(hbx:Boxed W bx 288 v)
  (hS1:∀c f,Sb bx (.cells c 288 f))(hS2:∀b c t f,w0.heap[b]? =some (.cells c t f)->Sb b (.cells c t f)):
  Hk prog 368 #[.pointer (some ⟨bx,0,none⟩)] l.length (Uy l) Sb Si (fun _=>True) (fun _ _=>True) W:=by
 rintro lp J Jx hlp hJ a8 hY h0
 refine NS ?_
 intro r hl hne
 have aa:=hbx.cell
 have a5:=hv.1
 obtain⟨va,vc,rfl⟩:=hv.Ab
 refine Nf func368 rfl trivial ?_ rfl
 simp only[ntmps368]
 refine Ie ?_
 gi_wp2
 gi_loopw [3] (fun i wr=>∃k:Nat,k<=l.length/\i=i6 ((l.length:Int)-1-(k:Int))/\J k wr/\Boxed wr bx 288 (.slice va l.length vc)/\Eb w0 wr) (fun i _=>(RowKit.intOf i+1).toNat)
 case atStart=>exact⟨0,Xi _,sM,h0,hbx,h0W⟩
 case round=>
  obtain⟨k,hk,rfl,hj,u,j⟩:=hrel;have hc:=u.cell;obtain⟨r1,n⟩:=hlp k wr hj;by_cases hlt:k<l.length
  ·obtain⟨m,hm⟩:=X0 (l.length-1-k);have a0:m<l.length:=oM;have q:(l.length:Int)-1-(k:Int)=(m:Int):=oM;obtain⟨fn,a7,d,a6,hy,hR⟩:=hY k _ wr hlt hj rfl;rw[hm]at hy;have a3:=hv.B1 j;obtain⟨_,_,a2,c2,e2,h3,h4⟩:=a3;cases e2;obtain⟨b,a9,rfl,a1⟩:=h4 m a0;rw[q];generalize hx:Zi l m=x at a1 hy;clear h4 hx;gi_wp2;refine hR.mono ?_;rintro e W3 ⟨y,(⟨rfl,hj3⟩| ⟨rfl,hj3⟩)⟩
   ·have a4:=y.boxed u ⟨hne,hS1 _ _⟩;have z:Eb w0 W3:=fun b c t f p=>y.same _ _ (j b c t f p) ⟨(by intro e;subst e;rw[j _ _ _ _ p]at n;cases n),hS2 b c t f p⟩
    clear j;gi_wp2;go_roundw
    case rel=>exact⟨k+1,oM,by simp;omega,hj3,a4,z⟩
    case measure=>simp[RowKit.intOf]<;>omega
   ·exact nE
  ·obtain rfl:k=l.length:=oM;have q:(l.length:Int)-1-(l.length:Int)= -1:=oM;rw[q];exact Ul
def dN(n:Nat):Qv:=Qf (Xw n)
def Dy(l:Qv)(m:Nat):Qv:=(if m<l.length-1 then List.replicate (9-(dN (Zi l m)).length) 48 else[])++dN (Zi l m)
def Hp(l:Qv):Nat->Qv
 |0=>[]
 |k+1=>Hp l k++Dy l (l.length-1-k)
def LA(l:Qv):Qv:=if l.isEmpty then[48]else Hp l l.length
def Qh5(n:Nat):∀x∈dN n,x<256:=Yj _
def Qfp{P:Prop}(h:P:=by
 intro k;induction k with
 |zero=>intro n _ h;omega
 |succ k ih=>
  intro n hn _;by_cases h1:n<10
  ·rw[Lib.nDigits_small h1];omega
  ·rw[Lib.nDigits_big h1];rw[Gb]at hn;have:0<k:=by
    rcases N9 k with rfl|h
    ·simp at hn;omega
    ·exact h
   have:=ih (n/10) oM this;omega):P:=h
def yM(n:Nat)(h:n<LB):(dN n).length<=9:=by
 unfold dN;rw[Q9];show(Lib.decDigits n).toArray.size<=9;rw[Gj,oO];have j:∀k n:Nat,n<10^k->0<k->Lib.nDigits n<=k:=by
  exact Qfp
 exact j 9 n h dM
def rW(l:Qv)(m:Nat):∀x∈Dy l m,x<256:=by
 intro x hx;unfold Dy at hx;rcases Kn.1 hx with h|h
 ·split at h
  ·rw[bN h];decide
  ·cases h
 ·exact Qh5 _ x h
def ZW(l:Qv):∀k,∀x∈Hp l k,x<256
 |0,x,hx=>by cases hx
 |k+1,x,hx=>by
  rw[Hp]at hx;rcases Kn.1 hx with h|h
  ·exact ZW l k x h
  ·exact rW _ _ x h
def jP(l:Qv)(h:∀x∈l,x<LB)(m:Nat):(Dy l m).length<=9:=by
 have q:Zi l m<LB:=by
  rcases Ce m l.length with j|j
  ·exact h _ (MQ j)
  ·rw[Ma j];decide
 have:=yM _ q;unfold Dy;rw[Zv];split
 ·rw[S3];omega
 ·simp;omega
def Uz(l:Qv)(h:∀x∈l,x<LB):∀k,(Hp l k).length<=9*k
 |0=>by simp[Hp]
 |k+1=>by rw[Hp,Zv];have:=Uz l h k;have:=jP l h (l.length-1-k);omega
def ZX{n:String}{cs:Array Q0}(hk:Eb w w')(h:w.var? prog n=some cs):w'.var? prog n=some cs:=by
 unfold World.var? at h|-;cases hg:prog.globalNamed n with
 |none=>rw[hg]at h;cases h
 |some g=>
  simp only[hg,Option.bind_some]at h|-;cases ho:w.heap[g]? with
  |none=>rw[ho]at h;cases h
  |some o=>
   rw[ho]at h;cases o with
   |cells c t f=>rw[hk _ _ _ _ ho];exact h
   |_=>cases h
def U0(l:Qv)(v:Q0)(w:Qm)(hv:Ao w v l)(hp:AD w):
  Calls prog 321 #[v] w fun e w'=>e=.returned (.string (Xh (LA l)))/\Qd w w':=by
 obtain⟨va,vc,rfl⟩:=hv.Ab
 have bh:=hv.1
 have a6:=hv.2.1
 refine(J5 (n:=0)).1 (Vy func321 rfl trivial ?_ rfl)
 simp only[ntmps321]
 refine Ie ?_
 by_cases h0:l.length=0
 ·obtain rfl:l=[]:=CW.1 h0;gi_wp2;exact⟨_,Gn rfl _ _ _,rfl,Xd⟩
 ·have c5:((l.length:Int)==0)=false:=by simpa using h0
  gi_wp2_with(gi_at_call 336;refine(Qr (Fm va l.length vc _)).mono ?_;rintro e w' ⟨rfl,rfl⟩);generalize hW1:World.alloc (World.alloc (World.alloc _ _) _) (.cells #[.slice va l.length vc] 288)=W1;have hz:W1.heap.size=w.heap.size+3:=by rw[<-hW1];simp
  have ag:Qd w W1:=by rw[<-hW1];exact(((Ac.refl _ w).alloc _).alloc _).alloc _
  have b0:Boxed W1 w.heap.size 288 (.slice va l.length vc):=by rw[<-hW1];exact Qb (Qb (Qt w _))
  have b1:EU w.heap.size (w.heap.size+1) [] W1:=by
   exact yD
  have b2:Boxed W1 (w.heap.size+1+1) 288 (.slice va l.length vc):=by rw[<-hW1];exact CH
  clear hW1;have a7:Eb w W1:=fun b c t f u=>ag.s u
  refine Rx (gf:=368) (lb:=#[pt (w.heap.size+1+1)])
   rfl (X3 func368 kM rfl) l.length (Uy l) (N2 w.heap.size (w.heap.size+1)) (fun _ _=>True)
   (fun _=>True) (fun _ _=>True) ?hit ?hSb (fun _ _ _ _ _=>trivial)
   (fun i A=>EU w.heap.size (w.heap.size+1) (Hp l i) A/\Boxed A w.heap.size 288 (.slice va l.length vc)/\Eb w A)
   (fun _ _ _=>False) ?hI (fun _ _ _ _ h _=>h) (fun _ _ _ _ h _=>h) (fun _ _ _ _=>trivial) (fun _ _ _ _ _=>trivial) (fun i v A h=>by rw[h];rfl) ⟨b1,b0,a7⟩ ?hround ?hdone (fun _ _ _ _ _ _ h=>h.elim)
  case hit=>
   intro W2 j c2;exact E3 l _ _ _ _ w W2 hv (fun b c t f u=>j.s (a7 b c t f u)) (j.boxed b2 trivial) (fun c f=>⟨oM,.inr sM⟩) (fun b c t f u=>⟨Ku u,.inl (Qg u)⟩)
  case hSb=>
   intro b o u ho;exact jA
  case hI=>
   rintro i A B ⟨h1,h2,h3⟩ hk;refine⟨V1 h1 hk (fun c f=>⟨.inr rfl,trivial⟩) (fun g c f _ _=>⟨.inr rfl,trivial⟩),hk.boxed h2 ⟨.inr rfl,trivial⟩,fun b c t f u=>hk.same _ _ (h3 b c t f u) ⟨.inr rfl,trivial⟩⟩
  case hround=>
   intro i v ba;obtain⟨x,y,rfl⟩:=TD rfl ba;apply Exists.intro;apply And.intro
   ·exact LX
   ·rintro l2 A c7 _ hi ⟨h1,h2,h3⟩ b5;obtain⟨rfl,rfl⟩:x=i6 ((l.length-1-i:Nat):Int)/\y=uV (Zi l (l.length-1-i)):=by simpa[Uy] using b5
    have z:Hp l (i+1)=Hp l i++Dy l (l.length-1-i):=rfl;obtain⟨m,hm⟩:=X0 (l.length-1-i);have bd:m<l.length:=oM;rw[hm]at z|-;have ah:Zi l m<1000000000:=a6 _ (MQ bd);have c4:=Uz l a6 i;have a8:=yM _ ah;have r:Dy l m=(if m<l.length-1 then List.replicate (9-(dN (Zi l m)).length) 48 else[])++dN (Zi l m):=rfl;generalize hn:Zi l m=n at r a8 ah|-;have a1:(Xw n).size=(dN n).length:=(Q9 _).symm;replace z:=Qc z;replace r:=Qc r;replace a1:=Qc a1;clear hm hn;have a9:w.heap.size<=A.heap.size:=by have:=(wP h1).2;omega
    gi_wp2_with fail;refine(Hl l2 (Iz n A oM (ZX h3 hp))).mono ?_;rintro e A2 ⟨rfl,j⟩;have af:=V1 h1 j (fun c f=>trivial) (fun g c f _ _=>trivial);have aa:=j.boxed h2 trivial;have c0:=aa.cell;have bf:=j.size;by_cases ad:m<l.length-1
    ·have b3:decide ((m:Int)< (l.length:Int)-1)=true:=by simp;omega
     have ae:(List.replicate (9-(dN n).length) 48:Qv).length=9-(dN n).length:=S3;have e9:(9:Int)-((Xw n).size:Int)=((9-(dN n).length:Nat):Int):=by rw[a1.out];omega
     generalize hq:9-(dN n).length=q at e9 ae;have c3:q<=9:=oM;have a2:=fun W=>DX (q:Int) W oM oM
     rw[Ig]at a2;have a5:Qf ⟨(List.replicate q (48:UInt8)).toArray⟩=List.replicate q 48:=by simp[Qf]
     have p:Dy l m=List.replicate q 48++dN n:=by rw[r.out,Qe ad,hq]
     have be:=Qc p;have HZ:=Qc a5;obtain⟨zs,ac⟩:∃zs:Qo,⟨(List.replicate q (48:UInt8)).toArray⟩=zs:=⟨_,rfl⟩;rw[ac]at a2 HZ;have bb:zs.size=q:=by rw[<-ac];show(List.replicate q (48:UInt8)).toArray.size=q;simp
     have b6:(Xw n).size<=9:=by rw[a1.out];exact a8
     clear p a5 ac hq ae;gi_wp2_with fail;refine(Hl l2 (a2 A2)).mono ?_;rintro e A3 ⟨rfl,k⟩;have b7:=V1 af k (fun c f=>trivial) (fun g c f _ _=>trivial);have bg:=k.size;gi_wp2_with fail;refine(Hl l2 (Ke _ _ zs _ A3 b7 oM oM)).mono ?_;rintro e A4 ⟨⟨rv,rfl⟩,b4,a4⟩;have c1:=a4.size;have c6:(Hp l i++Qf zs).length=(Hp l i).length+q:=by rw[Zv,Q9,bb]
     gi_wp2_with fail;refine(Hl l2 (Ke _ _ (Xw n) _ A4 b4 oM oM)).mono ?_;rintro e A5 ⟨⟨bc,rfl⟩,ab,d⟩;gi_wp2;refine⟨(Ac.of_same (j.trans k)).trans (a4.trans d),?_,(a4.trans d).boxed (k.boxed aa trivial) ⟨oM,.inr sM⟩,fun b c t f u=>(a4.trans d).same _ _ (k.s (j.same _ _ (h3 b c t f u) trivial)) ⟨Ku u,.inl (Qg u)⟩⟩;rw[z.out,be.out,<-Y1,<-HZ.out];exact ab
    ·have b3:decide ((m:Int)< (l.length:Int)-1)=false:=by simp;omega
     have b6:(Xw n).size<=9:=by rw[a1.out];exact a8
     have p:Dy l m=dN n:=by rw[r.out,Qa ad];rfl
     replace p:=Qc p;gi_wp2_with fail;refine(Hl l2 (Ke _ _ (Xw n) _ A2 af oM oM)).mono ?_;rintro e A5 ⟨⟨bc,rfl⟩,ab,d⟩;gi_wp2;refine⟨(Ac.of_same j).trans d,?_,d.boxed aa ⟨oM,.inr sM⟩,fun b c t f u=>d.same _ _ (j.s (h3 b c t f u)) ⟨Ku u,.inl (Qg u)⟩⟩;rw[z.out,p.out];exact ab
  case hdone=>
   rintro D A hD ⟨h1,h2,h3⟩ _ hk b9;have a3:Qd w A:=Ho ag hk fun b o u=>⟨⟨Ku u,.inl (Qg u)⟩,trivial⟩
   have a9:=a3.size;have a0:LA l=Hp l l.length:=by unfold LA;rw[Qa (by simp;intro e;exact h0 (by rw[e];rfl))]
   replace a0:=Qc a0;gi_wp2_with fail;refine(Qr (J4 _ _ _ A h1 (ZW l _) a9)).mono ?_;rintro e A2 ⟨rfl,j⟩;have b8:=j.same _ _ b9 (.inr ⟨oM,sM⟩);have k:Qd w A2:=⟨j.os.trans a3.os,j.tape.trans a3.tape,j.output.trans a3.output,Qj a9 j.size,fun b o u _=>j.same b o (a3.same b o u trivial) (.inl (Qg u))⟩;gi_wp2;refine⟨sM,.inl ⟨_,_,rfl,Vx b8,?_⟩⟩;exact⟨_,Gn rfl _ _ _,by rw[a0.out];rfl,k.putObj _ fun o _ _ h=>oM⟩
abbrev Pw(r:Qv × Int):Q0:=.tuple #[.string (Xh r.1),.int .i64 r.2]
def C6(l:Qv):Qv × Int:=if 400< (LA (Jf l)).length then([],11)else(LA (Jf l),0)
def powerM(base:Nat)(e:Int):Qv × Int:=
 if e<0∨400<e then([],10)else match VP (Y3 base) e.toNat [1]with
 |none=>([],11)
 |some out=>C6 out
def I1(l:Qv)(v:Q0)(w:Qm)(hv:Ao w v l)(hp:AD w):
  Calls prog 278 #[v] w fun e w'=>e=.returned (Pw (C6 l))/\Qd w w':=by
 obtain⟨x,p,rfl⟩:=hv.Ab
 obtain⟨t,m⟩:=X0 (LA (Jf l))
 have n:(Xh t).size=t.length:=Jz t
 have j:C6 l=if 400<t.length then([],11)else(t,0):=by unfold C6;rw[m]
 replace j:=Qc j
 replace m:=Qc m
 by_cases h:400<t.length
 ·have u:decide ((400:Int)< ((Xh t).size:Int))=true:=by rw[n];simp;omega
  go_in;go_wp2_with(first
   | (go_at_call 334;refine(TZ l _ _ hv).mono ?_;rintro e b ⟨⟨d,rfl,q⟩,z⟩;replace z:=z.symm;subst z;obtain⟨c,k,rfl⟩:=q.Ab)
   | (go_at_call 321;refine(U0 _ _ _ q hp).mono ?_;rintro e f ⟨rfl,y⟩;rw[m.out]))
  go_ret2;exact⟨by rw[j.out,Qe h];rfl,y⟩
 ·have u:decide ((400:Int)< ((Xh t).size:Int))=false:=by rw[n];simp;omega
  go_in;go_wp2_with(first
   | (go_at_call 334;refine(TZ l _ _ hv).mono ?_;rintro e b ⟨⟨d,rfl,q⟩,z⟩;replace z:=z.symm;subst z;obtain⟨c,k,rfl⟩:=q.Ab)
   | (go_at_call 321;refine(U0 _ _ _ q hp).mono ?_;rintro e f ⟨rfl,y⟩;rw[m.out]))
  go_ret2;exact⟨by rw[j.out,Qa h];rfl,y⟩
def AD.same(h:AD w)(hk:Qd w w'):AD w':=ZX (fun b c t f j=>hk.s j) h
def yN{P:Prop}(h:P:=by
 go_wp2;go_ret2;exact⟨by rw[HR.out];rfl,Ac.refl _ _⟩):P:=h
def Px(base:Nat)(e:Int)(w:Qm)(hb:base<4294967296)(hp:AD w)(he: -9223372036854775808<=e/\e<=9223372036854775807):
  Calls prog 264 #[.int .u32 (base:Int),.int .i64 e] w fun x w'=>x=.returned (Pw (powerM base e))/\Qd w w':=by
 by_cases h:e<0∨400<e
 ·have j:powerM base e=([],10):=by unfold powerM;rw[Qe h]
  have HR:=Qc j;clear j;by_cases h1:e<0
  ·go_in;exact yN
  ·have h2:400<e:=oM;go_in;exact yN
 ·obtain⟨n,rfl⟩:∃n:Nat,e=n:=⟨e.toNat,oM⟩;have hn:n<=400:=oM;obtain⟨b,y⟩:=X0 (Y3 base);have a4:b.length<=3:=by rw[<-y];exact Fe _
  have j:powerM base (n:Int)=match VP b n [1]with|none=>([],11)|some out=>C6 out:=by
   unfold powerM;rw[Qa h,y];rfl
  have a0:IntKind.u64.wrap (base:Int)=(base:Int):=X7 oM oM;have f:∀W,Calls prog 319 #[.int .u64 (base:Int)] W fun e w'=>(∃v',e=.returned v'/\Ao w' v' b)/\Qd W w':=fun W=>by
   have:=ZH base W oM;rwa [y]at this
  replace j:=Qc j;clear y h;go_in;go_wp2;go_loopw [15,6] (fun p ov wr=>∃(i:Nat) (out:Qv),p=i6 i/\i<=n/\VP b n [1]=VP b (n-i) out/\out.length<=46/\Ao wr ov out/\Qd w wr) (fun p _ _=>n-(RowKit.intOf p).toNat)
  case atStart=>
   refine⟨0,[1],rfl,Xi _,rfl,sM,?_,(Ac.refl _ _).alloc _⟩;exact Ao.Be (l:=[1]) (Qt w _) sM (by simp;decide) sM
  case round=>
   obtain⟨i,out,rfl,hi,c,a5,k,d⟩:=hrel;obtain⟨oa,oc,rfl⟩:=k.Ab;by_cases a3:i<n
   ·rw[show n-i=(n-(i+1))+1 by omega,VP]at c;generalize t:EX out b=m at c;have HS:=Qc c;replace t:=Qc t;clear c;by_cases u:45<m.length
    ·go_wp2_with(first
      | (go_at_call 319;refine(f _).mono ?_;rintro e w1 ⟨⟨v1,rfl,v⟩,z⟩;obtain⟨a1,c1,rfl⟩:=v.Ab)
      | (go_at_call 318;refine(Tv out b _ _ _ (k.same z) v oM).mono ?_;rintro e w2 ⟨⟨v2,rfl,q⟩,r⟩;rw[t.out]at q;obtain⟨a2,c2,rfl⟩:=q.Ab))
     go_ret2;exact⟨by rw[j.out,HS.out,Qe u];rfl,Xd⟩
    ·go_wp2_with(first
      | (go_at_call 319;refine(f _).mono ?_;rintro e w1 ⟨⟨v1,rfl,v⟩,z⟩;obtain⟨a1,c1,rfl⟩:=v.Ab)
      | (go_at_call 318;refine(Tv out b _ _ _ (k.same z) v oM).mono ?_;rintro e w2 ⟨⟨v2,rfl,q⟩,r⟩;rw[t.out]at q;obtain⟨a2,c2,rfl⟩:=q.Ab))
     go_roundw
     case rel=>exact⟨i+1,m,by go_num,oM,by rw[HS.out,Qa u],oM,q,Xd⟩
     case measure=>simp[RowKit.intOf];omega
   ·obtain rfl:i=n:=oM;rw[I0,VP]at c;replace c:=Qc c;go_wp2_with(go_at_call 278;refine(I1 out _ _ k (hp.same d)).mono ?_;rintro e w1 ⟨rfl,z⟩);go_ret2;exact⟨by rw[j.out,c.out];rfl,Xd⟩
def V2(b:Qv):Qv × Int:=
 if b.head? ==some 0 then([],10)else match LS b []with
 |none=>([],11)
 |some out=>C6 out
def rX(l:Qv):(Jf l).length<=l.length:=by
 unfold Jf;rw[MT]
 have:=(aB (p:=fun x:Nat=>x==0) (l:=l.reverse)).length_le;rwa [MT]at this
def I2(b:Qv):∀(a:Qv) (i:Nat) (out:Qv),(H6 b a i out).length=out.length
 | [],i,out=>rfl
 |x::a,i,out=>by rw[H6,I2 b a,L8]
def yO(a b:Qv):(EX a b).length<=a.length+b.length:=by
 unfold EX;refine Qj (rX _) ?_;rw[I2,S3];exact Q6 _
def bU(s:Qo)(w:Qm)(hs:s.size<=1000000000)(hp:AD w):
  Calls prog 291 #[.string s] w fun x w'=>x=.returned (Pw (V2 (Qf s)))/\Qd w w':=by
 have a9:=Q9 s
 by_cases b:(Qf s).head? =some 0
 ·have v:V2 (Qf s)=([],10):=by unfold V2;rw[b];rfl
  have HR:=Qc v;have b0:s.size≠0:=by
   intro e;rw[<-a9]at e;rw[CW.1 e]at b;cases b
  have y:0<s.size:=by omega
  have hc:(s[0]).toNat=0:=by
   rw[<-Cc s y];unfold Zi;rw[K9,<-List.head?_eq_getElem?,b];rfl
  have z:=Ld y;clear v b;go_enter func291,ntmps291;go_wp2;go_ret2;exact⟨by rw[HR.out];rfl,Ac.refl _ _⟩
 ·have v:V2 (Qf s)=match LS (Qf s) []with|none=>([],11)|some out=>C6 out:=by unfold V2;rw[Qa (by simpa using b)]
  have HR:=Qc v;clear v;by_cases hz:s.size=0
  ·obtain rfl:=Im hz;go_enter func291,ntmps291;go_wp2;refine Ik 1 ?_;rw[Yg];go_wp2_with(go_at_call 278;refine(I1 [] _ _ (Ao.nil _) hp).mono ?_;rintro e w1 ⟨rfl,a6⟩);go_ret2;exact⟨by rw[HR.out];rfl,Xd⟩
  ·have y:0<s.size:=by omega
   have hc:(((s[0]).toNat:Int)==0)=false:=by
    have h1:Zi (Qf s) 0≠0:=by
     intro e;apply b;rw[List.head?_eq_getElem?];have hl:0< (Qf s).length:=by omega
     rw[Km hl];unfold Zi at e;rw[K9,Km hl]at e;simpa using e
    rw[Cc s y]at h1;simpa using h1
   have z:=Ld y;clear b hz;go_enter func291,ntmps291;go_wp2;clear z hc;go_loopw [15,4] (fun iv ov wr=>∃(i:Nat) (out:Qv),iv=.int .i64 i/\i<=s.size/\LS (Qf s) []=LS ((Qf s).drop i) out/\out.length<=46/\Ao wr ov out/\Qd w wr) (fun iv _ _=>s.size-(RowKit.intOf iv).toNat)
   case atStart=>exact⟨0,[],rfl,Xi _,rfl,by simp,Ao.nil _,Ac.refl _ _⟩
   case round=>
    obtain⟨i,out,rfl,hi,j,ag,hL,ab⟩:=hrel;obtain⟨oa,oc,rfl⟩:=hL.Ab;by_cases a8:i<s.size
    ·rw[Iy (by omega),LS]at j;have a0:=yO out [256];have ac:=wF s i;have p:=Cc s a8;obtain⟨c,a4⟩:∃c,Zi (Qf s) i=c:=⟨_,rfl⟩;rw[a4]at j ac p;obtain⟨m,hm⟩:∃m,EX out [256]=m:=⟨_,rfl⟩;rw[hm]at j a0;have ad:=Fe c;obtain⟨sc,k⟩:∃sc,Y3 c=sc:=⟨_,rfl⟩;rw[k]at j ad;obtain⟨r,hr⟩:∃r,NK m sc=r:=⟨_,rfl⟩;rw[hr]at j;have HS:=Qc j;have HM:=Qc hm;have ae:=Qc k;have a5:=Qc hr;have a7:=p.symm;clear p;have aa:IntKind.u64.wrap (c:Int)=(c:Int):=X7 (by omega) (by omega);clear j hm k hr a4;simp only[Xf,Vp]at a0;go_wp2;refine(Vd (n:=0)).1 ?_;refine Ja (n:=0) (fun _=>True) reads (fun _=>trivial) rfl (by kernel_rfl) (by kernel_rfl) trivial ?_;refine K6 rfl rfl ?_;intro K q w' hs;go_simp;refine q _ _ ?_;clear q K hs w';refine Kd rfl rfl ?_;intro K q;go_simp;refine q _ _ trivial ?_;clear q K;refine Kd rfl rfl ?_;intro K q;go_simp;refine(Qr (Tv out [256] _ _ _ (hL.same Xd) (Ao.Be (l:=[256]) (J9 (Qt wr _)) (by simp) (by simp;decide) (by simp)) (by simp;omega))).mono ?_;rintro e w1 ⟨⟨v1,rfl,t⟩,a6⟩;rw[HM.out]at t;obtain⟨a1,c1,rfl⟩:=t.Ab;refine q _ _ trivial ?_;clear q K;iterate 4 (refine K6 rfl rfl ?_;intro K q w' hs;go_simp;refine q _ _ ?_;clear q K hs w')
     refine Kd rfl rfl ?_;intro K q;go_simp;refine(Qr (ZH c _ (by omega))).mono ?_;rintro e w2 ⟨⟨v2,rfl,f⟩,af⟩;rw[ae.out]at f;obtain⟨a2,c2,rfl⟩:=f.Ab;refine q _ _ trivial ?_;clear q K;refine Kd rfl rfl ?_;intro K q;go_simp;refine(Qr (Ux m sc _ _ _ (t.same af) f (by omega))).mono ?_;rintro e w3 ⟨⟨v3,rfl,d⟩,ah⟩;rw[a5.out]at d;obtain⟨a3,c3,rfl⟩:=d.Ab;refine q _ _ trivial ?_;clear q K;refine K6 rfl rfl ?_;intro K q w' hs;go_simp;refine q _ _ ?_;clear q K hs w';refine Jc ?_;clear a7 aa;by_cases u:45<r.length
     ·go_wp2;go_ret2;exact⟨by rw[HR.out,HS.out,Qe u];rfl,Xd⟩
     ·go_wp2;go_roundw
      case rel=>exact⟨i+1,r,by go_num,by omega,by rw[HS.out,Qa u],by omega,d,Xd⟩
      case measure=>simp[RowKit.intOf];omega
    ·obtain rfl:i=s.size:=by omega
     rw[NZ (by omega),LS]at j;have HS:=Qc j;clear j;go_wp2_with(go_at_call 278;refine(I1 out _ _ hL (hp.same ab)).mono ?_;rintro e w1 ⟨rfl,a6⟩);go_ret2;exact⟨by rw[HR.out,HS.out];rfl,Xd⟩
def rY(W:Qm):(Instr.field 215 (Ir 52 11 64) 0).run prog W=.ok (.agg #[.int .i64 52,.int .i64 11]) W:=by kernel_rfl
def Qd3(W:Qm):(Instr.field 213 (.agg #[.int .i64 52,.int .i64 11]) 1).run prog W=.ok (.int .i64 11) W:=by kernel_rfl
def RA(b:Nat)(w:Qm)(hb:b<18446744073709551616):
  Calls prog 289 #[.int .u64 (b:Int)] w fun e w'=>e=.returned (.bool (!decide (b>>>52&&&Qw 11=Qw 11)))/\Qd w w':=by
 obtain⟨x,hx⟩:=X0 (b>>>52&&&Qw 11)
 obtain⟨o,q⟩:=X0 (Qw 11)
 have y:=fun W=>Vu 52 11 64 b W (.inr (.inr rfl)) oM oM hb
 have j:=fun W=>Xk 11 W oM
 rw[q]at j
 have v:o=2047:=by rw[<-q];rfl
 have u:wrap64 (o:Int)=(o:Int):=F9 _ oM
 have z:((x:Int)!=(o:Int))= !decide (x=o):=by rw[bne,Tn]
 rw[hx]at y|-
 rw[q]
 clear q hx v
 have t:=rY
 have n:=Qd3
 go_in
 go_wp2_with(first
  | (go_at_call 204;refine(V0 _).mono ?_;rintro e d ⟨rfl,rfl⟩)
  | (go_at_call 213;refine(y _).mono ?_;rintro e f ⟨rfl,m⟩)
  | (go_at_call 210;refine(j _).mono ?_;rintro e c ⟨rfl,rfl⟩))
 go_ret
 exact⟨sM,Xd⟩
def CO(x:Nat):Bool:= !Za x
def oQ(s:Qo)(pos:Nat):Zi (Qf s) pos=(s.data.toList.getD pos 0).toNat:=by
 unfold Zi Qf;rw[K9,CV,K9];cases s.data.toList[pos]? <;>rfl
def yP(s:Qo)(pos:Nat)(h:Zi (Qf s) pos<128):Utf8.decode s pos=(Zi (Qf s) pos,1):=by
 rw[oQ]at h|-;rw[Lib.decode_N];exact Lib.decodeN_ascii _ _ _ _ _ h
def jQ(n b0 b1 b2 b3:Nat)(h:128<=b0):128<=(Lib.decodeN n b0 b1 b2 b3).1:=by
 unfold Lib.decodeN;rw[Qa oM];split
 ·split
  ·rename_i j;exact j
  ·show(128:Nat)<=65533;omega
 ·split
  ·split
   ·rename_i j;exact Qj oM j.1
   ·show(128:Nat)<=65533;omega
  ·split
   ·split
    ·rename_i j;exact Qj oM j.1
    ·show(128:Nat)<=65533;omega
   ·show(128:Nat)<=65533;omega
def Qgq(s:Qo)(pos:Nat)(h:128<=Zi (Qf s) pos):128<=(Utf8.decode s pos).1:=by
 rw[oQ]at h;rw[Lib.decode_N];exact jQ _ _ _ _ _ h
def bV(s:Qo):∀(f pos:Nat),pos<=s.size->s.size-pos<=f->if((Qf s).drop pos).all Za then Lib.idxFuncFrom CO true s f pos= -1 else 0<=Lib.idxFuncFrom CO true s f pos
 |0,pos,h1,h2=>by
  have:(Qf s).drop pos=[]:=NZ (by rw[Q9];omega);rw[this];rfl
 |f+1,pos,h1,h2=>by
  by_cases h:pos<s.size
  ·have hd:(Qf s).drop pos=Zi (Qf s) pos::(Qf s).drop (pos+1):=by
    rw[Dq (by rw[Q9];exact h)];simp[Zi,K9,Km (show pos< (Qf s).length by rw[Q9];exact h)]
   rw[hd,Il];unfold Lib.idxFuncFrom;rw[Qe h];by_cases j:Za (Zi (Qf s) pos)=true
   ·have q:Zi (Qf s) pos<128:=by simp[Za]at j;omega
    rw[yP s pos q,j,MY];have y:¬(CO (Zi (Qf s) pos,1).1=true):=by simp[CO,j]
    rw[Qa y];exact bV s f (pos+1) oM oM
   ·have v:Za (Zi (Qf s) pos)=false:=by simpa using j
    have y:CO (Utf8.decode s pos).1=true:=by
     by_cases q:Zi (Qf s) pos<128
     ·rw[yP s pos q];simp[CO,v]
     ·have:=Qgq s pos oM;have h2:Za (Utf8.decode s pos).1=false:=by simp[Za];omega
      simp[CO,h2]
    rw[v,Bool.false_and,Qe y];simp
  ·have:(Qf s).drop pos=[]:=NZ (by rw[Q9];omega);rw[this,Lib.idxFuncFrom_end _ _ _ _ _ h];rfl
def jR(s:Qo):decide (0<=Lib.idxFunc CO true s)= !((Qf s).all Za):=by
 have:=bV s s.size 0 (Xi _) oM;rw[FU]at this;unfold Lib.idxFunc;cases h:(Qf s).all Za with
 |true=>rw[h,Qe rfl]at this;rw[this];rfl
 |false=>rw[h,Qa sM]at this;simp[this]
def I3(x:Nat)(w:Qm):Calls prog 270 #[.int .i32 (x:Int)] w fun e w'=>e=.returned (.bool (Za x))/\w'=w:=by
 by_cases j:48<=x
 ·go_in;go_wp2;go_ret;exact⟨by simp[Za,j]<;>omega,rfl⟩
 ·go_in;go_wp2;go_ret;exact⟨by simp[Za,j],rfl⟩
def RC(x:Nat)(w:Qm):Calls prog 269 #[.int .i32 (x:Int)] w fun e w'=>e=.returned (.bool (CO x))/\w'=w:=by
 go_in;go_wp2_with(go_at_call 270;refine(I3 x _).mono ?_;rintro e j ⟨rfl,rfl⟩);exact ZP
def bW(s:Qo)(w:Qm):Calls prog 271 #[.string s,.func (.func 269) #[] #[]] w fun e w'=>e=.returned (.int .i64 (Lib.idxFunc CO true s))/\Qd w w':=by
 refine(strings_IndexFunc_runes 269 #[] (X3 func269 kM rfl) CO s w ?_).mono ?_
 ·intro W x hx j;refine(RC x W).mono ?_;rintro e w' ⟨rfl,h⟩;exact⟨rfl,0,by rw[h];rfl⟩
 ·rintro e w' ⟨rfl,j⟩;exact⟨rfl,Ac.AB j⟩
def Jo(neg:Bool)(digits:Qo)(exp:Int):Dc × Int:=
 if digits.size=0∨400<digits.size∨Kt exp 1000=false∨(Qf digits).all Za=false then(Ko,40)
 else
  let long:Qo:=⟨(Lib.trimLeftB digits.data.toList 48).toArray⟩
  if long.size=0 then(Ju,0)
  else
   let short:Qo:=⟨(Lib.trimRightB long.data.toList 48).toArray⟩
   let d:Dc:=⟨neg,short,exp+long.size-short.size⟩
   if Q2 d then(d,0)else(Ko,40)
abbrev yQ(r:Dc × Int):Q0:=.tuple #[FY r.1,.int .i64 r.2]
def RD{P:Prop}(h:P:=by
 simp[asAddr,hld,Result.andThen]):P:=h
def Oh(T:Array Q0)(W:Qm)(bx:Nat)(d:Dc)(e:Int)(h6:T.getD 6 undef=.pointer (some ⟨bx,0,none⟩))(h7:T.getD 7 undef=.int .i64 e)
  (hrow:W.heap[bx]? =some (.cells #[.bool d.neg,.string d.digits,.int .i64 d.exp] 23 (0,0))):(results f214 T).run prog W=.ok (yQ (d,e)) W:=by
 have hld:=Pr (P:=prog) W bx 23 23 _ (0,0) _ hrow underlying23 rfl kM
 rw[Mf rfl,h6,h7]
 exact RD
def yR{P:Prop}(h:P:=by
 go_wp2;refine Ni ?_;exact⟨rfl,rfl,rfl,rfl,Xd,⟨_,_,_,Qb (Qt w _)⟩,HM.out⟩):P:=h
def jS{P Q:Prop}(h:Q)(f:Wz Q->P:=by
 intro zz;go_at_call 199;refine(hin _).mono ?_;rintro e w1 ⟨rfl,h9⟩;replace h9:=h9.symm;subst h9;exact zz.o):P:=f ⟨h⟩
def yS{P Q:Prop}(h:Q)(f:Wz Q->P:=by
 intro zz;go_at_call 271;refine(hidc _).mono ?_;rintro e w2 ⟨rfl,hk2⟩;have hb2:=hk2.same w.heap.size _ (Qb (Qt w _)) trivial;have hd2:=hk2.same (w.heap.size+1) _ (Ql sM) trivial;have c0:=Q1 hb2;have d0:=Q1 hd2;have hf2:=Jd hb2;have hg2:∀j,w2.frozen? (ad (w.heap.size+1) j)=false:=Je hd2;revert w2 hk2 hb2 hd2 c0 d0 hf2 hg2;exact zz.o):P:=f ⟨h⟩
def I4(neg:Bool)(s:Qo)(exp:Int)(w:Qm)(hs:s.size<=1099511627776)(he: -9223372036854775808<=exp/\exp<=9223372036854775807):
  Calls prog 214 #[.bool neg,.string s,.int .i64 exp] w fun e w'=>e=.returned (yQ (Jo neg s exp))/\Qd w w':=by
 go_in
 go_wp2
 refine Ip (rest:=?rest) 0 (fun a w'=>a.tmps.size=50/\a.defers=[]/\a.tmps.getD 6 undef=pt w.heap.size/\Qd w w'/\(∃x y z,w'.heap[w.heap.size]? =some (.cells #[x,y,z] 23 (0,0)))/\Jo neg s exp=(Ko,40)) (fun _ _=>0) ?hf ?_ ?_
 case hf=>rfl
 ·have b2:∀(W:Qm),Qd w W->W.heap[w.heap.size]? =some (.cells #[.bool false,.string ⟨#[]⟩,i6 0] 23 (0,0))->(∃x y z,W.heap[w.heap.size]? =some (.cells #[x,y,z] 23 (0,0))):=fun W _ h=>⟨_,_,_,h⟩
  by_cases hz:s.size=0
  ·have t:Jo neg s exp=(Ko,40):=by unfold Jo;rw[Qe (.inl hz)]
   have HM:=Qc t;clear t;obtain rfl:=Im hz;exact yR
  ·have ab:0<s.size:=oM;have b5:=Ld ab;by_cases h4:400<s.size
   ·have t:Jo neg s exp=(Ko,40):=by unfold Jo;rw[Qe (.inr (.inl h4))]
    have HM:=Qc t;clear t;exact yR
   ·have d7:decide ((400:Int)< (s.size:Int))=false:=by simp;omega
    obtain⟨wi,f⟩:∃r,Kt exp 1000=r:=⟨_,rfl⟩;have dh:=Qc f;have hin:=fun W=>Fg exp 1000 W dM
    rw[f]at hin;cases wi with
    |false=>
     have t:Jo neg s exp=(Ko,40):=by unfold Jo;rw[Qe (.inr (.inr (.inl f)))]
     have HM:=Qc t;clear t f;go_wp2_with(go_at_call 199;refine(hin _).mono ?_;rintro e w1 ⟨rfl,h9⟩;replace h9:=h9.symm;subst h9);refine Ni ?_;exact⟨rfl,rfl,rfl,rfl,Xd,⟨_,_,_,Qb (Qt w _)⟩,HM.out⟩
    |true=>
     have c:=jR s;obtain⟨al,a1⟩:∃r,(Qf s).all Za=r:=⟨_,rfl⟩;rw[a1]at c;have hidc:=fun W=>bW s W
     generalize Lib.idxFunc CO true s=ix at c hidc;cases al with
     |false=>
      have t:Jo neg s exp=(Ko,40):=by unfold Jo;rw[Qe (.inr (.inr (.inr a1)))]
      have HM:=Qc t;have a6:decide (0<=ix)=true:=c;clear t f a1 c;go_wp2_with(first
       | (refine jS ?_)
       | (go_at_call 271;refine(hidc _).mono ?_;rintro e w2 ⟨rfl,hk2⟩))
      refine Ni ?_;exact⟨rfl,rfl,rfl,rfl,Xd,⟨_,_,_,hk2.s (Qb (Qt w _))⟩,HM.out⟩
     |true=>
      have a6:decide (0<=ix)=false:=c;have db: -1000<=exp/\exp<=1000:=by simpa[Kt] using f
      obtain⟨q,d⟩:∃x:Qo,⟨(Lib.trimLeftB s.data.toList 48).toArray⟩=x:=⟨_,rfl⟩;have u:Jo neg s exp=if q.size=0 then(Ju,0)else(if Q2 ⟨neg,⟨(Lib.trimRightB q.data.toList 48).toArray⟩,exp+q.size-(⟨(Lib.trimRightB q.data.toList 48).toArray⟩:Qo).size⟩then(⟨neg,⟨(Lib.trimRightB q.data.toList 48).toArray⟩,exp+q.size-(⟨(Lib.trimRightB q.data.toList 48).toArray⟩:Qo).size⟩,0)else(Ko,40)):=by
       rw[<-d];unfold Jo;rw[Qa];rintro(h|h|h|h)
       ·omega
       ·omega
       ·rw[f]at h;cases h
       ·rw[a1]at h;cases h
      have d6:q.size<=s.size:=by
       rw[<-d];show(Lib.trimLeftB s.data.toList 48).toArray.size<=s.data.size;rw[Gj]
       have:=(aB (p:=fun x:UInt8=>x==48) (l:=s.data.toList)).length_le;simpa[Lib.trimLeftB] using this
      have a7:=fun W=>strings_TrimLeft_one s 48 dM W
      rw[d]at a7;replace u:=Qc u;clear d f a1 c;by_cases a8:q.size=0
      ·obtain rfl:=Im a8;rw[Qe a8]at u;go_wp2_with(first
       | (refine jS ?_)
       | (refine yS ?_;intro w2 hk2 hb2 hd2 c0 d0 hf2 hg2)
       | (go_at_call 272;refine(a7 _).mono ?_;rintro e w3 ⟨rfl,h9⟩;replace h9:=h9.symm;subst h9)
       | (go_at_call 230;refine(Ug _).mono ?_;rintro e w4 ⟨rfl,h9⟩;have a0:w4.heap[w.heap.size]? =_:=h9▸Qb hb2;have b3:Qd w2 w4:=h9▸(Ac.refl _ _).alloc _;have e0:=Q1 a0;have d9:=Jd a0;clear h9 c0 hf2))
       simp only[Exit.jump];have h3:=Qk (Qk (Qk a0 0 (.bool false)) 1 (.string ⟨#[48]⟩)) 2 (i6 0);refine Xs (Oh _ _ w.heap.size Ju 0 rfl rfl h3) rfl ⟨by rw[u.out],?_⟩;have a3:Qd w w4:=Ac.trans (((Ac.refl _ _).alloc _).alloc _) (hk2.trans b3);exact((a3.setCell (p:=(ad w.heap.size 0)) _ (fun o _ _ h=>absurd h (J0 _))).setCell (p:=(ad w.heap.size 1)) _ (fun o _ _ h=>absurd h (J0 _))).setCell (p:=(ad w.heap.size 2)) _ (fun o _ _ h=>absurd h (J0 _))
      ·rw[Qa a8]at u;have aa:0<q.size:=oM;have b0:=Ld aa;obtain⟨m,n⟩:∃x:Qo,⟨(Lib.trimRightB q.data.toList 48).toArray⟩=x:=⟨_,rfl⟩;rw[n]at u;have cc:m.size<=q.size:=by
        rw[<-n];show(Lib.trimRightB q.data.toList 48).toArray.size<=q.data.size;rw[Gj]
        have:=(aB (p:=fun x:UInt8=>x==48) (l:=q.data.toList.reverse)).length_le;simpa[Lib.trimRightB] using this
       have ae:=fun W=>strings_TrimRight_one q 48 dM W oM
       rw[n]at ae;obtain⟨k,a9⟩:∃k:Int,exp+(q.size:Int)-(m.size:Int)=k:=⟨_,rfl⟩;rw[a9]at u;obtain⟨r,hr⟩:=X0 (Q2 ⟨neg,m,k⟩);have ac:=fun W=>Yn ⟨neg,m,k⟩ W (by show m.size<=_;omega)
       rw[hr]at ac u;have b4:exp+(q.size:Int)-(m.size:Int)=k:=a9;clear n hr a9;go_wp2_with(first
       | (refine jS ?_)
       | (refine yS ?_;intro w2 hk2 hb2 hd2 c0 d0 hf2 hg2)
       | (go_at_call 272;refine(a7 _).mono ?_;rintro e w3 ⟨rfl,h9⟩;replace h9:=h9.symm;subst h9)
       | (go_at_call 273;refine(ae _).mono ?_;rintro e w4 ⟨rfl,h9⟩;replace h9:=h9.symm;subst h9)
       | (go_at_call 147;fail))
       have a2:∀(X:Qm) (p:Addr) (v:Q0) (b:Nat),p.block≠b->(X.setCell p v).heap[b]? =X.heap[b]?:=fun X p v b h=>Sg X p v b (fun e=>h e.symm)
       have b1:=Qk (Qk (Qk hd2 0 (.bool neg)) 1 (.string m)) 2 (i6 k);have a0:(((w2.setCell (ad (w.heap.size+1) 0) (.bool neg)).setCell (ad (w.heap.size+1) 1) (.string m)).setCell (ad (w.heap.size+1) 2) (i6 k)).heap[w.heap.size]? =some (.cells #[.bool false,.string ⟨#[]⟩,i6 0] 23 (0,0)):=by
        rw[a2 _ _ _ _ (by show w.heap.size+1≠_;omega),a2 _ _ _ _ (by show w.heap.size+1≠_;omega),a2 _ _ _ _ (by show w.heap.size+1≠_;omega)];exact hb2
       have af:Qd w w2:=Ac.trans (((Ac.refl _ _).alloc _).alloc _) hk2;have ah:Qd w (((w2.setCell (ad (w.heap.size+1) 0) (.bool neg)).setCell (ad (w.heap.size+1) 1) (.string m)).setCell (ad (w.heap.size+1) 2) (i6 k)):=
        ((af.setCell (p:=(ad (w.heap.size+1) 0)) _ (fun o _ _ h=>absurd h (by show¬w.heap.size+1<_;omega))).setCell (p:=(ad (w.heap.size+1) 1)) _ (fun o _ _ h=>absurd h (by show¬w.heap.size+1<_;omega))).setCell (p:=(ad (w.heap.size+1) 2)) _ (fun o _ _ h=>absurd h (by show¬w.heap.size+1<_;omega))
       refine(ac _).mono ?_;rintro e w5 ⟨rfl,a5⟩;have a4:=a5.s a0;have ag:w5.heap[w.heap.size+1]? =some (.cells #[.bool neg,.string m,i6 k] 23 (0,0)):=a5.s b1;have a3:Qd w w5:=ah.trans a5;have e0:=Q1 a4;have g0:=Q1 ag;have c3:=Jd a4;clear c0 d0 hf2 hg2;cases r with
       |true=>
        go_wp2;simp only[Exit.jump];have h3:=Qk (Qk (Qk a4 0 (.bool neg)) 1 (.string m)) 2 (i6 k);refine Xs (Oh _ _ w.heap.size ⟨neg,m,k⟩ 0 rfl rfl h3) rfl ⟨by rw[u.out];rfl,?_⟩;exact((a3.setCell (p:=(ad w.heap.size 0)) _ (fun o _ _ h=>absurd h (J0 _))).setCell (p:=(ad w.heap.size 1)) _ (fun o _ _ h=>absurd h (J0 _))).setCell (p:=(ad w.heap.size 2)) _ (fun o _ _ h=>absurd h (J0 _))
       |false=>
        go_wp2;refine wp_label ?_;go_wp2;simp only[Exit.jump];have h3:=Qk (Qk (Qk a4 0 (.bool false)) 1 (.string ⟨#[]⟩)) 2 (i6 0);refine Xs (Oh _ _ w.heap.size Ko 40 rfl rfl h3) rfl ⟨by rw[u.out];rfl,?_⟩;exact((a3.setCell (p:=(ad w.heap.size 0)) _ (fun o _ _ h=>absurd h (J0 _))).setCell (p:=(ad w.heap.size 1)) _ (fun o _ _ h=>absurd h (J0 _))).setCell (p:=(ad w.heap.size 2)) _ (fun o _ _ h=>absurd h (J0 _))
 ·rintro⟨⟨L⟩,D⟩ w1 ⟨j,hd,h6,hk,⟨x,y,z,hb⟩,t⟩;simp only at hd;subst hd;rcases L with _| ⟨t0,L⟩
  ·simp at j
  rcases L with _| ⟨t1,L⟩
  ·simp at j
  rcases L with _| ⟨t2,L⟩
  ·simp at j
  rcases L with _| ⟨t3,L⟩
  ·simp at j
  rcases L with _| ⟨t4,L⟩
  ·simp at j
  rcases L with _| ⟨t5,L⟩
  ·simp at j
  rcases L with _| ⟨t6,L⟩
  ·simp at j
  rcases L with _| ⟨t7,L⟩
  ·simp at j
  rcases L with _| ⟨t8,L⟩
  ·simp at j
  rcases L with _| ⟨t9,L⟩
  ·simp at j
  rcases L with _| ⟨de,L⟩
  ·simp at j
  rcases L with _| ⟨b9,L⟩
  ·simp at j
  rcases L with _| ⟨d1,L⟩
  ·simp at j
  rcases L with _| ⟨da,L⟩
  ·simp at j
  rcases L with _| ⟨bb,L⟩
  ·simp at j
  rcases L with _| ⟨d5,L⟩
  ·simp at j
  rcases L with _| ⟨ca,L⟩
  ·simp at j
  rcases L with _| ⟨bf,L⟩
  ·simp at j
  rcases L with _| ⟨bd,L⟩
  ·simp at j
  rcases L with _| ⟨f1,L⟩
  ·simp at j
  rcases L with _| ⟨c5,L⟩
  ·simp at j
  rcases L with _| ⟨f0,L⟩
  ·simp at j
  rcases L with _| ⟨c1,L⟩
  ·simp at j
  rcases L with _| ⟨c2,L⟩
  ·simp at j
  rcases L with _| ⟨d8,L⟩
  ·simp at j
  rcases L with _| ⟨dc,L⟩
  ·simp at j
  rcases L with _| ⟨c8,L⟩
  ·simp at j
  rcases L with _| ⟨bh,L⟩
  ·simp at j
  rcases L with _| ⟨c4,L⟩
  ·simp at j
  rcases L with _| ⟨d2,L⟩
  ·simp at j
  rcases L with _| ⟨bg,L⟩
  ·simp at j
  rcases L with _| ⟨b7,L⟩
  ·simp at j
  rcases L with _| ⟨ba,L⟩
  ·simp at j
  rcases L with _| ⟨cd,L⟩
  ·simp at j
  rcases L with _| ⟨b8,L⟩
  ·simp at j
  rcases L with _| ⟨b6,L⟩
  ·simp at j
  rcases L with _| ⟨c9,L⟩
  ·simp at j
  rcases L with _| ⟨bc,L⟩
  ·simp at j
  rcases L with _| ⟨cf,L⟩
  ·simp at j
  rcases L with _| ⟨dd,L⟩
  ·simp at j
  rcases L with _| ⟨cg,L⟩
  ·simp at j
  rcases L with _| ⟨be,L⟩
  ·simp at j
  rcases L with _| ⟨ch,L⟩
  ·simp at j
  rcases L with _| ⟨cb,L⟩
  ·simp at j
  rcases L with _| ⟨c6,L⟩
  ·simp at j
  rcases L with _| ⟨d3,L⟩
  ·simp at j
  rcases L with _| ⟨df,L⟩
  ·simp at j
  rcases L with _| ⟨c7,L⟩
  ·simp at j
  rcases L with _| ⟨ce,L⟩
  ·simp at j
  rcases L with _| ⟨d4,L⟩
  ·simp at j
  rcases L with _| ⟨_,_⟩;rotate_left
  ·simp at j
  obtain rfl:t6=pt w.heap.size:=h6;have c0:=Q1 hb;have dg:=Jd hb;replace t:=Qc t;clear j;go_wp2;simp only[Exit.jump];have h3:=Qk (Qk (Qk hb 0 (.bool false)) 1 (.string ⟨#[]⟩)) 2 (i6 0);refine Xs (Oh _ _ w.heap.size Ko 40 rfl rfl h3) rfl ⟨by rw[t.out],?_⟩;exact((hk.setCell (p:=(ad w.heap.size 0)) _ (fun o _ _ h=>absurd h (J0 _))).setCell (p:=(ad w.heap.size 1)) _ (fun o _ _ h=>absurd h (J0 _))).setCell (p:=(ad w.heap.size 2)) _ (fun o _ _ h=>absurd h (J0 _))
def Mi(s:Qo)(w:Qm):Calls prog 333 #[.string s] w fun e w'=>e=.returned (.func (.func 366) #[] #[.pointer (some ⟨w.heap.size,0,none⟩)])/\w'=w.alloc (.cells #[.string s] 9):=by
 go_in;go_wp2;go_ret;exact⟨rfl,rfl⟩
def Dz(s:Qo)(i:Nat):Qo:=s.extract 0 (s.size-9*i)
def Js(s:Qo)(i:Nat):Qo:=(Dz s i).extract (s.size-9*i-9) (s.size-9*i)
def Kf(s:Qo):Nat:=(s.size+8)/9
def Mj(s:Qo)(i:Nat):(Dz s i).size=s.size-9*i:=by
 unfold Dz;rw[L7];omega
def jT(s:Qo)(i:Nat):(Dz s i).extract 0 (s.size-9*i-9)=Dz s (i+1):=by
 apply E6;unfold Dz;simp only[ZL,Array.extract_extract];congr 1;omega
def jU(s:Qo):Dz s 0=s:=by
 apply E6;unfold Dz;simp only[ZL];show s.data.extract 0 (s.data.size)=s.data;simp
def Qd4{P:Prop}(h:P:=by
 gi_wp2;refine Xs (Dr rfl _ _ _) rfl ?_;exact⟨⟨_,rfl⟩,.inr ⟨k,hlt,hj3,trivial⟩⟩):P:=h
def Oi(s:Qo)(bx:Nat)(Sb Si:Nat->Obj->Prop)(W:Qm)(hs:s.size<=1000000000)(hbx:Boxed W bx 9 (.string s))(hSb:∀c f,Sb bx (.cells c 9 f))(hSi:∀b o,Si b o->b≠bx∨∀c f,o≠ .cells c 9 f):
  Hk prog 366 #[.pointer (some ⟨bx,0,none⟩)] (Kf s) (fun i v _=>v=#[.string (Js s i)]) Sb Si (fun _=>True) (fun _ _=>True) W:=by
 rintro l J Jx a8 hJ b2 hY h0
 obtain⟨r,hl⟩:=a8 0 W h0
 have ac:=J2 hbx.cell hl
 refine Nf func366 rfl trivial ?_ rfl
 simp only[ntmps366]
 refine Ie ?_
 gi_wp2
 gi_loopw [3] (fun nv wr=>∃k:Nat,k<=Kf s/\J k wr/\Boxed wr bx 9 (.string (Dz s k))) (fun nv wr=>match wr.heap[bx]? with|some (.cells #[.string t] _ _)=>t.size|_=>0)
 case atStart=>exact⟨0,Xi _,h0,by rw[jU];exact hbx⟩
 case round=>
  obtain⟨k,hk,hj,q⟩:=hrel;have hc:=q.cell;have a9:=Jd q;have u:=Mj s k;have z:=jT s k;have j:Js s k=(Dz s k).extract (s.size-9*k-9) (s.size-9*k):=rfl;by_cases hlt:k<Kf s
  ·have a1:0<s.size-9*k:=by unfold Kf at hlt;omega
   obtain⟨fn,ah,a2,ag,hy,hR⟩:=hY k _ wr hlt hj rfl;obtain⟨t,ht⟩:=X0 (Dz s k);obtain⟨g,hg⟩:=X0 (Js s k);obtain⟨m,hm⟩:=X0 (s.size-9*k);obtain⟨n,hn⟩:=X0 (m-9);obtain⟨p,x⟩:=X0 (Dz s (k+1));rw[ht]at hc q u z j;rw[hg]at hy j;rw[hm]at u z j a1;rw[hn]at z j;rw[x]at z;have af:=Ld (s:=t) oM;have b0:max (0:Int) ((m:Int)-9)=(n:Int):=oM;have b3:(t.size:Int)=(m:Int):=oM;have a0:=Qc x;have a3:=Qc u;have HM:=Qc hm;have b4:n<=m:=oM;have b5:m<=1000000000:=oM;rw[j]at hy;clear j ht hg hm hn x;gi_wp2;refine hR.mono ?_;rintro e W3 ⟨a4,(⟨rfl,hj3⟩| ⟨rfl,hj3⟩)⟩
   ·have y:=a4.boxed q ⟨ac,hSb _ _⟩;have b1:=y.cell;have ae:=Jd y;clear hc a9;gi_wp2;have d:=y.set (.string p);have ab:J (k+1) (W3.setCell (ad bx 0) (.string p)):=hJ _ _ _ hj3 ((Ac.refl _ _).setCell _ fun o ho hs _=>by
     have aa:=hSi _ _ hs;have a7:W3.heap[bx]? =some (.cells #[_] 9 (0,0)):=y;rw[show((ad bx 0):Addr).block=bx from rfl,a7]at ho;cases ho;rcases aa with h|h
     ·exact h rfl
     ·exact h _ _ rfl)
    refine⟨?_,?_⟩
    ·(repeat apply Exists.intro);refine⟨?_,rfl⟩;exact⟨k+1,oM,ab,by rw[a0.out];exact d⟩
    ·have a6:wr.heap[bx]? =some (.cells #[.string t] 9 (0,0)):=q;have a5:(W3.setCell (ad bx 0) (.string p)).heap[bx]? =some (.cells #[.string p] 9 (0,0)):=d;rw[a6,a5];show p.size<t.size
     have:=Mj s (k+1);rw[a0.out]at this;rw[this,a3.out]
     have:=HM.out;omega
   ·exact Qd4
  ·obtain rfl:k=Kf s:=oM;have hz:(Dz s (Kf s)).size=0:=by rw[u];unfold Kf;omega
   have he:=Im hz;rw[he]at hc;gi_wp2;go_end0;exact⟨⟨_,rfl⟩,.inl ⟨hj,trivial⟩⟩
def EF:∀l:Qv,l.all Za=true->valOf l<10^l.length
 | [],_=>by simp[valOf]
 |c::l,h=>by
  simp only[Il,X1]at h;have ih:=EF l h.2;have j:c-48<=9:=by have:=h.1;simp[Za]at this;omega
  have e:valOf (c::l)=(c-48)*10^l.length+valOf l:=by
   have:=Cg l (c-48);unfold valOf at this|-;simp only[Ue,Ex,Z3];exact this
  rw[e,Xf,Gb];have:(c-48)*10^l.length<=9*10^l.length:=FT _ j;omega
def I5:∀(l:List UInt8) (a:Nat),(l.map (·.toNat)).all Za=true->(l.map (·.toNat)).foldl (fun v c=>10*v+(c-48)) a<=999999999->
  Lib.parseUintM 4294967295 a l=.ok ((l.map (·.toNat)).foldl (fun v c=>10*v+(c-48)) a)
 | [],a,_,ha=>by simp[Lib.parseUintM]
 |c::l,a,h,ha=>by
  simp only[Zy,Il,X1]at h;have hc:48<=c.toNat/\c.toNat<=57:=by simpa[Za] using h.1
  have j:10*a+(c.toNat-48)<=(l.map (·.toNat)).foldl (fun v c=>10*v+(c-48)) (10*a+(c.toNat-48)):=by
   rw[Cg];exact Qj (Mc _ (Hn dM)) (Nat.le_add_right _ _)
  simp only[Zy,Ue]at ha|-;unfold Lib.parseUintM;rw[Qe hc,Qa oM,Qa oM,Jj a 10];exact I5 l _ h.2 ha
def Mk(g:Qo)(h1:1<=g.size)(h9:g.size<=9)(h:(Qf g).all Za=true):Lib.parseUintB 32 g.data.toList=.ok (valOf (Qf g))/\valOf (Qf g)<LB:=by
 have j:=EF _ h;rw[Q9]at j;have q:10^g.size<=10^9:=Rj dM h9;have v:valOf (Qf g)<1000000000:=Cf j q;refine⟨?_,v⟩;unfold Lib.parseUintB;rw[Qa (by
  intro e;have:g.size=0:=by show g.data.size=0;rw[<-aA,e];rfl
  omega)]
 exact I5 g.data.toList 0 h (by show valOf (Qf g)<=_;omega)
def S4{i j x:Nat}(h:x∈Qf (s.extract i j)):x∈Qf s:=by
 unfold Qf at h|-;obtain⟨c,q,rfl⟩:=Xq.1 h;refine Xq.2 ⟨c,?_,rfl⟩;rw[ZL,Array.toList_extract,List.extract_eq_take_drop]at q;exact List.mem_of_mem_drop (LY q)
def Fn(s:Qo)(i:Nat)(h:(Qf s).all Za=true):(Qf (Js s i)).all Za=true:=by
 rw[Vf]at h|-;intro x hx;exact h x (S4 (S4 hx))
def Ml(s:Qo)(i:Nat)(h:i<Kf s):1<=(Js s i).size/\(Js s i).size<=9:=by
 have j:=Mj s i;unfold Kf at h;unfold Js;rw[L7,j];omega
def Zu(s:Qo):Qv:=(List.range (Kf s)).map fun i=>valOf (Qf (Js s i))
def Ki(s:Qo):Qv:=Jf (Zu s)
def Oj(s:Qo)(i:Nat)(h:i<Kf s):(Zu s).take (i+1)=(Zu s).take i++[valOf (Qf (Js s i))]:=by
 have j:(Zu s).length=Kf s:=by simp[Zu]
 rw[Es _ _ oM];congr 2;unfold Zu Zi;rw[K9,CV,List.getElem?_range h];rfl
def Mm(s:Qo)(h:(Qf s).all Za=true):∀x∈Zu s,x<LB:=by
 intro x hx;obtain⟨i,j,rfl⟩:=Xq.1 hx
 have:=Ml s i (Vw.1 j);exact(Mk _ this.1 this.2 (Fn s i h)).2
def Ok(a b:Qo):Qv × Int:=if Xb (Qf a)&&Xb (Qf b)then C6 (EX (Ki a) (Ki b))else([],10)
def XC(a b:Qo):Qv × Int:=if Xb (Qf a)&&Xb (Qf b)then C6 (NK (Ki a) (Ki b))else([],10)
def rZ(x:Qo)(w:Qm):Calls prog 351 #[.string x] w fun e w'=>e=.returned (.bool false)/\w'=w:=by
 go_in;go_wp2;go_ret;exact⟨sM,rfl⟩
def cmpB(x y:Qo):Int:=if Op.bytesLess x.toList y.toList then-1 else if x.toList==y.toList then 0 else 1
def Qd5(x y:Qo)(w:Qm):Calls prog 304 #[.string x,.string y] w fun e w'=>e=.returned (.int .i64 (cmpB x y))/\w'=w:=by
 obtain⟨l,z⟩:=X0 (Op.bytesLess x.toList y.toList);obtain⟨q,m⟩:=X0 (x.toList==y.toList);have j:cmpB x y=if l then-1 else if q then 0 else 1:=by unfold cmpB;rw[z,m]
 replace j:=Qc j;go_in;go_wp2_with(go_at_call 351;refine(rZ _ _).mono ?_;rintro e n ⟨rfl,v⟩;replace v:=v.symm;subst v);all_goals go_ret
 all_goals exact⟨by rw[j.out];simp_all,rfl⟩
abbrev Ol(h g:Hd)(lv mv:Q0):Kb:=[.int .i64 h.kind,.bool h.b,.bool h.d.neg,.string h.d.digits,.int .i64 h.d.exp,.int .u64 h.u,.int .i64 h.w,.string h.s,lv,.int .i64 g.kind,.bool g.b,.bool g.d.neg,.string g.d.digits,.int .i64 g.d.exp,.int .u64 g.u,.int .i64 g.w,.string g.s,mv]
abbrev bX(h g:Hd)(lv mv:Q0):Q0:=.agg #[.int .i64 h.kind,.bool h.b,.bool h.d.neg,.string h.d.digits,.int .i64 h.d.exp,.int .u64 h.u,.int .i64 h.w,.string h.s,lv,.int .i64 g.kind,.bool g.b,.bool g.d.neg,.string g.d.digits,.int .i64 g.d.exp,.int .u64 g.u,.int .i64 g.w,.string g.s,mv]
def Om:Qo:=⟨#[49]⟩
def prodM(s t:Qo):Qo × Bool:=
 if(Ok Om s).2≠0 then(⟨#[]⟩,false)
 else if(Ok (Xh (Ok Om s).1) t).2≠0 then(⟨#[]⟩,false)
 else(Xh (Ok (Xh (Ok Om s).1) t).1,true)
def jV(sign exp frac:Nat):Dc × Int:=
 let z:=Lib.ctz 64 frac
 let e:Int:=(max exp 1:Nat)-1075+(z:Int)
 let p:=powerM (if e<0 then 5 else 2) (max e (-e))
 if p.2≠0 then(Ko,40)else
 let q:=prodM (Xw (frac>>>z)) (Xh p.1)
 if q.2=false then(Ko,40)else Jo (decide (sign=1)) q.1 (if e<0 then e else 0)
def jW(b:Nat):Nat:=if 0<b>>>52&&&2047 then(b&&&Qw 52)|||2^52 else b&&&Qw 52
def CP(b:Nat):Dc × Int:=
 if b>>>52&&&2047=2047 then(Ko,50)
 else if jW b=0 then(Ju,0)
 else jV (b>>>63&&&1) (b>>>52&&&2047) (jW b)
def I6(n:Int):Qo:=⟨(List.replicate n.toNat (48:UInt8)).toArray⟩
def G9(d:Dc):Qo:=
 let n:Int:=d.digits.size+d.exp
 if Kt d.exp 20=false then d.digits++⟨#[101]⟩++⟨(Lib.itoa d.exp).toArray⟩
 else if 0<=d.exp then d.digits++I6 d.exp
 else if 0<n then d.digits.extract 0 n.toNat++⟨#[46]⟩++d.digits.extract n.toNat d.digits.size
 else⟨#[48,46]⟩++I6 (-n)++d.digits
def Z2(d:Dc):Qo × Int:=if Q2 d then((if d.neg then⟨#[45]⟩else⟨#[]⟩)++G9 d,0)else(⟨#[]⟩,40)
def Xp(l:Qp)(i:Nat):Aa:=l.getD i (.node (Qh 0) [])
def Hq(t:Aa):Bool × Qo × Bool:=
 if t.hd.kind=3 then((Z9 t.hd.d).1,Xw (Z9 t.hd.d).2.1,(Z9 t.hd.d).2.2)
 else if t.hd.kind≠9∨(t.hd.u≠2/\t.hd.u≠3)∨t.l.length≠1∨(Xp t.l 0).hd.kind≠6 then(false,⟨#[]⟩,false)
 else
  let s:=V2 (Qf (Xp t.l 0).hd.s)
  if s.2≠0 then(false,⟨#[]⟩,false)
  else if t.hd.u=3 then
   (if(XC (Xh s.1) Om).2≠0 then(false,⟨#[]⟩,false)else(true,Xh (XC (Xh s.1) Om).1,true))
  else(false,Xh s.1,true)
def Hr(t:Aa):Dc × Bool:=
 if t.hd.u≠4∨t.l.length≠1∨(Xp t.l 0).hd.kind≠7∨(Xp t.l 0).l.length≠2 then(Ko,false)
 else
  let x:=Xp (Xp t.l 0).l 0
  let y:=Xp (Xp t.l 0).l 1
  if x.hd.kind≠3∨(Z9 x.hd.d).2.2=false∨(Hq y).2.2=false∨1000< (Z9 x.hd.d).2.1 then(Ko,false)
  else
   let r:=Jo (Hq y).1 (Hq y).2.1 (if(Z9 x.hd.d).1 then-((Z9 x.hd.d).2.1:Int)else((Z9 x.hd.d).2.1:Int))
   (r.1,decide (r.2=0))
def D0(h:Hd):Dc × Bool:=
 if(Kx h.u h.w).2≠0 then(Ko,false)else((CP (Kx h.u h.w).1).1,decide ((CP (Kx h.u h.w).1).2=0))
def Zw(ofExt:Hd->Dc × Bool)(t:Aa):Dc × Bool:=
 if t.hd.kind=3 then(t.hd.d,Q2 t.hd.d)
 else if t.hd.kind=4 then D0 t.hd
 else if t.hd.kind=9 then Hr t
 else if t.hd.kind=11 then ofExt t.hd
 else(Ko,false)
def yT:Qo:=⟨#[116,114,117,101]⟩
def jX:Qo:=⟨#[102,97,108,115,101]⟩
def yU:Qo:=⟨#[110,117,108,108]⟩
def Kl(t:Aa):Aa:=.node (Qh 8) [t,.node (Qh 1) []]
def V5(h:Hd):Qo:=
 if h.kind=3 then(Z2 h.d).1
 else if h.kind=2 then(if h.b then yT else jX)
 else if h.kind=1 then yU
 else if h.kind=6 then Xh (He (Qf h.s)).1
 else h.s
def Xe(t:Aa):Qo × Bool:=
 if Q5 (Kl t) 2≠0 then(⟨#[]⟩,false)
 else if 400< (V5 t.hd).size then(⟨#[]⟩,false)else(V5 t.hd,true)
def FO(x y:Qo × Aa):Bool:= !decide (cmpB y.1 x.1<0)
def Jg(l:List (Qo × Aa)):Qp:=(l.mergeSort FO).flatMap fun x=>[.node (Xy x.1) [],x.2]
def Rb(d:Dc):Aa:=.node {Qh 3 with d:=d} []
def On(s:Qo):Aa × Nat:=(.node (Xy (Xh (He (Qf s)).1)) [],if s.size<=400 then 0 else 1)
variable(X:Hd->Dc × Bool)
mutual
def Aa.proj:Aa->Aa × Nat
 | .node h l=>
  if(Zw X (.node h l)).2 then(Rb (Zw X (.node h l)).1,0)
  else if h.kind=2∨h.kind=5 then(.node h l,0)
  else if h.kind=6 then On h.s
  else if h.kind=11 then On (De h)
  else if h.kind=9 then Y6 l
  else if h.kind=7 then(.node (Qh 7) (Zc l).1,(Zc l).2)
  else if h.kind=8 then(.node (Qh 8) (Jg (X8 l []).1),(X8 l []).2)
  else(.node (Qh 1) [],0)
def Y6:Qp->Aa × Nat
 | []=>(.node (Qh 0) [],0)
 |x::_=>x.proj
def Zc:Qp->Qp × Nat
 | []=>([],0)
 |x::l=>(x.proj.1::(Zc l).1,max x.proj.2 (Zc l).2)
def X8:Qp->List Qo->List (Qo × Aa) × Nat
 |k::x::l,seen=>
  if(Xe k).2=false∨seen.contains (Xe k).1 then([],max x.proj.2 2)
  else(((Xe k).1,x.proj.1)::(X8 l ((Xe k).1::seen)).1,max x.proj.2 (X8 l ((Xe k).1::seen)).2)
 |_,_=>([],0)
end
def Q8(t:Aa)(form:Int):Aa × Int:=
 if Q5 t form≠0 then(.node (Qh 0) [],Q5 t form)
 else if(t.proj X).2≠0 then(.node (Qh 0) [],Uq (t.proj X).2)
 else if Q5 (t.proj X).1 2=60 then(.node (Qh 0) [],60)
 else((t.proj X).1,0)
def C7(neg:Bool)(s:Qo)(e:Int)(h:(Jo neg s e).2=0):Q2 (Jo neg s e).1=true:=by
 unfold Jo at h|-;by_cases q:s.size=0∨400<s.size∨Kt e 1000=false∨(Qf s).all Za=false
 ·rw[Qe q]at h;cases h
 ·rw[Qa q]at h|-;dsimp only at h|-;split at h
  ·rename_i j;rw[Qe j];decide
  ·rename_i j;rw[Qa j];split at h
   ·rename_i v;rw[Qe v];exact v
   ·cases h
def RE(b:Nat)(h:(CP b).2=0):Q2 (CP b).1=true:=by
 unfold CP at h|-;by_cases j:b>>>52&&&2047=2047
 ·rw[Qe j]at h;cases h
 ·rw[Qa j]at h|-;by_cases y:jW b=0
  ·rw[Qe y];decide
  ·rw[Qa y]at h|-;unfold jV at h|-;dsimp only at h|-;generalize powerM _ _=p at h|-;by_cases v:p.2≠0
   ·rw[Qe v]at h;exact absurd h dM
   ·rw[Qa v]at h|-;generalize prodM _ _=q at h|-;by_cases z:q.2=false
    ·rw[Qe z]at h;exact absurd h dM
    ·rw[Qa z]at h|-;exact C7 _ _ _ h
def XD(hX:∀h,(X h).2=true->Q2 (X h).1=true)(t:Aa)(h:(Zw X t).2=true):Q2 (Zw X t).1=true:=by
 unfold Zw at h|-;by_cases q:t.hd.kind=3
 ·rw[Qe q]at h|-;exact h
 ·rw[Qa q]at h|-;by_cases y:t.hd.kind=4
  ·rw[Qe y]at h|-;unfold D0 at h|-;by_cases z:(Kx t.hd.u t.hd.w).2≠0
   ·rw[Qe z]at h;cases h
   ·rw[Qa z]at h|-;exact RE _ (Zo h)
  ·rw[Qa y]at h|-;by_cases v:t.hd.kind=9
   ·rw[Qe v]at h|-;unfold Hr at h|-;split at h
    ·cases h
    ·rename_i m;rw[Qa m];dsimp only at h|-;split at h
     ·cases h
     ·rename_i n;rw[Qa n];exact C7 _ _ _ (Zo h)
   ·rw[Qa v]at h|-;by_cases j:t.hd.kind=11
    ·rw[Qe j]at h|-;exact hX _ h
    ·rw[Qa j]at h;cases h
def yV(s:Qo):(On s).2<=2:=by
 show(if s.size<=400 then 0 else 1)<=2;split<;>omega
mutual
def Aa.AP(X:Hd->Dc × Bool):∀t:Aa,(t.proj X).2<=2
 | .node h l=>by
  rw[Aa.proj];have h1:=yW X l;have q:=bY X l;have j:=bZ X l [];repeat' split
  all_goals first|exact Xi _|exact yV _|assumption
def yW(X:Hd->Dc × Bool):∀l:Qp,(Y6 X l).2<=2
 | []=>by rw[Y6];exact Xi _
 |x::l=>by rw[Y6];exact Aa.AP X x
def bY(X:Hd->Dc × Bool):∀l:Qp,(Zc X l).2<=2
 | []=>by rw[Zc];exact Xi _
 |x::l=>by
  have h1:=Aa.AP X x;have j:=bY X l;rw[Zc];show max _ _<=2;omega
def bZ(X:Hd->Dc × Bool):∀(l:Qp) (seen:List Qo),(X8 X l seen).2<=2
 | [],seen=>by rw[X8];exact Xi _;intro k x l h;cases h
 | [_],seen=>by rw[X8];exact Xi _;intro k x l h;cases h
 |k::x::l,seen=>by
  have h1:=Aa.AP X x;have j:=bZ X l ((Xe k).1::seen);rw[X8];split
  ·show max _ _<=2;omega
  ·show max _ _<=2;omega
end
end Go.Tm
namespace Go.Tm
open Go.Proofs Go.RowKit Go.Sort Go.Proofs.Tryz
def I7:=@Bool.false_eq_true
def Nk:=@if_false
def oU:=@Array.toList_inj
def I8:=@List.mergeSort_perm
def jY:=@List.pairwise_iff_getElem
def RF:=@List.pairwise_mergeSort
def XE(x y:Qo):Bool:=decide (cmpB x y<0)
def RG(x y:Qo):XE x y=decide (x.toList<y.toList):=by
 unfold XE cmpB;rw[bytesLess_eq];by_cases h:x.toList<y.toList
 ·simp[h]
 ·simp only[h,decide_false,I7,Nk];split<;>simp
def Oo:SWO XE where
 irrefl x:=by rw[RG];simp[List.lt_irrefl]
 trans x y z h1 h2:=by rw[RG]at*;simp only[Zz]at*;exact List.lt_trans h1 h2
 ntrans x y z h1 h2:=by
  rw[RG]at*
  simp only[Rg,List.not_lt]at*
  exact List.le_trans h2 h1
def cB{x y:Qo}(h1:XE x y=false)(h2:XE y x=false):x=y:=by
 rw[RG]at h1 h2;simp only[Rg,List.not_lt]at h1 h2
 have:=List.le_antisymm h2 h1;rw[Hx,Hx]at this;apply E6;exact oU.1 this
def jZ{β:Type}{l:List (Qo × β)}(h:l.Pairwise fun x y=>x.1≠y.1){a b:Qo × β}(ha:a∈l)(hb:b∈l)(he:a.1=b.1):a=b:=by
 induction l with
 |nil=>cases ha
 |cons x l ih=>
  rw[LP]at h;rcases Xg.1 ha with rfl|q
  ·rcases Xg.1 hb with e|j
   ·exact e.symm
   ·exact absurd he (h.1 b j)
  ·rcases Xg.1 hb with rfl|j
   ·exact absurd he.symm (h.1 a q)
   ·exact ih h.2 q j
def Qfq{P:Prop}(h:P:=by
 have h1':XE b.1 a.1=false:=by simpa[FO,XE] using h1
 have h2':XE c.1 b.1=false:=by simpa[FO,XE] using h2
 show(!XE c.1 a.1)=true;rw[Oo.ntrans _ _ _ h2' h1'];rfl):P:=h
def yX{P:Prop}(h:P:=by
 show((!XE b.1 a.1)||(!XE a.1 b.1))=true;cases h:XE b.1 a.1 with
 |false=>rfl
 |true=>rw[Oo.asymmA h];rfl):P:=h
def sA{α:Type}[Inhabited α](f:α->Qo × Aa)(d d':Array α)(hp:PermIn 0 d.size d d')(hs:SortedIn (fun x y=>XE (f x).1 (f y).1) 0 d.size d')(hd:(d.toList.map f).Pairwise fun x y=>x.1≠y.1):
  d'.toList.map f=(d.toList.map f).mergeSort FO:=by
 obtain⟨p,a0,q⟩:=hp
 have v:d'.toList.Perm d.toList:=by
  have e1:d'.extract 0 d.size=d':=by rw[<-p];exact Array.extract_size
  rw[e1,Array.extract_size]at q;exact q
 have m:(d'.toList.map f).Perm (d.toList.map f):=v.map f
 refine List.Perm.eq_of_pairwise (le:=fun x y=>FO x y=true) ?_ ?_ ?_ (m.trans (I8 _ _).symm)
 ·intro a b ha hb h1 h2;have u:=m.mem_iff.1 ha;have k:=(I8 _ _).mem_iff.1 hb;refine jZ hd u k (cB ?_ ?_)
  ·simpa[FO,XE] using h2
  ·simpa[FO,XE] using h1
 ·rw[jY];intro i j hi hj r;have n:i<d'.size:=by simpa using hi
  have t:j<d'.size:=by simpa using hj
  have:=hs i j (Xi _) r oM;rw[Eu d' j t,Eu d' i n]at this;have z:XE (f d'[j]).1 (f d'[i]).1=false:=this;simp only[Of,Array.getElem_toList];show(!XE (f d'[j]).1 (f d'[i]).1)=true;rw[z];rfl
 ·refine RF ?_ ?_ _
  ·intro a b c h1 h2;exact Qfq
  ·intro a b;exact yX
end Go.Tm
namespace Go.Tm
open Go.Proofs Go.RowKit Go.Proofs.Tryz
variable{W w w' w1:Qm}{B N b k n size:Nat}{v v':Q0}{xs ys:Kb}{s:Qo}{K:Nat->Obj->Prop}{E:Am}{f:Int}{t:Aa}{h:Hd}{S:Qz}{l:Qp}
def oV:=@Bool.true_eq_false
def Kp:=@decide_eq_true
def Mn:=@wpListIn_append_own
def Fo:=@List.map_take
def U1:=@roundsIn_succ
def BE:=@if_true
def I9:=@Nat.lt_trans
def Z4:=@decide_eq_false
def oW:=@List.length_eq_one_iff
def U2(x y:Qv):Xh (x++y)=Xh x++Xh y:=by
 apply E6;simp[Xh,ByteArray.data_append]
def Hc(b:Bool):Qv:=if b then[45]else[]
def Qgr(d:Dc)(h:Q2 d=true)(h0:0<=d.exp)(h20:d.exp<=20):Z2 d=(Xh (Hc d.neg++Qf (d.digits++I6 d.exp)),0):=by
 unfold Z2;rw[Qe h];have j:Kt d.exp 20=true:=by unfold Kt;simp;omega
 have e:G9 d=d.digits++I6 d.exp:=by
  unfold G9;simp only[j,oV,Nk,Qe h0]
 rw[e,U2,Ym];congr 2;cases d.neg<;>rfl
def Qd6{P Q:Prop}(h:Q)(f:Wz Q->P:=by
 intro zz;have hbx1:=hk1.same w.heap.size _ (Qt w _) trivial;have hkw1:Qd w w1:=Xd;have hlt1:=Qg hbx1;have hbx2:=Qb (o:=.cells #[.pointer none,.slice none 0 0] 118) hbx1;have hB0:EU w1.heap.size w1.heap.size [] (w1.alloc (.cells #[.pointer none,.slice none 0 0] 118)):=.inl ⟨Q6 _,.slice none 0 0,Qt _ _,Yz _ _ _ _,by simp[Value.ownBlock]⟩;have hkw2:Qd w (w1.alloc (.cells #[.pointer none,.slice none 0 0] 118)):=hkw1.alloc _;have hz2:w1.heap.size<=(w1.alloc (.cells #[.pointer none,.slice none 0 0] 118)).heap.size:=sM;revert hbx1 hkw1 hlt1 hbx2 hB0 hkw2 hz2;exact zz.o):P:=f ⟨h⟩
def U3(d:Dc)(w:Qm)(hs:d.digits.size<=1099511627776)(h:Q2 d=true)(h0:0<=d.exp)(h20:d.exp<=20):
  Calls prog 123 #[FY d] w fun e w'=>e=.returned (.tuple #[.string (Z2 d).1,.int .i64 (Z2 d).2])/\Qd w w':=by
 have a0:=fun W=>Yn d W hs
 rw[h]at a0
 have a7:=fun W=>Fg d.exp 20 W dM
 have hw:Kt d.exp 20=true:=by unfold Kt;simp;omega
 rw[hw]at a7
 have HR:=Qc (Qgr d h h0 h20)
 have t:=fun W=>DX d.exp W h0 oM
 obtain⟨k,z⟩:∃k:Qo,I6 d.exp=k:=⟨_,rfl⟩
 have af:k.size<=20:=by
  rw[<-z];show(List.replicate d.exp.toNat (48:UInt8)).toArray.size<=20;simp;omega
 have m:(⟨(List.replicate d.exp.toNat (48:UInt8)).toArray⟩:Qo)=k:=z
 rw[m]at t
 rw[z]at HR
 clear z m hw h
 obtain⟨ab,dg,ex⟩:=d
 simp only at*
 have ae:decide ((0:Int)<=ex)=true:=Kp h0
 go_in
 go_wp2_with fail
 refine(a0 _).mono ?_
 rintro e w1 ⟨rfl,hk1⟩
 refine Qd6 ?_
 intro hbx1 hkw1 hlt1 hbx2 hB0 hkw2 hz2
 generalize ah:w1.heap.size=bb at hB0 hz2 hlt1
 have ag:w.heap.size<=bb:=by have:=hkw1.size;omega
 obtain⟨c0,c1,c2⟩:=Q1 hbx2
 cases ab
 focus
  go_wp2_with fail
  generalize(w1.alloc _)=w3 at hB0 hbx2 hkw2 hz2 c0 c1 c2|-
  have p:(Hc false).length<=1:=dM
  have v:∀x∈(Hc false),x<256:=dM
  have j:EU bb bb (Hc false) w3:=hB0
  generalize(Hc false)=xs at p v j HR
 rotate_left
 focus
  go_wp2_with fail
  refine(Ks bb bb 45 [] _ hB0 dM hz2).mono ?_
  rintro e w3 ⟨rfl,j,y⟩
  replace hbx2:=y.same _ _ hbx2 ⟨oM,.inl hlt1⟩
  replace hkw2:Qd w w3:=Ho hkw2 y fun b o hb=>(by have:=Qg hb;exact⟨oM,.inl oM⟩)
  replace hz2:=Qj hz2 y.size
  clear hB0 c0 c1 c2 y
  obtain⟨c0,c1,c2⟩:=Q1 hbx2
  go_wp2_with fail
  have p:(Hc true).length<=1:=dM
  have v:∀x∈(Hc true),x<256:=dM
  replace j:EU bb bb (Hc true) w3:=j
  generalize(Hc true)=xs at p v j HR
 all_goals
  refine(a7 _).mono ?_
  rintro x w4 ⟨rfl,h9⟩
  replace h9:=h9.symm
  subst h9
  go_wp2_with fail
  refine(Vd (n:=0)).1 ?_
  refine gR (n:=0) hbx2 ?_
  repeat refine sX ?_
  refine Kd rfl rfl ?_
  intro K hK
  go_simp
  refine(Qr (t _)).mono ?_
  rintro x w5 ⟨rfl,q⟩
  have u:=q.s hbx2
  have a4:EU bb bb xs w3.drew:=j
  have ad:=V1 a4 q (fun c f=>trivial) (fun g c f _ _=>trivial)
  have a6:Qd w w5:=hkw2.drew.trans q
  have a1:bb<=w5.heap.size:=Qj hz2 q.size
  refine hK _ _ u ?_
  clear hK K
  have a3:¬9223372036854775807<dg.size+k.size:=oM
  repeat refine sX ?_
  clear a3
  refine Kd rfl rfl ?_
  intro K hK
  go_simp
  refine(Qr (Ke bb bb (dg++k) xs _ ad (by rw[Nw];omega) a1)).mono ?_
  rintro x w6 ⟨⟨v6,rfl⟩,a9,r⟩
  have a8:=r.same _ _ u ⟨oM,.inl hlt1⟩
  have a5:Qd w w6:=Ho a6 r fun b o hb=>(by have:=Qg hb;exact⟨oM,.inl oM⟩)
  have ac:bb<=w6.heap.size:=Qj a1 r.size
  refine hK _ _ a8 ?_
  clear hK K
  refine Jc ?_
  go_wp2_with fail
  refine(J4 bb bb (xs++Qf (dg++k)) w6 a9 (fun x hx=>(Kn.1 hx).elim (v x) (Yj _ x)) ac).mono ?_
  rintro x w7 ⟨rfl,aa⟩
  have a2:Qd w w7:=Ho a5 aa fun b o hb=>(by have:=Qg hb;exact .inl oM)
  go_wp2_with fail
  go_ret2
  exact⟨by rw[HR.out];rfl,a2⟩
def sB(B b:Nat):Nat->Obj->Prop:=fun k o=>k≠b/\(k<B∨∀c f,o≠ .cells c 236 f)
def IA{tmp:Obj}
  (hv:Boxed W b 288 v)(hrow:W.ownsRow B 236 1 v k xs)(hB:B<=W.heap.size)(hBb:B<=b)
  (hown':w1.ownsRow B 236 1 v' n ys)(hgrow:(W.alloc tmp).grownBy w1 v.ownBlock):
  Boxed w1 b 288 v/\Boxed (w1.setCell ⟨b,0,none⟩ v') b 288 v'/\(w1.setCell ⟨b,0,none⟩ v').ownsRow B 236 1 v' n ys/\Ac (sB B b) W (w1.setCell ⟨b,0,none⟩ v'):=by
 obtain⟨u,z,h3,_,_⟩:=Boxed.appended hv dM hrow hB hBb hown' hgrow
 refine⟨u,z,h3,?_⟩
 have z:Ac (sB B b) W (W.alloc tmp):=(Ac.refl _ W).alloc tmp
 have h3:Ac (sB B b) W w1:=z.grown hgrow fun r y o' ho hs _=>by
  rcases hrow.2 with⟨rfl,_⟩| ⟨g,m,q,rfl,c,j,_⟩
  ·simp[Value.ownBlock]at y
  ·simp[Value.ownBlock]at y;subst y;have:(W.alloc tmp).heap[g]? =some (.cells q 236 (0,0)):=(NH W tmp g (Qg j)).trans j;exact wQ
 exact gZ
def Jm(h:Xb (Qf s)=true):(Qf s).all Za=true/\s.size<=400/\0<s.size:=by
 unfold Xb at h;simp only[X1,FA,List.isEmpty_eq_false_iff,Zz]at h;obtain⟨⟨⟨j,z⟩,y⟩,q⟩:=h;have v:=Q9 s;refine⟨q,oM,?_⟩;rcases N9 s.size with h|h
 ·exact absurd (CW.1 oM) j
 ·exact h
def D4{t:TypeId}(h:w.ownsRow B t size v n xs)(hk:Qd w w'):w'.ownsRow B t size v n xs:=by
 refine⟨h.1,?_⟩;rcases h.2 with h| ⟨g,z,q,u,m,y,j⟩
 ·exact .inl h
 ·exact .inr ⟨g,z,q,u,m,hk.s y,j⟩
def C8{t:TypeId}(h:w.ownsRow B t size v n xs)(hk:Ac K w w')(hK:∀g cur,B<=g->w.heap[g]? =some (.cells cur t (0,0))->K g (.cells cur t (0,0))):w'.ownsRow B t size v n xs:=by
 refine⟨h.1,?_⟩;rcases h.2 with h| ⟨g,y,cur,m,z,j,q⟩
 ·exact .inl h
 ·exact .inr ⟨g,y,cur,m,z,hk.same _ _ j (hK _ _ z j),q⟩
def Bi(w:Qm)(v:Q0)(l:Qv):Prop:=Ao w v l/\∀b i o n c,v=.slice (some ⟨b,i,o⟩) n c->∃cur f,w.heap[b]? =some (.cells cur 236 f)
def Bi.Af{l:Qv}(h:Bi w v l)(hk:Ac K w w')(hK:∀b cur f,w.heap[b]? =some (.cells cur 236 f)->K b (.cells cur 236 f)):Bi w' v l:=by
 obtain⟨⟨k,x,a,y,rfl,t,d⟩,m⟩:=h;refine⟨⟨k,x,a,y,rfl,t,fun i u=>?_⟩,?_⟩
 ·obtain⟨b,z,e,q⟩:=d i u;subst e;obtain⟨cur,f,j⟩:=m _ _ _ _ _ rfl;refine⟨b,z,rfl,?_⟩;unfold World.cell? at q|-;simp only at q|-;rw[j]at q;rw[hk.same _ _ j (hK _ _ _ j)];exact q
 ·intro b i o n c e;obtain⟨cur,f,j⟩:=m _ _ _ _ _ e;exact⟨cur,f,hk.same _ _ j (hK _ _ _ j)⟩
def Qfr{B n l1 c1 k:Nat}{a:Jr}{l:Qv}(ho:W.ownsRow B 236 1 (.slice a l1 c1) n xs)(hL:Ao W (.slice a k k) l):Bi W (.slice a k k) l:=by
 refine⟨hL,?_⟩;intro b i o n' c e;cases e;rcases ho.2 with⟨h,_⟩| ⟨g,v,j,h,_,q,_⟩
 ·cases h
 ·cases h;exact⟨j,(0,0),q⟩
def U4:(prog.info? 288).map (fun i=>(i.zero,i.size,i.bytes))=some (some (.slice none 0 0),1,24):=by kernel_rfl
def Lj(l:Qv)(a:Jr)(cap:Nat)(w:Qm)(hv:Ao w (.slice a l.length cap) l):
  Calls prog 334 #[.slice a l.length cap] w fun e w'=>(∃k:Nat,e=.returned (.slice a k k)/\Ao w (.slice a k k) (Jf l))/\w'=w:=by
 obtain⟨h1,h2,a2,t,u,h3,d⟩:=hv
 cases u
 go_in
 go_wp2
 go_loop [3] (fun n=>∃k:Nat,k<=l.length/\n=i6 k/\Jf l=Jf (l.take k)) (fun n=>(RowKit.intOf n).toNat)
 case atStart=>exact⟨l.length,Q6 _,rfl,by rw[Vc]⟩
 case round=>
  obtain⟨k,hk,rfl,z⟩:=hrel;replace z:=Qc z;have y:Jf (l.take k)=l.take k->Ao w (.slice a k k) (Jf l):=by
   intro p;rw[z.out,p];have q:(l.take k).length=k:=by rw[Ji];omega
   refine⟨oM,fun x hx=>h2 x (LY hx),a,k,by rw[q],oM,fun i hi=>?_⟩;obtain⟨b,v,e,c⟩:=d i oM;refine⟨b,v,e,?_⟩;rw[c];have:Zi (l.take k) i=Zi l i:=by unfold Zi;rw[K9,E5 oM,K9]
   rw[this]
  obtain⟨F,r⟩:∃F,F=y:=⟨_,rfl⟩;clear r y;rcases N9 k with rfl|f
  ·have hL:=F (by simp[Jf]);go_wp2;go_ret;exact⟨⟨_,rfl,hL⟩,rfl⟩
  ·obtain⟨m,rfl⟩:∃m,k=m+1:=⟨k-1,oM⟩;obtain⟨b,v,rfl,c⟩:=d m oM;have ht:=Es l m oM;have hw:wrap64 (((m+1:Nat):Int)-1)=(m:Int):=by rw[F9 _ oM];omega
   generalize hx:Zi l m=x at c ht;by_cases h0:x=0
   ·subst h0;have j:Jf l=Jf (l.take m):=by rw[z.out,ht,Mb,Qe rfl]
    replace j:=Qc j;clear ht hx F;go_wp2;go_round
    case rel=>exact⟨m,oM,sM,j.out⟩
    case measure=>simp[RowKit.intOf]
   ·exact wY
def oX{P Q:Prop}(h:Q)(f:Wz Q->P:=by
 intro zz;refine(J5 (n:=0)).1 (Vy func275 rfl trivial ?_ rfl);simp only[ntmps275];refine Ie ?_;obtain⟨ra,hra⟩:∃r,Xb (Qf a)=r:=⟨_,rfl⟩;revert ra hra;exact zz.o):P:=f ⟨h⟩
def oY{P:Prop}(h:P:=by
 gi_wp2_with(gi_at_call 231;refine(Qr (Vk a _ oM)).mono ?_;rintro e w1 ⟨rfl,hk1⟩;rw[hra.out]);exact⟨_,Iq rfl _ _ _,Xd,rfl⟩):P:=h
def oZ{P Q:Prop}(h:Q)(f:Wz Q->P:=by
 intro zz;have hPa:=Jm hra.out;obtain⟨W1,hW1⟩:∃W,((w1.alloc (.cells #[.slice none 0 0] 288)).alloc (.cells #[.string a] 9))=W:=⟨_,rfl⟩;revert hPa W1 hW1;exact zz.o):P:=f ⟨h⟩
def pA{P:Prop}(h:P:=by
 intro W2 hk2 hz2;exact Oi a (w1.heap.size+1) _ _ W2 oM (hk2.boxed bs1 trivial) (fun c f=>⟨oM,.inr sM⟩) (fun b o h=>h)):P:=h
def RH{P:Prop}(h:P:=by
 rintro i A B ⟨v,h1,h2⟩ hk;refine⟨v,hk.boxed h1 ⟨.inr rfl,.inl oM⟩,h2.1,?_⟩;rcases h2.2 with h| ⟨g,cap,cur,hv,hg,hgg,rest⟩
 ·exact .inl h
 ·exact .inr ⟨g,cap,cur,hv,hg,hk.same _ _ hgg ⟨.inr rfl,.inr sM⟩,rest⟩):P:=h
def pB{P:Prop}(h:P:=by
 intro i v hv;obtain⟨x,rfl⟩:=E7 rfl hv;apply Exists.intro;apply And.intro
 ·intro l2 A K hK;gi_wp2;exact hK
 ·rintro l2 A hl2 ⟨r,hr⟩ hi ⟨v,h1,h2⟩ hxv;have hzA:=Qg hr;obtain rfl:x=.string (Js a i):=by simpa using hxv
  have hgs:=Ml a i hi;obtain⟨hp1,hp2⟩:=Mk (Js a i) hgs.1 hgs.2 (Fn a i hPa.1);have htk:=Oj a i hi;generalize hn:valOf (Qf (Js a i))=n at hp1 hp2 htk;generalize hgg:Js a i=gs at hp1 hgs|-;have HTK:=Qc htk;have HP1:=Qc hp1;have hig:i<=400:=by unfold Kf at hi;omega
  have hwr:IntKind.u32.wrap (n:Int)=(n:Int):=BC oM (by have:n<1000000000:=hp2;omega);clear hn hgg htk hxv hp1;obtain⟨i0,hi0,hz0,hz1,hz2⟩:=Gk E9;gi_wp2_with(first
   | (gi_at_call 267;refine(Qr (strconv_ParseUint_10_at32_ok gs oM n HP1.out _)).mono ?_;rintro e w5 ⟨rfl,hk5⟩;have hs5:Qd A w5:=(by rcases hk5 with rfl|rfl;exact Ac.refl _ _;exact Ac.AB (nH _ _ _));clear hk5;have h15:=hs5.boxed h1 trivial;have h25:=D4 h2 hs5;have c0:=h15.cell)
   | (gi_at_builtin;refine Mn _ rfl _ _ 288 rfl w1.heap.size 236 i0 (.int .u32 0) 1 4 underlying288 hi0 hz0 hz1 hz2 rfl dM _ _ _ rfl (h25.alloc _) (ad w5.heap.size 0) 1 1 [uV n] rfl rfl ?c1 ?c2 ?c3 ?c4 ?c5 ?_))
  case c1=>exact fun j u hu=>Jw w5 #[uV n] _ j u hu
  case c2=>first|rfl| (intro u hu;simp at hu;subst hu;rfl)
  case c3=>unfold maxLen;omega
  case c4=>omega
  case c5=>have:=hs5.size;simp;omega
  intro v' w6 hown' hgrow _;obtain⟨a6,c6,rfl⟩:=Vt hown';obtain⟨R1,R2,R3,R4⟩:=IA h15 h25 (by have:=hs5.size;omega) (Q6 _) hown' hgrow;have d0:=R1.cell;have d1:=R1.frozen;clear hgrow hown' h1 h2 c0;gi_wp2;refine⟨(Ac.of_same hs5).trans R4,_,R2,?_⟩;rw[HTK.out,Hg,Fo];exact R3):P:=h
def pC{P:Prop}(h:P:=by
 have hl:(Zu a).length=Kf a:=by simp[Zu]
 rw[<-hl]at ho1;exact Ao.AU ho1 (by rw[hl];unfold Kf;omega) (Mm a hPa.1)):P:=h
def pD{P Q:Prop}(h:Q)(f:Wz Q->P:=by
 intro zz;have hT1:Bi A1 (.slice va1 k1 k1) (Ki a):=Qfr ho1 hv7;have hk8:Qd A1 w8:=((Ac.refl _ A1).alloc _).grown hgrow1 (fun r hr=>by simp[Value.ownBlock]at hr);obtain⟨r1,q1,cu1,ho1e,hr1,hc1⟩:∃g cap cur,o1=.slice (some (ad g 0)) 1 cap/\A1.heap.size<=g/\w8.heap[g]? =some (.cells cur 288 (0,0)):=by
  rcases hown1.2 with⟨_,h⟩| ⟨g,cap,cur,h1,h2,h3,_⟩
  ·cases h
  ·exact⟨g,cap,cur,h1,h2,h3⟩
 revert hT1 hk8 r1 q1 cu1 ho1e hr1 hc1;exact zz.o):P:=f ⟨h⟩
def kA(a b:Qo)(g c:Nat)(w:Qm)(ha:a.size<=1000000000)(hb:b.size<=1000000000)(hc:2<=c)(g0:w.cell? ⟨g,0,none⟩=some (.string a))(g1:w.cell? ⟨g,1,none⟩=some (.string b)):
  Calls prog 275 #[.slice (some ⟨g,0,none⟩) 2 c] w fun e w'=>Qd w w'/\
   (if Xb (Qf a)&&Xb (Qf b)then∃r cap v u,e=.returned (.tuple #[.slice (some ⟨r,0,none⟩) 2 cap,.int .i64 0])/\2<=cap/\w'.cell? ⟨r,0,none⟩=some v/\w'.cell? ⟨r,1,none⟩=some u/\Ao w' v (Ki a)/\Ao w' u (Ki b)
    else e=.returned (.tuple #[.slice none 0 0,.int .i64 10])):=by
 refine oX ?_
 intro ra hra
 obtain⟨rb,a3⟩:∃r,Xb (Qf b)=r:=⟨_,rfl⟩
 rw[hra,a3]
 replace hra:=Qc hra
 replace a3:=Qc a3
 gi_wp2
 refine wpIn_loop_rounds 3 ?_
 rw[U1]
 cases ra
 ·exact oY
 ·gi_wp2_with(first
   | (gi_at_call 231;refine(Qr (Vk a _ oM)).mono ?_;rintro e w1 ⟨rfl,hk1⟩;rw[hra.out])
   | (gi_at_call 333;refine(Qr (Mi a _)).mono ?_;rintro e p ⟨rfl,h9⟩;replace h9:=h9.symm;subst h9))
  refine oZ ?_;intro hPa W1 hW1;have cb:Boxed W1 w1.heap.size 288 (.slice none 0 0):=by rw[<-hW1];exact Qb (Ql sM)
  have bs1:Boxed W1 (w1.heap.size+1) 9 (.string a):=by rw[<-hW1];exact Ql sM
  have hz1:W1.heap.size=w1.heap.size+2:=by rw[<-hW1];simp
  have a2:Qd w1 W1:=by rw[<-hW1];exact((Ac.refl _ _).alloc _).alloc _
  rw[hW1];clear hW1;refine Rx (gf:=366) (lb:=#[pt (w1.heap.size+1)]) rfl (X3 func366 kM rfl) (Kf a) (fun i v _=>v=#[.string (Js a i)])
   (sB w1.heap.size w1.heap.size) (fun b o=>b≠w1.heap.size+1∨∀c f,o≠ .cells c 9 f) (fun _=>True) (fun _ _=>True) ?hit ?hSb ?hSi
   (fun i A=>∃v,Boxed A w1.heap.size 288 v/\A.ownsRow w1.heap.size 236 1 v i (((Zu a).take i).map uV))
   (fun _ _ _=>False) ?hI (fun _ _ _ _ h _=>h) (fun _ _ _ _ h _=>h) (fun _ _ _ _=>trivial) (fun _ _ _ _ _=>trivial) (fun i v A h=>by rw[h];rfl) ⟨_,cb,by simpa using Yz W1 w1.heap.size 236 1⟩ ?hround ?hdone (fun _ _ _ _ _ _ h=>h.elim)
  case hit=>
   exact pA
  case hSb=>exact fun b o hb ho=>⟨oM,.inr fun c f e=>by subst e;cases ho⟩
  case hSi=>exact fun b o hb b0 ho=>.inl oM
  case hI=>
   exact RH
  case hround=>
   exact pB
  case hdone=>
   rintro D1 A1 db ⟨v1,b8,ho1⟩ _ a0 b9;have htk:(Zu a).take (Kf a)=Zu a:=by rw[Nd];simp[Zu]
   rw[htk]at ho1;have b2:Ao A1 v1 (Zu a):=by
    exact pC
   have bh:Qd w A1:=⟨a0.os.trans (a2.os.trans hk1.os),a0.tape.trans (a2.tape.trans hk1.tape),a0.output.trans (a2.output.trans hk1.output),by have:=hk1.size;have:=a0.size;omega,fun b o hb _=>a0.same b o (a2.same b o (hk1.same b o hb trivial) trivial) (by have:=Qg (hk1.same b o hb trivial);exact⟨⟨oM,.inl this⟩,.inl oM⟩)⟩;obtain⟨va1,de,rfl⟩:=b2.Ab;have b7:=b8.cell;clear htk;obtain⟨j0,ba,c8,bf,b6⟩:=Gk U4;gi_wp2_with(first
    | (gi_at_call 334;refine(Qr (Lj (Zu a) _ _ _ b2)).mono ?_;rintro e w7 ⟨⟨k1,rfl,hv7⟩,h9⟩;replace h9:=h9.symm;subst h9)
    | (gi_at_builtin;refine Mn _ rfl _ _ 289 rfl A1.heap.size 288 j0 (.slice none 0 0) 1 24 underlying289 ba c8 bf b6 rfl dM _ _ _ rfl (Yz _ _ _ _) (ad A1.heap.size 0) 1 1 [.slice va1 k1 k1] rfl rfl ?e1 ?e2 ?e3 ?e4 ?e5 ?_))
   case e1=>exact fun j u hu=>Jw A1 #[.slice va1 k1 k1] _ j u hu
   case e2=>intro u hu;simp at hu;subst hu;rfl
   case e3=>decide
   case e4=>decide
   case e5=>simp
   intro o1 w8 hown1 hgrow1 _;refine pD ?_;intro hT1 hk8 r1 q1 cu1 ho1e hr1 hc1;subst ho1e;have ag:Qd w w8:=bh.trans hk8;have ch:=hT1.Af hk8 fun _ _ _ _=>trivial
   have dd:=ag.cell g1 fun _ _=>trivial
   have a9:=hk8.s b9;have da:=hk8.size;have hzA:=bh.size;clear hgrow1 b7 b8 ho1 b2 hv7 hT1;gi_wp2;rw[U1];cases rb
   ·gi_wp2_with(gi_at_call 231;refine(Qr (Vk b _ oM)).mono ?_;rintro e w9 ⟨rfl,bg⟩;rw[a3.out]);have ca:=bg.s a9;refine⟨sM,.inl ⟨_,_,rfl,Vx ca,?_⟩⟩;exact⟨_,Iq rfl _ _ _,(ag.trans bg).putObj _ fun o _ _ h=>by have:=hk1.size;omega,rfl⟩
   ·gi_wp2_with(first
     | (gi_at_call 231;refine(Qr (Vk b _ oM)).mono ?_;rintro e p ⟨rfl,hk2⟩;rw[a3.out])
     | (gi_at_call 333;refine(Qr (Mi b _)).mono ?_;rintro e w9 ⟨rfl,h9⟩;replace h9:=h9.symm;subst h9))
    have c9:=Jm a3.out;obtain⟨W2,a4⟩:∃W,((p.alloc (.cells #[.slice none 0 0] 288)).alloc (.cells #[.string b] 9))=W:=⟨_,rfl⟩;have cc:Boxed W2 p.heap.size 288 (.slice none 0 0):=by rw[<-a4];exact Qb (Ql sM)
    have cd:Boxed W2 (p.heap.size+1) 9 (.string b):=by rw[<-a4];exact Ql sM
    have hz2:W2.heap.size=p.heap.size+2:=by rw[<-a4];simp
    have q:Qd p W2:=by rw[<-a4];exact((Ac.refl _ _).alloc _).alloc _
    rw[a4];clear a4;refine Rx (gf:=366) (lb:=#[pt (p.heap.size+1)]) rfl (X3 func366 kM rfl) (Kf b) (fun i v _=>v=#[.string (Js b i)])
     (sB p.heap.size p.heap.size) (fun b o=>b≠p.heap.size+1∨∀c f,o≠ .cells c 9 f) (fun _=>True) (fun _ _=>True) ?hit ?hSb ?hSi
     (fun i A=>∃v,Boxed A p.heap.size 288 v/\A.ownsRow p.heap.size 236 1 v i (((Zu b).take i).map uV))
     (fun _ _ _=>False) ?hI (fun _ _ _ _ h _=>h) (fun _ _ _ _ h _=>h) (fun _ _ _ _=>trivial) (fun _ _ _ _ _=>trivial) (fun i v A h=>by rw[h];rfl) ⟨_,cc,by simpa using Yz W2 p.heap.size 236 1⟩ ?hround ?hdone (fun _ _ _ _ _ _ h=>h.elim)
    case hit=>
     intro W2 hk2 hz2;exact Oi b (p.heap.size+1) _ _ W2 oM (hk2.boxed cd trivial) (fun c f=>⟨oM,.inr sM⟩) (fun b o h=>h)
    case hSb=>exact fun b o hb ho=>⟨oM,.inr fun c f e=>by subst e;cases ho⟩
    case hSi=>exact fun b o hb b0 ho=>.inl oM
    case hI=>
     exact RH
    case hround=>
     intro i v hv;obtain⟨x,rfl⟩:=E7 rfl hv;apply Exists.intro;apply And.intro
     ·intro l2 A K hK;gi_wp2;exact hK
     ·rintro l2 A hl2 ⟨r,hr⟩ hi ⟨v,h1,h2⟩ hxv;have hzA:=Qg hr;obtain rfl:x=.string (Js b i):=by simpa using hxv
      have hgs:=Ml b i hi;obtain⟨hp1,hp2⟩:=Mk (Js b i) hgs.1 hgs.2 (Fn b i c9.1);have htk:=Oj b i hi;generalize hn:valOf (Qf (Js b i))=n at hp1 hp2 htk;generalize hgg:Js b i=gs at hp1 hgs|-;have HTK:=Qc htk;have HP1:=Qc hp1;have hig:i<=400:=by unfold Kf at hi;omega
      have hwr:IntKind.u32.wrap (n:Int)=(n:Int):=BC oM (by have:n<1000000000:=hp2;omega);clear hn hgg htk hxv hp1;obtain⟨i0,hi0,hz0,hz1,hz2⟩:=Gk E9;gi_wp2_with(first
       | (gi_at_call 267;refine(Qr (strconv_ParseUint_10_at32_ok gs oM n HP1.out _)).mono ?_;rintro e w5 ⟨rfl,hk5⟩;have hs5:Qd A w5:=(by rcases hk5 with rfl|rfl;exact Ac.refl _ _;exact Ac.AB (nH _ _ _));clear hk5;have h15:=hs5.boxed h1 trivial;have h25:=D4 h2 hs5;have c0:=h15.cell)
       | (gi_at_builtin;refine Mn _ rfl _ _ 288 rfl p.heap.size 236 i0 (.int .u32 0) 1 4 underlying288 hi0 hz0 hz1 hz2 rfl dM _ _ _ rfl (h25.alloc _) (ad w5.heap.size 0) 1 1 [uV n] rfl rfl ?c1 ?c2 ?c3 ?c4 ?c5 ?_))
      case c1=>exact fun j u hu=>Jw w5 #[uV n] _ j u hu
      case c2=>first|rfl| (intro u hu;simp at hu;subst hu;rfl)
      case c3=>unfold maxLen;omega
      case c4=>omega
      case c5=>have:=hs5.size;simp;omega
      intro v' w6 hown' hgrow _;obtain⟨a6,c6,rfl⟩:=Vt hown';obtain⟨R1,R2,R3,R4⟩:=IA h15 h25 (by have:=hs5.size;omega) (Q6 _) hown' hgrow;have d0:=R1.cell;have d1:=R1.frozen;clear hgrow hown' h1 h2 c0;gi_wp2;refine⟨(Ac.of_same hs5).trans R4,_,R2,?_⟩;rw[HTK.out,Hg,Fo];exact R3
    case hdone=>
     rintro D2 A2 d9 ⟨v2,b0,aa⟩ _ y a5;have htk:(Zu b).take (Kf b)=Zu b:=by rw[Nd];simp[Zu]
     rw[htk]at aa;have be:Ao A2 v2 (Zu b):=by
      have hl:(Zu b).length=Kf b:=by simp[Zu]
      rw[<-hl]at aa;exact Ao.AU aa (by rw[hl];unfold Kf;omega) (Mm b c9.1)
     have d3:Qd w A2:=(ag.trans hk2).trans ⟨y.os.trans q.os,y.tape.trans q.tape,y.output.trans q.output,by have:=y.size;have:=q.size;omega,fun b o hb _=>y.same b o (q.same b o hb trivial) (by have:=Qg hb;exact⟨⟨oM,.inl this⟩,.inl oM⟩)⟩;obtain⟨ae,d7,rfl⟩:=be.Ab;have d6:=b0.cell;clear htk;have dc:Qd p W2:=q;have a7:Ac (fun b _=>b<p.heap.size) p A2:=⟨y.os.trans q.os,y.tape.trans q.tape,y.output.trans q.output,by have:=y.size;have:=q.size;omega,fun b o hb _=>y.same b o (q.same b o hb trivial) (by have:=Qg hb;exact⟨⟨oM,.inl this⟩,.inl oM⟩)⟩;have cg:=(ch.Af hk2 fun _ _ _ _=>trivial).Af a7 fun _ _ _ h=>Qg h
     have b1:=C8 (D4 hown1 hk2) a7 fun _ _ _ h=>Qg h
     have b4:=a7.same _ _ (hk2.s hc1) (Qg (hk2.s hc1));have af:=a7.same _ _ (hk2.s a9) (Qg (hk2.s a9));have d5:=Qg (hk2.s a9);gi_wp2_with(first
      | (gi_at_call 334;refine(Qr (Lj (Zu b) _ _ _ be)).mono ?_;rintro e w7 ⟨⟨k2,rfl,hv7⟩,h9⟩;replace h9:=h9.symm;subst h9)
      | (gi_at_builtin;refine Mn _ rfl _ _ 289 rfl A1.heap.size 288 j0 (.slice none 0 0) 1 24 underlying289 ba c8 bf b6 rfl dM _ _ _ rfl (b1.alloc _) (ad A2.heap.size 0) 1 1 [.slice ae k2 k2] rfl rfl ?e1 ?e2 ?e3 ?e4 ?e5 ?_))
     case e1=>exact fun j u hu=>Jw A2 #[.slice ae k2 k2] _ j u hu
     case e2=>intro u hu;simp at hu;subst hu;rfl
     case e3=>decide
     case e4=>decide
     case e5=>have:=a7.size;have:=hk2.size;simp;omega
     intro o2 z k a1 _;have d2:Bi A2 (.slice ae k2 k2) (Ki b):=Qfr aa hv7;have m:Ac (fun b _=>b≠r1) A2 z:=((Ac.refl _ A2).alloc _).grown a1 (fun r hr o' ho hs _=>by simp[Value.ownBlock]at hr;exact absurd hr.symm hs);obtain⟨r2,q2,bd,cf⟩:∃g cap,o2=.slice (some (ad g 0)) 2 cap/\2<=cap:=by
      rcases k.2 with⟨_,h⟩| ⟨g,cap,cur,h1,h2,h3,h4,_⟩
      ·cases h
      ·exact⟨g,cap,h1,h4⟩
     subst bd;have bc:∀(b:Nat) (cur:Array Q0) (f:Nat × Nat),A2.heap[b]? =some (.cells cur 236 f)->b≠r1:=by
      rintro b cur f hb rfl;rw[b4]at hb;cases hb
     have b5:=cg.Af m bc;have b3:=d2.Af m bc;have bb:Qd w z:=Ho d3 m fun b o hb=>(Ku hb)
     have x0:=k.cells rfl 0 _ rfl;have x1:=k.cells rfl 1 _ rfl;have ac:=m.same _ _ af (by rintro rfl;rw[b4]at af;cases af);have ab:=m.same _ _ a5 (by rintro rfl;rw[b4]at a5;cases a5);clear a1;gi_wp2;rw[U1];gi_wp2;refine⟨sM,.inl ⟨_,_,rfl,Vx ab,?_⟩⟩;have hp1:∀{o:Obj},Ac (fun b _=>b≠D2) z (z.putObj D2 o):=fun{o}=>(Ac.refl _ z).putObj _ fun o _ hs _=>hs rfl
     have ah:D1≠D2:=oM;have c7:=(hp1 (o:=.deferred none)).same _ _ ac ah;refine⟨sM,.inl ⟨_,_,rfl,Vx c7,?_⟩⟩;have ce:=m.size;have d8:=hk1.size;have hF:Ac (fun b _=>b≠D2/\b≠D1) z ((z.putObj D2 (.deferred none)).putObj D1 (.deferred none)):=((Ac.refl _ z).putObj _ fun o _ hs _=>hs.1 rfl).putObj _ fun o _ hs _=>hs.2 rfl
     have d:∀(b:Nat) (cur:Array Q0) (t:TypeId) (f:Nat × Nat),z.heap[b]? =some (.cells cur t f)->b≠D2/\b≠D1:=by
      intro b cur t f hb;refine⟨?_,?_⟩
      ·rintro rfl;rw[ab]at hb;cases hb
      ·rintro rfl;rw[ac]at hb;cases hb
     obtain⟨d4,a8⟩:∃cur,z.heap[r2]? =some (.cells cur 288 (0,0)):=by
      rcases k.2 with⟨h,_⟩| ⟨g,cap,cur,h1,h2,h3,_⟩
      ·cases h
      ·cases h1;exact⟨cur,h3⟩
     have z0:=hF.cell x0 fun o ho=>d r2 _ _ _ a8
     have z1:=hF.cell x1 fun o ho=>d r2 _ _ _ a8
     have z2:=(b5.Af hF fun b cur f hb=>d b _ _ _ hb).1;have z3:=(b3.Af hF fun b cur f hb=>d b _ _ _ hb).1;exact⟨_,Iq rfl _ _ _,(bb.putObj (.deferred none) fun o _ _ h=>oM).putObj (.deferred none) fun o _ _ h=>oM,r2,q2,rfl,cf,_,z0,_,z1,z2,z3⟩
def Ci(s:Qo)(h:Xb (Qf s)=true):(Ki s).length<=45:=by
 have q:=(Jm h).2.1;have j:(Zu s).length=Kf s:=by simp[Zu]
 have v:(Ki s).length<=(Zu s).length:=by
  unfold Ki Jf;rw[MT];exact Qj (aB _).length_le (by rw[MT];exact Q6 _)
 unfold Kf at j;omega
def Py(l:Qv):(C6 l).1.length<=400:=by
 unfold C6;split<;>simp<;>omega
def cC(a b:Qo):(Ok a b).1.length<=400:=by
 unfold Ok;split
 ·exact Py _
 ·simp
def pE{P:Prop}(h:P:=by
 clear hres hr;go_in;go_wp2_with(go_at_call 275;refine(hof _ _ _ oM sM sM).mono ?_;rintro e w1 ⟨hk1,h9⟩;simp only[I7,Nk]at h9;subst h9);go_ret2;exact Iu):P:=h
def Qh6{P:Prop}(h:P:=by
 refine(Qr (I1 _ _ _ hv2 (hp.same Xd))).mono ?_;rintro e w3 ⟨rfl,hk3⟩;refine hK _ _ ⟨hk3.cell (hk2.cell c0 fun _ _=>trivial) fun _ _=>trivial,hk3.cell (hk2.cell c1 fun _ _=>trivial) fun _ _=>trivial⟩ ?_;clear hK K;repeat refine sX ?_
 refine Jc ?_;go_wp2;go_ret2;exact⟨by rw[HR.out];rfl,Xd⟩):P:=h
def pF{P:Prop}(h:P:=by
 rintro e w2 ⟨⟨v2,rfl,hv2⟩,hk2⟩;obtain⟨a2,b2,rfl⟩:=hv2.Ab;refine hK _ _ ⟨hk2.cell c0 fun _ _=>trivial,hk2.cell c1 fun _ _=>trivial⟩ ?_;clear hK K;refine Vr ?_;intro K hK;exact Qh6):P:=h
def U5(a b:Qo)(w:Qm)(ha:a.size<=1000000000)(hb:b.size<=1000000000)(hp:AD w):
  Calls prog 320 #[.string a,.string b] w fun e w'=>e=.returned (Pw (Ok a b))/\Qd w w':=by
 obtain⟨r,hr⟩:=X0 (Xb (Qf a)&&Xb (Qf b))
 have hres:Ok a b=if r then C6 (EX (Ki a) (Ki b))else([],10):=by unfold Ok;rw[hr]
 have hof:=fun g c W p x k=>kA a b g c W ha hb p x k
 rw[hr]at hof
 have HR:=Qc hres
 cases r
 ·exact pE
 ·have j:Xb (Qf a)=true/\Xb (Qf b)=true:=by simpa using hr
  have t:=Ci a j.1;have d:=Ci b j.2;clear hres hr j;go_in;go_wp2_with(first
   | (go_at_call 275;refine(hof _ _ _ oM sM sM).mono ?_;rintro e w1 ⟨hk1,h9⟩;simp only[BE]at h9;obtain⟨q,cq,v,u,m,f,c0,c1,z,y⟩:=h9;subst m;obtain⟨va,vc,rfl⟩:=z.Ab;obtain⟨ua,uc,rfl⟩:=y.Ab)
   | (go_at_call 278;fail))
  refine EA ?_;refine gR (n:=0) (And.intro c0 c1) ?_;repeat refine sX ?_
  refine Vr ?_;intro K hK;refine(Qr (Tv _ _ _ _ _ (z.same Xd) (y.same Xd) oM)).mono ?_;exact pF
def cD(a b:Qo)(w:Qm)(ha:a.size<=1000000000)(hb:b.size<=1000000000)(hp:AD w):
  Calls prog 292 #[.string a,.string b] w fun e w'=>e=.returned (Pw (XC a b))/\Qd w w':=by
 obtain⟨r,hr⟩:=X0 (Xb (Qf a)&&Xb (Qf b))
 have hres:XC a b=if r then C6 (NK (Ki a) (Ki b))else([],10):=by unfold XC;rw[hr]
 have hof:=fun g c W p x k=>kA a b g c W ha hb p x k
 rw[hr]at hof
 have HR:=Qc hres
 cases r
 ·exact pE
 ·have j:Xb (Qf a)=true/\Xb (Qf b)=true:=by simpa using hr
  have t:=Ci a j.1;have d:=Ci b j.2;clear hres hr j;go_in;go_wp2_with(first
   | (go_at_call 275;refine(hof _ _ _ oM sM sM).mono ?_;rintro e w1 ⟨hk1,h9⟩;simp only[BE]at h9;obtain⟨q,cq,v,u,m,f,c0,c1,z,y⟩:=h9;subst m;obtain⟨va,vc,rfl⟩:=z.Ab;obtain⟨ua,uc,rfl⟩:=y.Ab)
   | (go_at_call 278;fail))
  refine EA ?_;refine gR (n:=0) (And.intro c0 c1) ?_;repeat refine sX ?_
  refine Vr ?_;intro K hK;refine(Qr (Ux _ _ _ _ _ (z.same Xd) (y.same Xd) oM)).mono ?_;exact pF
def S5(s t:Qo)(g c:Nat)(w:Qm)(hs:s.size<=1000000000)(ht:t.size<=1000000000)(hc:2<=c)(g0:w.cell? ⟨g,0,none⟩=some (.string s))(g1:w.cell? ⟨g,1,none⟩=some (.string t))(hp:AD w):
  Calls prog 265 #[.slice (some ⟨g,0,none⟩) 2 c] w fun e w'=>e=.returned (.tuple #[.string (prodM s t).1,.bool (prodM s t).2])/\Qd w w':=by
 have v:=fun W h=>U5 Om s W dM hs h
 have f:=cC Om s
 obtain⟨m,j⟩:∃r,Ok Om s=r:=⟨_,rfl⟩
 have n:(Xh m.1).size<=1000000000:=by rw[Jz,<-j];omega
 have q:=fun W h=>U5 (Xh m.1) t W n ht h
 obtain⟨b,z⟩:∃r,Ok (Xh m.1) t=r:=⟨_,rfl⟩
 have y:prodM s t=if m.2≠0 then(⟨#[]⟩,false)else if b.2≠0 then(⟨#[]⟩,false)else(Xh b.1,true):=by unfold prodM;rw[j,z]
 rw[j]at v
 rw[z]at q
 have HR:=Qc y
 obtain⟨d1,e1⟩:=m
 obtain⟨d2,p⟩:=b
 clear y j z f
 simp only at v q n
 go_in
 go_wp2
 refine Uu ?_
 by_cases k:e1=0
 ·subst k;go_wp2_with(go_at_call 320;refine(v _ (hp.same Xd)).mono ?_;rintro e w1 ⟨rfl,u⟩);have a0:=u.cell g1 fun _ _=>trivial
  rw[Yg];by_cases x:p=0
  ·subst x;go_wp2_with(go_at_call 320;refine(q _ (hp.same Xd)).mono ?_;rintro e w2 ⟨rfl,d⟩);rw[Yg];go_wp2;go_ret2;exact Iu
  ·go_wp2_with(go_at_call 320;refine(q _ (hp.same Xd)).mono ?_;rintro e w2 ⟨rfl,d⟩);go_ret2;exact⟨by rw[HR.out,Qa sM,Qe x];rfl,Xd⟩
 ·go_wp2_with(go_at_call 320;refine(v _ (hp.same Xd)).mono ?_;rintro e w1 ⟨rfl,u⟩);go_ret2;exact⟨by rw[HR.out,Qe k];rfl,Xd⟩
def cE{P:Prop}(h:P:=by
 have hld:=Pr (P:=prog) W bx 23 23 _ (0,0) _ hrow underlying23 rfl kM;rw[Mf rfl,h2,h3];simp[asAddr,hld,Result.andThen]):P:=h
def EG(T:Array Q0)(W:Qm)(bx:Nat)(d:Dc)(e:Int)(h2:T.getD 2 undef=.pointer (some ⟨bx,0,none⟩))(h3:T.getD 3 undef=.int .i64 e)
  (hrow:W.heap[bx]? =some (.cells #[.bool d.neg,.string d.digits,.int .i64 d.exp] 23 (0,0))):(results f233 T).run prog W=.ok (yQ (d,e)) W:=by
 exact cE
def D5{p q r x y z:Q0}{t:TypeId}(hk:Qd w W)(hb:W.heap[b]? =some (.cells #[p,q,r] t (0,0)))(hw:w.heap.size<=b):
  (((W.setCell ⟨b,0,none⟩ x).setCell ⟨b,1,none⟩ y).setCell ⟨b,2,none⟩ z).heap[b]? =some (.cells #[x,y,z] t (0,0))/\Qd w (((W.setCell ⟨b,0,none⟩ x).setCell ⟨b,1,none⟩ y).setCell ⟨b,2,none⟩ z):=
 ⟨Qk (Qk (Qk hb 0 x) 1 y) 2 z,
  ((hk.setCell (p:=(ad b 0)) _ (fun o _ _ h=>absurd h (by show¬b<_;omega))).setCell (p:=(ad b 1)) _ (fun o _ _ h=>absurd h (by show¬b<_;omega))).setCell (p:=(ad b 2)) _ (fun o _ _ h=>absurd h (by show¬b<_;omega))⟩
def Oq(n:Nat)(h:n<18446744073709551616):(Xw n).size<=20:=by
 show(Lib.decDigits n).toArray.size<=20;rw[Gj,oO];have j:∀k n:Nat,n<10^k->0<k->Lib.nDigits n<=k:=by
  exact Qfp
 exact j 20 n (I9 h dM) dM
def Qgs(f:Nat)(h0:f≠0)(h:f<2^64):Lib.ctz 64 f<64:=by
 unfold Lib.ctz;rw[Qa h0];obtain⟨m,_,j⟩:=Lib.ctzFrom_spec 64 f (Nat.pos_of_ne_zero h0) h;exact j
def Qgt{P Q:Prop}(h:Q)(f:Wz Q->P:=by
 intro zz;obtain⟨s,hs⟩:=X0 (b>>>63&&&1);obtain⟨e,he⟩:=X0 (b>>>52&&&Qw 11);obtain⟨f,hf⟩:=X0 (b&&&Qw 52);revert s hs e he f hf;exact zz.o):P:=f ⟨h⟩
def kB{P:Prop}(h:P:=by
 split
 ·simp
 ·split
  ·simp
  ·exact Py _):P:=h
def sC(b:Nat)(w:Qm)(hb:b<18446744073709551616)(hG:Ah N E w):
  Calls prog 233 #[.int .u64 (b:Int)] w fun x w'=>x=.returned (yQ (CP b))/\Qd w w':=by
 have v:=fun W=>RA b W hb
 have a3:=fun W=>Vu 52 11 64 b W (.inr (.inr rfl)) oM oM hb
 refine Qgt ?_
 intro s hs e he f hf
 have d6:s<=1:=by rw[<-hs];exact Yt
 have d1:e<=2047:=by rw[<-he];exact Yt
 have cd:f<=4503599627370495:=by rw[<-hf];exact Yt
 have m:CP b=if e=2047 then(Ko,50)else if(if 0<e then f|||2^52 else f)=0 then(Ju,0)else jV s e (if 0<e then f|||2^52 else f):=by rw[<-hs,<-he,<-hf];rfl
 rw[show 64-1=63 from rfl,hs,he,hf]at a3
 rw[he,show Qw 11=2047 from rfl]at v
 have HR:=Qc m
 clear m hs he hf
 go_in
 by_cases h1:e=2047
 ·have hd:(!decide (e=2047))=false:=by simp[h1]
  rw[hd]at v;clear hd;go_wp2_with(go_at_call 289;refine(v _).mono ?_;rintro x w1 ⟨rfl,a7⟩;have ag:=a7.same w.heap.size _ (Qt w _) trivial;obtain⟨c0,c1,c2⟩:=Q1 ag;have cd:∀j,w1.frozen? ⟨w.heap.size,j,none⟩=false:=Je ag);have c8:Qd w w1:=Xd;obtain⟨h3,h4⟩:=D5 (x:=.bool false) (y:=.string ⟨#[]⟩) (z:=.int .i64 0) c8 ag (Q6 _)
  (try simp only[Exit.inBlock,Exit.then]);refine Xs (EG _ _ w.heap.size Ko 50 rfl rfl h3) rfl ⟨by rw[HR.out,Qe h1],h4⟩
 ·have hd:(!decide (e=2047))=true:=by simp[h1]
  rw[hd]at v;clear hd;rw[Qa h1]at HR;go_wp2_with(first
   | (go_at_call 289;refine(v _).mono ?_;rintro x w1 ⟨rfl,a7⟩)
   | (go_at_call 204;refine(V0 _).mono ?_;rintro x w2 ⟨rfl,h9⟩;replace h9:=h9.symm;subst h9)
   | (go_at_call 213;fail))
  refine(a3 _).mono ?_;rintro x w3 ⟨rfl,ac⟩;have a1:=ac.same w.heap.size _ (Qb (Qb (Qb (a7.same w.heap.size _ (Qt w _) trivial)))) trivial;have u:=ac.same (w1.heap.size+1+1) _ (show _=some (.cells #[.int .i64 52,.int .i64 11,.int .i64 64] 215 (0,0)) from Ql sM) trivial;have a8:Qd w w3:=Xd;obtain⟨fb,c4⟩:=X0 (w1.heap.size+1+1);rw[c4]at u|-;have f0:=Q1 u;clear a7 ac c4 v a3;obtain⟨F,d⟩:=X0 (if 0<e then f|||2^52 else f);rw[d]at HR;by_cases b2:F=0
  ·subst b2;have cg:e=0:=by
    rcases N9 e with h|h
    ·exact h
    ·rw[Qe h]at d;have h2:(2:Nat)^52<=f|||2^52:=Nat.right_le_or;rw[d]at h2;exact absurd h2 dM
   subst cg;rw[Qa (J0 _)]at d;subst d;rw[Qe rfl]at HR;obtain⟨g0,g1,g2⟩:=Q1 a1;have d3:=Jd a1;go_wp2_with fail
   (try simp only[Exit.inBlock,Exit.then]);obtain⟨h3,h4⟩:=D5 (x:=.bool false) (y:=.string ⟨#[48]⟩) (z:=.int .i64 0) a8 a1 (Q6 _);exact Xs (EG _ _ w.heap.size Ju 0 rfl rfl h3) rfl ⟨by rw[HR.out],h4⟩
  ·rw[Qa b2]at HR;have ch:F<2^53:=by
    rw[<-d];split
    ·exact Uj oM dM
    ·omega
   have ce:((F:Int)==0)=false:=by rw[X6];omega
   rcases N9 e with c1|c1;focus
    rw[Qa oM]at d
    have ca:=d.symm
    clear d
    subst ca
    go_wp2_with fail
   rotate_left
   focus
    rw[Qe c1]at d
    have be:bits BinOp.or IntKind.u64 (f:Int) 4503599627370496=(F:Int):=by
     have:=bor f (2^52) oM dM;rw[d]at this;exact this
    have c5:(bits BinOp.or IntKind.u64 (f:Int) 4503599627370496==0)=false:=by rw[be];exact ce
    clear d
    go_wp2_with fail
    clear be c5
   all_goals
    refine(bits_TrailingZeros64 F oM w3 (fun _=>(hG.same a8).tz)).mono ?_
    rintro x w4 ⟨rfl,h9⟩
    replace h9:=h9.symm
    subst h9
    have b7:=Qgs F b2 oM
    obtain⟨z,hz⟩:=X0 (Lib.ctz 64 F)
    rw[hz]at b7|-
    go_wp2_with fail
    refine(Vd (n:=0)).1 ?_
    refine gR (n:=0) u ?_
    repeat refine sX ?_
    refine Kd rfl rfl ?_
    intro K hK
    go_simp
    refine(Qr (Gp 52 11 64 _ oM oM)).mono ?_
    rintro x w4 ⟨rfl,h9⟩
    replace h9:=h9.symm
    subst h9
    refine hK _ _ (Qb u) ?_
    clear hK K
    have b6:=Qb (w:=w3) (o:=.cells #[.int .i64 52,.int .i64 11,.int .i64 64] 215) u
    have r0:=Q1 b6
    repeat refine sX ?_
    refine Jc ?_
   all_goals
    generalize ae:World.drew _=w4
    have b3:Qd w w4:=by rw[<-ae];exact Xd
    have b4:w4.heap[w.heap.size]? =some (.cells #[.bool false,.string ⟨#[]⟩,.int .i64 0] 23 (0,0)):=by rw[<-ae];exact J9 (Qb a1)
    clear ae b6 r0 f0 u a1
    generalize hX:IntKind.i64.wrap (IntKind.i64.wrap (IntKind.i64.wrap (_-_)-52)+(z:Int))=X
    have bd:X=((max e 1:Nat):Int)-1075+(z:Int):=by
     rw[<-hX,show Qw 10=1023 from rfl];simp only[BW];omega
    clear hX
    have d2: -2000<=X/\X<=2000:=oM
    obtain⟨p,hp⟩:=X0 (powerM (if X<0 then 5 else 2) (max X (-X)))
    obtain⟨tn,r⟩:∃t,(if X<0 then X else 0)=t:=⟨_,rfl⟩
    obtain⟨pr,k⟩:∃q,prodM (Xw (F>>>z)) (Xh p.1)=q:=⟨_,rfl⟩
    have m:CP b=if p.2≠0 then(Ko,40)else if pr.2=false then(Ko,40)else Jo (decide (s=1)) pr.1 tn:=by
     rw[HR.out,<-k,<-r,<-hp,bd,<-hz];rfl
    have a0:=Qc m
    have cb:p.1.length<=400:=by
     rw[<-hp];unfold powerM;exact kB
    clear m HR hz bd
    rcases Int.lt_or_le X 0 with bf|bf
    focus
     rw[Qe bf]at hp r
     subst r
     go_wp2_with fail
     refine(Px 5 (max X (-X)) _ dM (hG.same b3).pow oM).mono ?_
    rotate_left
    focus
     rw[Qa oM]at hp r
     subst r
     go_wp2_with fail
     refine(Px 2 (max X (-X)) _ dM (hG.same b3).pow oM).mono ?_
   all_goals
    rw[hp]
    rintro x w5 ⟨rfl,ab⟩
    have a2:Qd w w5:=b3.trans ab
    have a4:=ab.s b4
    clear ab b4
    obtain⟨g0,g1,g2⟩:=Q1 a4
    have c9:=Jd a4
    obtain⟨pd,pe⟩:=p
    simp only at k cb a0
    by_cases ah:pe=0
    ·subst ah;have c6:@HDiv.hDiv Int Int Int _ (F:Int) (2^z)=((F>>>z:Nat):Int):=G7 F z;have d0:F>>>z<=F:=Dx F z;have b9:(Xh pd).size<=1000000000:=by rw[Jz];omega
     have b8:(Xw (F>>>z)).size<=1000000000:=Qj (Oq _ oM) dM;have b0:=fun W h=>Pv (F>>>z) W oM h
     have a6:=fun g c W h2 g0 g1 h=>S5 (Xw (F>>>z)) (Xh pd) g c W b8 b9 h2 g0 g1 h
     rw[k]at a6;have c7:pr.2=true->pr.1.size<=1099511627776:=by
      intro h;rw[<-k]at h|-;unfold prodM at h|-;split
      ·exact Xi _
      ·split
       ·exact Xi _
       ·show(Xh _).size<=_;rw[Jz];exact Qj (cC _ _) dM
     obtain⟨dt,aa⟩:=X0 (Xw (F>>>z));rw[aa]at b0 a6;clear c6 k aa b8 b9;go_wp2_with fail;rw[G7];refine(b0 _ (hG.same a2).pow).mono ?_;rintro x w6 ⟨rfl,ad⟩;have bh:=ad.s a4;have b5:=a2.trans ad;clear ad a4 g0 g1 g2 c9 b0;go_wp2_with fail;refine(a6 _ _ _ oM sM sM ((hG.same b5).same ((Ac.refl _ _).alloc _)).pow).mono ?_;rintro x w7 ⟨rfl,ba⟩;have a5:=ba.s (Qb bh);have a9:Qd w w7:=Xd;clear ba bh a6;obtain⟨g0,g1,g2⟩:=Q1 a5;have cf:=Jd a5;obtain⟨ps,pb⟩:=pr;cases pb
     ·go_wp2_with fail
      (try simp only[Exit.inBlock,Exit.then]);obtain⟨h3,h4⟩:=D5 (x:=.bool false) (y:=.string ⟨#[]⟩) (z:=.int .i64 0) a9 a5 (Q6 _);exact Xs (EG _ _ w.heap.size Ko 40 rfl rfl h3) rfl ⟨by rw[a0.out];rfl,h4⟩
     ·have cc:=c7 rfl;have bc:=fun W tn h=>I4 (decide (s=1)) ps tn W cc h
      have bb:=a0.out;simp only[ne_eq,not_true_eq_false,Nk,oV]at bb;obtain⟨md,me,hq⟩:∃md me,CP b=(md,me):=⟨_,_,rfl⟩;have c3:((s:Int)==1)=decide (s=1):=by
       by_cases h:s=1
       ·subst h;rfl
       ·rw[X6.2 (by omega:(s:Int)≠1),Z4 h]
      go_wp2_with fail;refine(bc _ _ oM).mono ?_;rw[<-bb,hq];rintro x w8 ⟨rfl,b1⟩;have af:=b1.s a5;have bg:=a9.trans b1;clear b1 a5 g0 g1 g2 cf bc a0 c3;obtain⟨g0,g1,g2⟩:=Q1 af;have d4:=Jd af;go_wp2_with fail
      (try simp only[Exit.inBlock,Exit.then]);obtain⟨h3,h4⟩:=D5 (x:=.bool md.neg) (y:=.string md.digits) (z:=.int .i64 md.exp) bg af (Q6 _);exact Xs (EG _ _ w.heap.size md me rfl rfl h3) rfl ⟨by rw[hq],h4⟩
    ·have d5:(pe !=0)=true:=by simpa using ah
     go_wp2_with fail
     (try simp only[Exit.inBlock,Exit.then]);obtain⟨h3,h4⟩:=D5 (x:=.bool false) (y:=.string ⟨#[]⟩) (z:=.int .i64 0) a2 a4 (Q6 _);exact Xs (EG _ _ w.heap.size Ko 40 rfl rfl h3) rfl ⟨by rw[a0.out,Qe ah],h4⟩
abbrev Qgu(r:Bool × Qo × Bool):Q0:=.tuple #[.bool r.1,.string r.2.1,.bool r.2.2]
def yY(s:Qv):(Nt s).1<18446744073709551616:=by
 unfold Nt;split
 ·rename_i h;simp only[X1,Zz]at h;exact h.2
 ·decide
def U6(d:Dc):(Z9 d).2.1<18446744073709551616:=by
 unfold Z9;split
 ·decide
 ·exact yY _
def U7{P Q:Prop}(h:Q)(f:Wz Q->P:=by
 intro zz;go_at_call 291;refine(hob _ (hG.same Xd).pow).mono ?_;rintro e w1 ⟨rfl,hk1⟩;revert w1 hk1;exact zz.o):P:=f ⟨h⟩
def yZ{P:Prop}(h:P:=by
 exact⟨by rw[HQ.out];rfl,Xd⟩):P:=h
def U8{P:Prop}(h:P:=by
 refine Ni ?_;exact⟨rfl,rfl,rfl,Xd,HQ.out⟩):P:=h
def pG{P:Prop}(h:P:=by
 rcases h23 with h2|h2
 ·rw[h2];go_wp2;exact U8
 ·rw[h2];go_wp2;exact U8):P:=h
def sD(S:Qz)(t:Aa)(lv:Q0)(w:Qm)(hG:Ah N E w)(ho:t.hd.ok)(hr:Ad S w t.l lv)(hs:∀x∈t.l,x.hd.s.size<=400):
  Calls prog 234 #[Qu t.hd lv] w fun e w'=>e=.returned (Qgu (Hq t))/\Qd w w':=by
 obtain⟨a3,a,af,rfl,a5,hi⟩:=hr.shape
 obtain⟨h,l⟩:=t
 simp only[Aa.Ae,Aa.Ag]at*
 obtain⟨hk,hd,hw,hu,a8,b4⟩:=ho
 have j:Hq (.node h l)=(if h.kind=3 then((Z9 h.d).1,Xw (Z9 h.d).2.1,(Z9 h.d).2.2)
  else if h.kind≠9∨(h.u≠2/\h.u≠3)∨l.length≠1∨(Xp l 0).hd.kind≠6 then(false,⟨#[]⟩,false)
  else if(V2 (Qf (Xp l 0).hd.s)).2≠0 then(false,⟨#[]⟩,false)
  else if h.u=3 then(if(XC (Xh (V2 (Qf (Xp l 0).hd.s)).1) Om).2≠0 then(false,⟨#[]⟩,false)else(true,Xh (XC (Xh (V2 (Qf (Xp l 0).hd.s)).1) Om).1,true))
  else(false,Xh (V2 (Qf (Xp l 0).hd.s)).1,true)):=rfl
 replace j:=Qc j
 go_in
 go_wp2
 refine Ip (rest:=?rest) 0 (fun a w'=>a.tmps.size=75/\a.defers=[]/\Qd w w'/\Hq (.node h l)=(false,⟨#[]⟩,false)) (fun _ _=>0) ?hf ?_ ?_
 case hf=>rfl
 ·by_cases h3:h.kind=3
  ·rw[Qe h3]at j;have n:=fun W hg=>EB (N:=N) (E:=E) h.d W hg a8
   obtain⟨⟨ah,a6,b3⟩,hT⟩:∃q,Z9 h.d=q:=⟨_,rfl⟩;have z:=U6 h.d;rw[hT]at n z j;simp only at n z j;have r:=fun W hg=>Pv a6 W z hg
   obtain⟨dt,a0⟩:=X0 (Xw a6);rw[a0]at r j;clear hT a0;go_wp2_with(first
    | (go_at_call 183;refine(n _ (hG.same Xd)).mono ?_;rintro e w1 ⟨rfl,hk1⟩)
    | (go_at_call 215;refine(r _ (hG.same Xd).pow).mono ?_;rintro e w2 ⟨rfl,a2⟩))
   simp only[Exit.jump];go_ret3;exact⟨by rw[j.out];rfl,Xd⟩
  ·rw[Qa h3]at j;by_cases h9:h.kind=9
   ·by_cases h23:h.u=2∨h.u=3
    ·by_cases a7:l.length=1
     ·obtain⟨x,rfl⟩:=oW.1 a7;obtain⟨b,b7,b2,rfl,b1,p,a4,aa,f⟩:=hi 0 sM;simp only[Iv,CJ,Yf]at a4 aa f;have ag:=hs x sM;obtain⟨xa,xc,rfl⟩:=a4.Ab;obtain⟨d0,d1,d2,d3,d4,d5,d6,d7,d8⟩:=LT f;have a1:Xp [x] 0=x:=rfl;rw[a1]at j;clear hi a1 hr hs f p a5 a3;by_cases h6:x.hd.kind=6
      ·have v:=j.out;rw[Qa (by simp only[Xf,Vp];omega)]at v;have hob:=fun W h=>bU x.hd.s W oM h
       obtain⟨⟨ob,oe⟩,k⟩:∃q,V2 (Qf x.hd.s)=q:=⟨_,rfl⟩;rw[k]at hob v;simp only at hob v;by_cases m:oe=0
       ·subst m;rw[Qa sM]at v;rcases h23 with h2|h2
        ·rw[Qa oM]at v;have HQ:=Qc v;clear v k j;rw[h2];go_wp2_with(first
          | (refine U7 ?_;intro w1 hk1))
         simp only[Exit.jump];go_ret3;exact yZ
        ·rw[Qe h2]at v;have a9:(Xh ob).size<=1000000000:=by
          have h8:(V2 (Qf x.hd.s)).1.length<=400:=by
           unfold V2;exact kB
          rw[Jz];rw[k]at h8;exact Qj h8 dM
         have y:=fun W h=>cD (Xh ob) Om W a9 dM h
         obtain⟨⟨ad,ae⟩,hA⟩:∃q,XC (Xh ob) Om=q:=⟨_,rfl⟩;rw[hA]at v y;simp only at v y;have HQ:=Qc v;clear v k j hA;rw[h2];by_cases c:ae=0
         ·subst c;go_wp2_with(first
           | (refine U7 ?_;intro w1 hk1)
           | (go_at_call 292;refine(y _ (hG.same Xd).pow).mono ?_;rintro e w2 ⟨rfl,a2⟩))
          simp only[Exit.jump];go_ret3;exact yZ
         ·have ab:(ae !=0)=true:=by simpa using c
          go_wp2_with(first
           | (refine U7 ?_;intro w1 hk1)
           | (go_at_call 292;refine(y _ (hG.same Xd).pow).mono ?_;rintro e w2 ⟨rfl,a2⟩))
          refine Ni ?_;exact⟨rfl,rfl,rfl,Xd,by rw[HQ.out,Qe c]⟩
       ·rw[Qe m]at v;have HQ:=Qc v;have ac:(oe !=0)=true:=by simpa using m
        clear v k j;rcases h23 with h2|h2
        ·rw[h2];go_wp2_with(first
          | (refine U7 ?_;intro w1 hk1))
         exact U8
        ·rw[h2];go_wp2_with(first
          | (refine U7 ?_;intro w1 hk1))
         exact U8
      ·have v:=j.out;rw[Qe (.inr (.inr (.inr h6)))]at v;have HQ:=Qc v;clear v;exact pG
     ·have v:=j.out;rw[Qe (.inr (.inr (.inl a7)))]at v;have HQ:=Qc v;clear v;have b6:((h.u:Int)==3)=decide (h.u=3):=by
       by_cases h':h.u=3
       ·rw[h'];rfl
       ·rw[X6.2 (by omega:(h.u:Int)≠3),Z4 h']
      exact pG
    ·have v:=j.out;rw[Qe (.inr (.inl oM))]at v;have HQ:=Qc v;clear v;have b0:h.u≠2:=oM;have b5:h.u≠3:=oM;go_wp2;exact U8
   ·have v:=j.out;rw[Qe (.inl h9)]at v;replace v:=Qc v;go_wp2;refine Ni ?_;exact⟨rfl,rfl,rfl,Xd,v.out⟩
 ·rintro a w1 ⟨hs,hd,hk,hm⟩;go_wp2;simp only[Exit.jump];go_ret3;exact⟨by rw[hm];simp[Array.getD,hs],hk⟩
abbrev U9(r:Dc × Bool):Q0:=.tuple #[FY r.1,.bool r.2]
def S6(T:Array Q0)(W:Qm)(bx:Nat)(d:Dc)(e:Bool)(h2:T.getD 2 undef=.pointer (some ⟨bx,0,none⟩))(h3:T.getD 3 undef=.bool e)
  (hrow:W.heap[bx]? =some (.cells #[.bool d.neg,.string d.digits,.int .i64 d.exp] 23 (0,0))):(results f148 T).run prog W=.ok (U9 (d,e)) W:=by
 exact cE
def Dj(T:Array Q0)(W:Qm)(bx:Nat)(d:Dc)(e:Bool)(h2:T.getD 2 undef=.pointer (some ⟨bx,0,none⟩))(h3:T.getD 3 undef=.bool e)
  (hrow:W.heap[bx]? =some (.cells #[.bool d.neg,.string d.digits,.int .i64 d.exp] 23 (0,0))):(results f149 T).run prog W=.ok (U9 (d,e)) W:=by
 exact cE
def C9(T:Array Q0)(W:Qm)(bx:Nat)(d:Dc)(e:Bool)(h2:T.getD 2 undef=.pointer (some ⟨bx,0,none⟩))(h3:T.getD 3 undef=.bool e)
  (hrow:W.heap[bx]? =some (.cells #[.bool d.neg,.string d.digits,.int .i64 d.exp] 23 (0,0))):(results f90 T).run prog W=.ok (U9 (d,e)) W:=by
 exact cE
def cG(h:Hd)(a:Jr)(n cap:Nat)(w:Qm)(hG:Ah N E w)(ho:h.ok):
  Calls prog 148 #[Qu h (.slice a n cap)] w fun e w'=>e=.returned (U9 (D0 h))/\Qd w w':=by
 obtain⟨hk,hd,hw,hu,a4,a5⟩:=ho
 have t:=fun W=>Ps h.u h.w W hu
 have m:(Kx h.u h.w).1<18446744073709551616:=aU hu
 have j:D0 h=if(Kx h.u h.w).2≠0 then(Ko,false)else((CP (Kx h.u h.w).1).1,decide ((CP (Kx h.u h.w).1).2=0)):=rfl
 obtain⟨⟨wb,we⟩,hW⟩:∃q,Kx h.u h.w=q:=⟨_,rfl⟩
 rw[hW]at t m j
 simp only at t m j
 have c:=fun W hg=>sC (N:=N) (E:=E) wb W m hg
 obtain⟨⟨v,me⟩,hM⟩:∃q,CP wb=q:=⟨_,rfl⟩
 rw[hM]at c j
 simp only at c j
 replace j:=Qc j
 clear hW hM m
 go_in
 go_wp2_with fail
 refine(t _).mono ?_
 rintro x w1 ⟨rfl,a1⟩
 have b:=a1.same (w.heap.size+1) _ (show _=some (.cells #[.bool false,.string ⟨#[]⟩,.int .i64 0] 23 (0,0)) from Ql sM) trivial
 have k:Qd w w1:=Xd
 have c0:=Q1 b
 have a0:=Jd b
 by_cases f:we=0
 ·subst f;go_wp2_with fail;refine(c _ (hG.same k)).mono ?_;rintro x w2 ⟨rfl,r⟩;have d:=Qb (o:=.cells #[.bool v.neg,.string v.digits,.int .i64 v.exp] 23) (r.s b);have p:Qd w (w2.alloc (.cells #[.bool v.neg,.string v.digits,.int .i64 v.exp] 23)):=(k.trans r).alloc _;clear c0 a0;have c0:=Q1 d;have a2:=Jd d;go_wp2_with fail
  (try simp only[Exit.inBlock,Exit.then]);obtain⟨h3,h4⟩:=D5 (x:=.bool v.neg) (y:=.string v.digits) (z:=.int .i64 v.exp) p d oM;exact Xs (S6 _ _ (w.heap.size+1) v (decide (me=0)) rfl (by simp[Array.getD];try rfl) h3) rfl ⟨by rw[j.out];rfl,h4⟩
 ·have a3:(we !=0)=true:=by simpa using f
  go_wp2_with fail
  (try simp only[Exit.inBlock,Exit.then]);obtain⟨h3,h4⟩:=D5 (x:=.bool false) (y:=.string ⟨#[]⟩) (z:=.int .i64 0) k b oM;exact Xs (S6 _ _ (w.heap.size+1) Ko false rfl rfl h3) rfl ⟨by rw[j.out,Qe f],h4⟩
def kC(t:Aa):(Hq t).2.2=true->(Hq t).2.1.size<=1099511627776:=by
 have j:∀s,(Xh (V2 s).1).size<=1099511627776:=by
  intro s;rw[Jz];refine Qj ?_ (by decide:400<=1099511627776);unfold V2;exact kB
 have q:∀a b,(Xh (XC a b).1).size<=1099511627776:=by
  intro a b;rw[Jz];refine Qj ?_ (by decide:400<=1099511627776);unfold XC;split
  ·exact Py _
  ·simp
 intro h;unfold Hq at h|-;split
 ·exact Qj (Oq _ (U6 _)) dM
 ·split
  ·exact Xi _
  ·simp only;split
   ·exact Xi _
   ·split
    ·split
     ·exact Xi _
     ·exact q _ _
    ·exact j _
def Lk(t:Aa)(h:t.hd.u≠4∨t.l.length≠1∨(Xp t.l 0).hd.kind≠7∨(Xp t.l 0).l.length≠2):Hr t=(Ko,false):=by unfold Hr;rw[Qe h]
def sE(h ch:Hd)(x y:Aa)(h4:h.u=4)(h7:ch.kind=7)(hc:x.hd.kind≠3∨(Z9 x.hd.d).2.2=false∨(Hq y).2.2=false∨1000< (Z9 x.hd.d).2.1):Hr (.node h [.node ch [x,y]])=(Ko,false):=by
 unfold Hr;split
 ·rfl
 ·simp only;exact Qe hc
def sF(h ch:Hd)(x y:Aa)(h4:h.u=4)(h7:ch.kind=7)(hx:x.hd.kind=3)(hok:(Z9 x.hd.d).2.2=true)(hw:(Hq y).2.2=true)(hn:¬1000< (Z9 x.hd.d).2.1)(ex:Int)
  (hex:(if(Z9 x.hd.d).1=true then-((Z9 x.hd.d).2.1:Int)else((Z9 x.hd.d).2.1:Int))=ex):
  Hr (.node h [.node ch [x,y]])=((Jo (Hq y).1 (Hq y).2.1 ex).1,decide ((Jo (Hq y).1 (Hq y).2.1 ex).2=0)):=by
 subst hex
 unfold Hr
 rw[Qa (by intro h;rcases h with h|h|h|h;exact h h4;exact h rfl;exact h h7;exact h rfl)]
 simp only
 exact Qa (by intro h;rcases h with h|h|h|h;exact h hx;exact absurd (hok.symm.trans h) sM;exact absurd (hw.symm.trans h) sM;exact hn h)
def K4(h:Hd)(l:Qp)(x:Aa)(hx:x∈l)(y:Aa)(hy:y∈x.flat):y∈(Aa.node h l).flat:=by
 rw[Aa.flat];refine Kk _ ?_;have:∀l:Qp,x∈l->y∈Re l:=by
  intro l;induction l with
  |nil=>intro h;cases h
  |cons z l ih=>
   intro h;rw[Re];rcases Xg.1 h with rfl|h
   ·exact T7 _ hy
   ·exact YV _ (ih h)
 exact this l hx
def Z8(t:Aa):t∈t.flat:=by
 obtain⟨h,l⟩:=t;rw[Aa.flat];exact Yr
def Qfs{P Q:Prop}(h:Q)(f:Wz Q->P:=by
 intro zz;have hkw:∀{x y:Obj},Qd w ((w.alloc x).alloc y):=fun{x y}=>((Ac.refl _ _).alloc _).alloc _
 have hbw:∀{x:Obj},((w.alloc x).alloc (.cells #[.bool false,.string ⟨#[]⟩,.int .i64 0] 23)).heap[w.heap.size+1]? =some (.cells #[.bool false,.string ⟨#[]⟩,.int .i64 0] 23 (0,0)):=fun{x}=>Ql sM
 revert hkw hbw;exact zz.o):P:=f ⟨h⟩
def zA{P Q:Prop}(h:Q)(f:Wz Q->P:=by
 intro zz;have hcell:∀{p:Addr} {v:Q0},w.cell? p=some v->∀x y,((w.alloc x).alloc y).cell? p=some v:=fun{p v} hc x y=>hkw.cell hc fun _ _=>trivial
 revert hcell;exact zz.o):P:=f ⟨h⟩
def pH{P:Prop}(h:P:=by
 go_wp2_with fail
 (try simp only[Exit.inBlock,Exit.then]);exact Xs (Dj _ _ (w.heap.size+1) Ko false rfl rfl hbw) rfl ⟨by rw[HQ.out]<;>rfl,hkw⟩):P:=h
def sH(S:Qz)(t:Aa)(lv:Q0)(w:Qm)(hG:Ah N E w)(ho:t.hd.ok)(hr:Ad S w t.l lv)(hs:∀x∈t.flat,x.hd.s.size<=400):
  Calls prog 149 #[Qu t.hd lv] w fun e w'=>e=.returned (U9 (Hr t))/\Qd w w':=by
 obtain⟨ba,a,ce,rfl,bd,hi⟩:=hr.shape
 obtain⟨h,l⟩:=t
 simp only[Aa.Ae,Aa.Ag]at*
 obtain⟨hk,hd,hw,hu,cf,d4⟩:=ho
 refine Qfs ?_
 intro hkw hbw
 refine zA ?_
 intro hcell
 go_in
 by_cases h4:h.u=4
 ·by_cases bg:l.length=1
  ·obtain⟨c,rfl⟩:=oW.1 bg;obtain⟨b,d7,d2,rfl,cg,b1,ae,b6,p⟩:=hi 0 sM;simp only[Iv,CJ,Yf]at ae b6 p;have bc:∀x∈c.flat,x.hd.s.size<=400:=fun x hx=>hs x (K4 h [c] c sM x hx)
   obtain⟨c4,ca,cc,rfl,c7,ab⟩:=ae.shape;obtain⟨ch,cl⟩:=c;simp only[Aa.Ae,Aa.Ag]at*
   have d0:=hcell (p 0 _ rfl);have d8:=hcell (p 8 _ rfl);simp only[Yf]at d0;clear hi hr hs bd ba ae b1;by_cases h7:ch.kind=7
   ·by_cases c1:cl.length=2
    ·obtain⟨x,y,rfl⟩:∃x y,cl=[x,y]:=by
      rcases cl with _| ⟨x,_| ⟨y,_| ⟨z,cl⟩⟩⟩<;>simp at c1;exact⟨x,y,rfl⟩
     obtain⟨b2,cb,d5,rfl,c8,ac,be,a3,m⟩:=ab 0 sM;obtain⟨b3,c9,d1,e3,cd,a9,a8,a4,a6⟩:=ab 1 sM;cases e3;simp only[Iv,L0,CJ,Yf,Pi]at be a3 m a8 a4 a6;have bf:∀z∈y.l,z.hd.s.size<=400:=fun z hz=>bc z (K4 ch [x,y] y sM z (by obtain⟨yh,yl⟩:=y;exact K4 yh yl z hz z (Z8 z)))
     obtain⟨xa,xc,rfl⟩:=be.Ab;obtain⟨ya,yc,rfl⟩:=a8.Ab;have x2:=hcell (m 2 _ rfl);have x3:=hcell (m 3 _ rfl);have x4:=hcell (m 4 _ rfl);have a0:=fun W hg=>EB (N:=N) (E:=E) x.hd.d W hg a3.2.2.2.2.1
     have a2:=fun W hg c5=>sD (N:=N) (E:=E) S y (.slice ya y.l.length yc) W hg a4 c5 bf
     have ag:=U6 x.hd.d;have ad:=kC y;obtain⟨⟨b0,r,c3⟩,hT⟩:∃q,Z9 x.hd.d=q:=⟨_,rfl⟩;obtain⟨⟨a7,af,c6⟩,bh⟩:∃q,Hq y=q:=⟨_,rfl⟩;have v:=sE h ch x y h4 h7;have k:=sF h ch x y h4 h7;rw[hT]at a0 ag v k;rw[bh]at a2 ad v k;simp only at a0 ag a2 ad v k;replace v:=Qc v;replace k:=Qc k;clear ab ac a9 hT bh bc bf;go_wp2_with fail;refine(a0 _ (hG.same hkw)).mono ?_;rintro e w1 ⟨rfl,b8⟩;have f:=hkw.trans b8;have b4:=b8.s hbw;have y0:=Rv (Qy f a6);clear d0 d8 x2 x3 x4;go_wp2_with fail;refine(a2 _ (hG.same f) (a8.same f)).mono ?_;rintro e w2 ⟨rfl,b9⟩;have j:=f.trans b9;have n:=b9.s b4;have x0:=Qy j m 0 _ rfl;simp only[Yf]at x0;clear y0 b4 hkw hbw hcell a0 a2;have c0:=Q1 n;have c2:=Jd n;by_cases ah:x.hd.kind=3
     ·cases c3 with
      |false=>
       have HQ:=Qc (v.out (.inr (.inl rfl)));go_wp2_with fail
       (try simp only[Exit.inBlock,Exit.then]);obtain⟨p3,p4⟩:=D5 (x:=.bool false) (y:=.string ⟨#[]⟩) (z:=.int .i64 0) j n oM;exact Xs (Dj _ _ (w.heap.size+1) Ko false rfl rfl p3) rfl ⟨by rw[HQ.out],p4⟩
      |true=>
       cases c6 with
       |false=>
        have HQ:=Qc (v.out (.inr (.inr (.inl rfl))));go_wp2_with fail
        (try simp only[Exit.inBlock,Exit.then]);obtain⟨p3,p4⟩:=D5 (x:=.bool false) (y:=.string ⟨#[]⟩) (z:=.int .i64 0) j n oM;exact Xs (Dj _ _ (w.heap.size+1) Ko false rfl rfl p3) rfl ⟨by rw[HQ.out],p4⟩
       |true=>
        by_cases hn:1000<r
        ·have HQ:=Qc (v.out (.inr (.inr (.inr hn))));go_wp2_with fail
         (try simp only[Exit.inBlock,Exit.then]);obtain⟨p3,p4⟩:=D5 (x:=.bool false) (y:=.string ⟨#[]⟩) (z:=.int .i64 0) j n oM;exact Xs (Dj _ _ (w.heap.size+1) Ko false rfl rfl p3) rfl ⟨by rw[HQ.out],p4⟩
        ·have b7:=fun W ex he=>I4 a7 af ex W (ad rfl) he
         have d3:IntKind.i64.wrap (r:Int)=(r:Int):=by simp only[BW];omega
         obtain⟨ex,a1⟩:∃ex:Int,(if b0=true then-(r:Int)else(r:Int))=ex:=⟨_,rfl⟩;have hq:=k.out ah rfl rfl hn ex a1;obtain⟨⟨md,me⟩,hM⟩:∃q,Jo a7 af ex=q:=⟨_,rfl⟩;rw[hM]at hq;replace hq:=Qc hq;have b5:∀W,Calls prog 214 #[.bool a7,.string af,.int .i64 ex] W fun e w'=>e=.returned (yQ (md,me))/\Qd W w':=fun W=>by
          have:=b7 W ex (by rw[<-a1];split<;>omega);rwa [hM]at this
         clear b7 hM;cases b0;all_goals
          simp only[I7,Nk,BE]at a1
          subst a1
          go_wp2_with fail
          refine(b5 _).mono ?_
          rintro e w3 ⟨rfl,a5⟩
          have aa:=Qb (o:=.cells #[.bool md.neg,.string md.digits,.int .i64 md.exp] 23) (a5.s n)
          have bb:Qd w (w3.alloc (.cells #[.bool md.neg,.string md.digits,.int .i64 md.exp] 23)):=(j.trans a5).alloc _
          clear c0 c2 x0
          have c0:=Q1 aa
          have d6:=Jd aa
          go_wp2_with fail
          (try simp only[Exit.inBlock,Exit.then])
          obtain⟨p3,p4⟩:=D5 (x:=.bool md.neg) (y:=.string md.digits) (z:=.int .i64 md.exp) bb aa oM
          exact Xs (Dj _ _ (w.heap.size+1) md (decide (me=0)) rfl (by simp[Array.getD];try rfl) p3) rfl ⟨by rw[hq.out]<;>rfl,p4⟩
     ·have HQ:=Qc (v.out (.inl ah));go_wp2_with fail
      (try simp only[Exit.inBlock,Exit.then]);obtain⟨p3,p4⟩:=D5 (x:=.bool false) (y:=.string ⟨#[]⟩) (z:=.int .i64 0) j n oM;exact Xs (Dj _ _ (w.heap.size+1) Ko false rfl rfl p3) rfl ⟨by rw[HQ.out],p4⟩
    ·have HQ:=Qc (Lk (.node h [.node ch cl]) (.inr (.inr (.inr c1))));exact pH
   ·have HQ:=Qc (Lk (.node h [.node ch cl]) (.inr (.inr (.inl h7))));exact pH
  ·have HQ:=Qc (Lk (.node h l) (.inr (.inl bg)));exact pH
 ·have HQ:=Qc (Lk (.node h l) (.inl h4));exact pH
def LC(f:Int):∀(l:Qp) (e:Int),checkFrom f l e=0->e=0/\∀x∈l,Xc x=true/\Zj f x=true
 | [],e,h=>⟨h,sM⟩
 |x::l,e,h=>by
  rw[checkFrom]at h;cases ho:Xc x with
  |false=>rw[ho]at h;cases h
  |true=>
   rw[ho]at h;simp only[Bool.not_true,I7,Nk]at h;obtain⟨h1,h2⟩:=LC f l _ h;cases hf:Zj f x with
   |false=>rw[hf]at h1;cases h1
   |true=>
    rw[hf]at h1;refine⟨h1,fun y j=>?_⟩;rcases Xg.1 j with rfl|j
    ·exact⟨ho,hf⟩
    ·exact h2 y j
def Nl(h:Q5 t f=0):t.depth<=16/\Yk t<=300/\∀x∈t.flat,Xc x=true/\Zj f x=true:=by
 unfold Q5 at h;split at h
 ·cases h
 ·rename_i j;exact⟨oM,oM,(LC f _ _ h).2⟩
def Gr(hb:Zr t h=true):t.hd.s=h.s/\t.l=[]:=by
 unfold Zr at hb;simp only[X1,List.isEmpty_iff,Zz]at hb;exact⟨by rw[hb.2],hb.1⟩
def Ot{t:Aa}(h:Xc t=true):t.hd.s.size<=400:=by
 unfold Xc at h;by_cases m:t.hd.kind=1
 ·rw[Qe m]at h;rw[(Gr h).1];exact Xi _
 rw[Qa m]at h;by_cases u:t.hd.kind=2
 ·rw[Qe u]at h;rw[(Gr h).1];exact Xi _
 rw[Qa u]at h;by_cases y:t.hd.kind=3
 ·rw[Qe y]at h;simp only[X1]at h;rw[(Gr h.1).1];exact Xi _
 rw[Qa y]at h;by_cases b:t.hd.kind=4
 ·rw[Qe b]at h;simp only[X1]at h;rw[(Gr h.1).1];exact Xi _
 rw[Qa b]at h;by_cases d:t.hd.kind=5
 ·rw[Qe d]at h;simp only[X1,Zz]at h;exact h.1.2
 rw[Qa d]at h;by_cases z:t.hd.kind=6
 ·rw[Qe z]at h;simp only[X1,Zz]at h;exact h.2
 rw[Qa z]at h;by_cases c:t.hd.kind=7
 ·rw[Qe c]at h;rw[Zo h];exact Xi _
 rw[Qa c]at h;by_cases v:t.hd.kind=8
 ·rw[Qe v]at h;simp only[X1,Zz]at h;rw[h.1.1];exact Xi _
 rw[Qa v]at h;by_cases n:t.hd.kind=9
 ·rw[Qe n]at h;simp only[X1]at h;rw[Zo h.1];exact Xi _
 rw[Qa n]at h;by_cases q:t.hd.kind=10
 ·rw[Qe q]at h;simp only[X1]at h;rw[(Gr h.1.1).1];exact Xi _
 rw[Qa q]at h;by_cases j:t.hd.kind=11
 ·rw[Qe j]at h;simp only[X1,Zz]at h;exact h.2
 rw[Qa j]at h;cases h
def sI{t:Aa}(h:Q5 (Kl t) 2≠0):Xe t=(⟨#[]⟩,false):=by unfold Xe;rw[Qe h]
def ZY{t:Aa}(h:Q5 (Kl t) 2=0)(s:Qo)(hs:V5 t.hd=s):Xe t=if 400<s.size then(⟨#[]⟩,false)else(s,true):=by
 subst hs;unfold Xe;rw[Qa oM]
def cH{t:Aa}(h:Q5 (Kl t) 2=0):Xc t=true/\Jv 2 t=true:=by
 obtain⟨_,_,j⟩:=Nl h;refine⟨(j t (K4 _ _ t sM t (Z8 t))).1,?_⟩;have v:=(j (Kl t) (Z8 _)).2;have q:([t]:Qp).all (Jv 2)=true:=v;rw[Il,List.all_nil,Bool.and_true]at q;exact q
def Qd7{t:Aa}(hk:t.hd.kind=3)(h:Jv 2 t=true):Q2 t.hd.d=true/\0<=t.hd.d.exp/\t.hd.d.exp<=20:=by
 unfold Jv at h;rw[Qa oM,Qa dM,Qe hk]at h;unfold Z9 at h;split at h
 ·cases h
 ·rename_i j;simp only[Y2,FA,Zz,not_or,Bool.not_eq_false]at j;exact⟨j.1.1,oM,oM⟩
def K1(k:Int)(h:0<=k/\k<=100):(Qh k).ok:=
 ⟨⟨by show _<=k;omega,by show k<=_;omega⟩,⟨by show _<=(0:Int);decide,by show(0:Int)<=_;decide⟩,⟨by show _<=(0:Int);decide,by show(0:Int)<=_;decide⟩,by show 0<_;decide,Xi _,Xi _⟩
def Ou{b cap:Nat}{cur:Array Q0}{f:Nat × Nat}(hb:w.heap[b]? =some (.cells cur 27 f))(hS:S b)(hl:Ak S w l cur.toList)(hc:l.length<=cap)(hn:l.length<=1099511627776):Ad S w l (.slice (some ⟨b,0,none⟩) l.length cap):=by
 have j:=hl.length;exact⟨cur.toList,⟨hn,.inr ⟨b,0,cap,cur,f,rfl,hS,hb,hc,by rw[<-aA];omega,by rw[FU,<-j,Vc]⟩⟩,hl⟩
def S7(t:Aa):(Kl t).depth<=t.depth+2:=by
 simp only[Kl,Aa.depth,Xr];omega
def Qft{P Q:Prop}(h:Q)(f:Wz Q->P:=by
 intro zz;have hrow:∀W b,Qd w W->W.heap[b]? =some (.cells (Qn t.hd (.slice a t.l.length cap)++Qn (Qh 1) (.slice none 0 0)).toArray 27 (0,0))->Ad K3 W [t,.node (Qh 1) []] (.slice (some ⟨b,0,none⟩) 2 2):=by
  intro W b hs hb;refine Ou (l:=[t,.node (Qh 1) []]) hb trivial ?_ sM sM;show Ak K3 W [t,.node (Qh 1) []] (Qn t.hd (.slice a t.l.length cap)++Qn (Qh 1) (.slice none 0 0));rw[Ak];refine⟨_,_,rfl,?_,Y4 ?_⟩
  ·rw[<-Aa.eta t,Kc];exact⟨ho,_,rfl,(hr.mono fun _ _ _=>trivial).same hs⟩
  ·rw[Kc];exact⟨K1 1 dM,_,rfl,Ad.nil _ _⟩
 revert hrow;exact zz.o):P:=f ⟨h⟩
def kD{P Q:Prop}(h:Q)(f:Wz Q->P:=by
 intro zz;refine(hck _ Xd (hG.same Xd) (hrow _ _ Xd (Qb (Ql sM)))).mono ?_;exact zz.o):P:=f ⟨h⟩
def zB{P Q:Prop}(h:Q)(f:Wz Q->P:=by
 intro zz;have hbn:=hk1.same w.heap.size _ (Qb (Qb (Qt w _))) trivial;have hk1w:Qd w w1:=Xd;revert hbn hk1w;exact zz.o):P:=f ⟨h⟩
def zC{P Q:Prop}(h:Q)(f:Wz Q->P:=by
 intro zz;rw[Qs (d:=.bool) (.bool true) (.string ⟨#[116,114,117,101]⟩) underlying148 underlying4 trivial hm (by rfl)];generalize hX:World.putObj _ _ _=Y;revert Y hX;exact zz.o):P:=f ⟨h⟩
def zD{P Q:Prop}(h:Q)(f:Wz Q->P:=by
 intro zz;rw[Qs (d:=.bool) (.bool false) (.string ⟨#[102,97,108,115,101]⟩) underlying148 underlying4 trivial hm2 (by rfl)];generalize hX:World.putObj _ _ _=Z;revert Z hX;exact zz.o):P:=f ⟨h⟩
def Mo(S:Qz)(t:Aa)(lv:Q0)(w:Qm)(hG:Ah N E w)(ho:t.hd.ok)(hr:Ad S w t.l lv)(hd:t.depth<=1000000):
  Calls prog 70 #[Qu t.hd lv] w fun e w'=>e=.returned (.tuple #[.string (Xe t).1,.bool (Xe t).2])/\Qd w w':=by
 have af:=S7 t
 obtain⟨a,cap,rfl⟩:=hr.Ab
 refine Qft ?_
 intro hrow
 have hck:=fun W (hs:Qd w W) hg hrr=>G8 (N:=N) (E:=E) 2 (Kl t) (.slice (some ⟨w.heap.size+1,0,none⟩) 2 2) W hg oM hrr (K1 8 dM)
 have r:=@cH t
 have ac:=@sI t
 have f:=@ZY t
 have k:=@Qd7 t
 have ab:=@Ot t
 obtain⟨c,hc⟩:=X0 (Q5 (Kl t) 2)
 rw[hc]at hck r ac f
 obtain⟨h,l⟩:=t
 simp only[Aa.Ae,Aa.Ag]at*
 obtain⟨hk,b0,hw,hu,ae,ag⟩:=ho
 clear hc af hr
 go_in
 go_wp2_with fail
 refine kD ?_
 rintro x w1 ⟨rfl,hk1⟩
 refine zB ?_
 intro hbn hk1w
 clear hk1 hck hrow
 have n0:=Qi hbn
 by_cases a9:c=0
 ·subst a9;obtain⟨z,m⟩:=r rfl;have b1:=ab z;clear r ab;by_cases h3:h.kind=3
  ·have j:V5 h=(Z2 h.d).1:=by unfold V5;rw[Qe h3]
   obtain⟨q1,q2,q3⟩:=k h3 m;have a6:=fun W=>U3 h.d W ae q1 q2 q3
   obtain⟨⟨fs,fe⟩,hF⟩:∃q,Z2 h.d=q:=⟨_,rfl⟩;rw[hF]at j a6;simp only at j a6;clear hF k m z;go_wp2_with fail;refine(a6 _).mono ?_;rintro x w2 ⟨rfl,a8⟩;have n:=hk1w.trans a8;have y:=Qc (f (by first|trivial|rfl) (fs) j);by_cases h4:400< (fs).size
   ·have a2:decide ((400:Int)< ((fs).size:Int))=true:=by simp;omega
    go_wp2_with fail;go_ret2;exact⟨by rw[y.out,Qe h4];rfl,n⟩
   ·have a2:decide ((400:Int)< ((fs).size:Int))=false:=by simp;omega
    go_wp2_with fail;go_ret2;exact⟨by rw[y.out,Qa h4];rfl,n⟩
  ·by_cases h2:h.kind=2
   ·have a3:=hbn;clear k m z;cases hb:h.b
    ·have j:V5 h=jX:=by unfold V5;rw[Qa h3,Qe h2,hb];rfl
     clear hbn;have hbn:w1.heap[w.heap.size]? =some (.cells #[.int .i64 h.kind,.bool false,.bool h.d.neg,.string h.d.digits,.int .i64 h.d.exp,.int .u64 (h.u:Int),.int .i64 h.w,.string h.s,.slice a l.length cap] 27 (0,0)):=by rw[<-hb];exact a3
     go_wp2_with fail;rw[Mg];obtain⟨X,hX⟩:=X0 (w1.alloc (.map #[] 0));have hs:Qd w1 X:=by rw[<-hX];exact Xd
     have hm:X.heap[w1.heap.size]? =some (.map #[] 0):=by rw[<-hX];exact Qt w1 _
     rw[hX];clear hX;go_wp2_with fail;refine zC ?_;intro Y hX;have a0:Qd w1 Y:=by rw[<-hX];exact hs.putObj _ fun o _ _ h=>oM
     have hm2:Y.heap[w1.heap.size]? =some (.map #[{key:=.bool true,val:=.string ⟨#[116,114,117,101]⟩,born:=0}] 1):=by rw[<-hX];exact CI (Qg hm)
     clear hX hs hm;go_wp2_with fail;refine zD ?_;intro Z hX;have p:Qd w1 Z:=by rw[<-hX];exact a0.putObj _ fun o _ _ h=>oM
     have a7:Z.heap[w1.heap.size]? =some (.map #[{key:=.bool true,val:=.string ⟨#[116,114,117,101]⟩,born:=0},{key:=.bool false,val:=.string ⟨#[102,97,108,115,101]⟩,born:=1}] 2):=by rw[<-hX];exact CI (Qg hm2)
     clear hX a0 hm2;have a5:=p.s hbn;have m0:=Qi a5;have ad:(Instr.lookup 148 (.map (some w1.heap.size)) (.bool false) false).run prog Z=.ok (.string ⟨#[102,97,108,115,101]⟩) Z:=Xj (d:=.bool) (i:=1) (v:=.string ⟨#[102,97,108,115,101]⟩) (.bool false) underlying148 underlying4 trivial a7 (by rfl) false;have y:=Qc ((f (by first|trivial|rfl) jX j).trans (Qa dM));go_wp2_with fail;go_ret2;exact⟨by rw[y.out];rfl,hk1w.trans p⟩
    ·have j:V5 h=yT:=by unfold V5;rw[Qa h3,Qe h2,hb];rfl
     clear hbn;have hbn:w1.heap[w.heap.size]? =some (.cells #[.int .i64 h.kind,.bool true,.bool h.d.neg,.string h.d.digits,.int .i64 h.d.exp,.int .u64 (h.u:Int),.int .i64 h.w,.string h.s,.slice a l.length cap] 27 (0,0)):=by rw[<-hb];exact a3
     go_wp2_with fail;rw[Mg];obtain⟨X,hX⟩:=X0 (w1.alloc (.map #[] 0));have hs:Qd w1 X:=by rw[<-hX];exact Xd
     have hm:X.heap[w1.heap.size]? =some (.map #[] 0):=by rw[<-hX];exact Qt w1 _
     rw[hX];clear hX;go_wp2_with fail;refine zC ?_;intro Y hX;have a0:Qd w1 Y:=by rw[<-hX];exact hs.putObj _ fun o _ _ h=>oM
     have hm2:Y.heap[w1.heap.size]? =some (.map #[{key:=.bool true,val:=.string ⟨#[116,114,117,101]⟩,born:=0}] 1):=by rw[<-hX];exact CI (Qg hm)
     clear hX hs hm;go_wp2_with fail;refine zD ?_;intro Z hX;have p:Qd w1 Z:=by rw[<-hX];exact a0.putObj _ fun o _ _ h=>oM
     have a7:Z.heap[w1.heap.size]? =some (.map #[{key:=.bool true,val:=.string ⟨#[116,114,117,101]⟩,born:=0},{key:=.bool false,val:=.string ⟨#[102,97,108,115,101]⟩,born:=1}] 2):=by rw[<-hX];exact CI (Qg hm2)
     clear hX a0 hm2;have a5:=p.s hbn;have m0:=Qi a5;have ad:(Instr.lookup 148 (.map (some w1.heap.size)) (.bool true) false).run prog Z=.ok (.string ⟨#[116,114,117,101]⟩) Z:=Xj (d:=.bool) (i:=0) (v:=.string ⟨#[116,114,117,101]⟩) (.bool true) underlying148 underlying4 trivial a7 (by rfl) false;have y:=Qc ((f (by first|trivial|rfl) yT j).trans (Qa dM));go_wp2_with fail;go_ret2;exact⟨by rw[y.out];rfl,hk1w.trans p⟩
   ·by_cases h1:h.kind=1
    ·have j:V5 h=yU:=by unfold V5;rw[Qa h3,Qa h2,Qe h1]
     clear k m z;have y:=Qc ((f (by first|trivial|rfl) yU j).trans (Qa dM));go_wp2_with fail;go_ret2;exact⟨by rw[y.out];rfl,hk1w⟩
    ·by_cases h6:h.kind=6
     ·have j:V5 h=Xh (He (Qf h.s)).1:=by unfold V5;rw[Qa h3,Qa h2,Qa h1,Qe h6]
      have a1:=fun W=>Ur h.s W oM
      obtain⟨⟨cs,ce⟩,hC⟩:∃q,He (Qf h.s)=q:=⟨_,rfl⟩;rw[hC]at j a1;simp only at j a1;obtain⟨ct,a4⟩:∃q,Xh cs=q:=⟨_,rfl⟩;have aa:two (cs,ce)=.tuple #[.string ct,.int .i64 ce]:=by rw[<-a4];rfl
      rw[a4]at j;rw[aa]at a1;clear hC k m z aa a4;go_wp2_with fail;refine(a1 _).mono ?_;rintro x w2 ⟨rfl,a8⟩;have n:=hk1w.trans a8;have y:=Qc (f (by first|trivial|rfl) (ct) j);by_cases h4:400< (ct).size
      ·have a2:decide ((400:Int)< ((ct).size:Int))=true:=by simp;omega
       go_wp2_with fail;go_ret2;exact⟨by rw[y.out,Qe h4];rfl,n⟩
      ·have a2:decide ((400:Int)< ((ct).size:Int))=false:=by simp;omega
       go_wp2_with fail;go_ret2;exact⟨by rw[y.out,Qa h4];rfl,n⟩
     ·have j:V5 h=h.s:=by unfold V5;rw[Qa h3,Qa h2,Qa h1,Qa h6]
      clear k m z;have y:=Qc (f (by first|trivial|rfl) (h.s) j);have h4:¬400<h.s.size:=oM;have a2:decide ((400:Int)< (h.s.size:Int))=false:=by simp;omega
      go_wp2_with fail;go_ret2;exact⟨by rw[y.out,Qa h4];rfl,hk1w⟩
 ·have ah:(c !=0)=true:=by simpa using a9
  go_wp2_with fail;go_ret2;exact⟨by rw[ac a9]<;>rfl,hk1w⟩
end Go.Tm
namespace Go.Tm
open Go.Proofs Go.RowKit Go.Sort Go.Proofs.Tryz
variable{x:Aa}{ps:List (Aa × Aa)}
def kE:=@List.mem_take_iff_getElem
def Mp:=@List.nodup_cons
def Qh7:Qp->Qp
 |k::x::l=>Qh7 l++[k,x]
 |_=>[]
mutual
def Aa.B8:Aa->Aa
 | .node h l=>.node h (if h.kind=8/\l.length % 2=0 then Qh7 (ZZ l)else ZZ l)
def ZZ:Qp->Qp
 | []=>[]
 |x::l=>x.B8::ZZ l
end
def sJ:∀l:Qp,ZZ l=l.map Aa.B8
 | []=>by rw[ZZ];rfl
 |x::l=>by rw[ZZ,sJ l];rfl
def Qq(ps:List (Aa × Aa)):Qp:=ps.flatMap fun p=>[p.1,p.2]
def Xm(p:Aa × Aa)(ps:List (Aa × Aa)):Qq (p::ps)=p.1::p.2::Qq ps:=rfl
def D6(a b:List (Aa × Aa)):Qq (a++b)=Qq a++Qq b:=by simp[Qq]
def Mq:∀l:Qp,l.length % 2=0->∃ps,l=Qq ps
 | [],_=>⟨[],rfl⟩
 | [_],h=>by simp at h
 |k::x::l,h=>by
  obtain⟨ps,hp⟩:=Mq l (by simp at h;omega);exact⟨(k,x)::ps,by rw[Xm,<-hp]⟩
def Z6(ps:List (Aa × Aa)):(Qq ps).length=2*ps.length:=by
 induction ps with
 |nil=>rfl
 |cons p ps ih=>rw[Xm];simp only[Xf,ih];omega
def BF(ps:List (Aa × Aa)):Zb (Qq ps)=ps.map Prod.fst:=by
 induction ps with
 |nil=>rfl
 |cons p ps ih=>rw[Xm,Zb,ih];rfl
def J6:x∈Qq ps↔∃p∈ps,x=p.1∨x=p.2:=by simp[Qq]
def Cj:∀{l:Qp},x∈Re l↔∃k∈l,x∈k.flat
 | []=>by simp[Re]
 |y::l=>by rw[Re,Kn,Cj (l:=l)];simp
def Kj(P:Aa->Prop)(t:Aa):(∀x∈t.flat,P x)↔P t/\∀k∈t.l,∀x∈k.flat,P x:=by
 obtain⟨h,l⟩:=t;rw[Aa.flat,Aa.Ag];constructor
 ·intro H;exact⟨H _ Yr,fun k j x hx=>H x (Kk _ (Cj.2 ⟨k,j,hx⟩))⟩
 ·rintro⟨q,v⟩ x hx;rcases Xg.1 hx with rfl|hx
  ·exact q
  ·obtain⟨k,j,hx⟩:=Cj.1 hx;exact v k j x hx
def Nx(l:Qp):J8 l=false↔l.Nodup:=by
 rw[List.nodup_iff_pairwise_ne,jY];constructor
 ·intro h i j n q u e;have:J8 l=true:=by
   unfold J8;rw[FV];refine⟨j,Vw.2 q,?_⟩;unfold Ct;rw[Km q];simp only;rw[FV];refine⟨l[i],?_,(Ru _ _).2 e.symm⟩;rw[kE];exact⟨i,oM,rfl⟩
  rw[this]at h;cases h
 ·intro h;cases hh:J8 l with
  |false=>rfl
  |true=>
   unfold J8 at hh;rw[FV]at hh;obtain⟨j,q,v⟩:=hh;have q:=Vw.1 q;unfold Ct at v;rw[Km q]at v;simp only at v;rw[FV]at v;obtain⟨y,z,m⟩:=v;rw[kE]at z;obtain⟨i,n,rfl⟩:=z;exact absurd ((Ru _ _).1 m).symm (h i j oM q oM)
def V3(p:Aa × Aa):Qo:=(Xe p.1).1
def UA(seen:List Qo)(ps:List (Aa × Aa)):Prop:=(∀p∈ps,(Xe p.1).2=true/\V3 p∉seen)/\(ps.map V3).Nodup
def Qd8(l:Qv):Nat:=l.foldr max 0
def Qd9{a:Qv}{x:Nat}(h:x∈a):x<=Qd8 a:=by
 induction a with
 |nil=>cases h
 |cons y a ih=>
  simp only[Qd8,List.foldr_cons]at ih|-;rcases Xg.1 h with rfl|h
  ·omega
  ·have:=ih h;omega
variable(X:Hd->Dc × Bool)
def BX(p:Aa × Aa):Qo × Aa:=(V3 p,(p.2.proj X).1)
def RI(s:Qo):∀l:List Qo,l.contains s=true↔s∈l
 | []=>sM
 |x::l=>by
  rw[List.contains_cons,Y2,RI s l,Xg,MapKept.bytes_beq]
def UB:∀(ps:List (Aa × Aa)) (seen:List Qo),UA seen ps->X8 X (Qq ps) seen=(ps.map (BX X),Qd8 (ps.map fun p=>(p.2.proj X).2))
 | [],seen,_=>by
  rw[show Qq []=[] from rfl,X8]
  ·rfl
  ·intro k x l h;cases h
 |p::ps,seen,⟨h1,h2⟩=>by
  have hp:=h1 p sM;rw[Xm,X8,Qa (by rintro(h|h);rw[hp.1]at h;cases h;exact hp.2 ((RI _ _).1 h))];rw[Zy,Mp]at h2;have y:UA (V3 p::seen) ps:=⟨fun q v=>⟨(h1 q (by simp[v])).1,fun j=>by
   rcases Xg.1 j with e|j
   ·exact h2.1 (Xq.2 ⟨q,v,e⟩)
   ·exact(h1 q (by simp[v])).2 j⟩,h2.2⟩
  have:=UB ps _ y;unfold V3 at this;rw[this];rfl
def KA:∀(ps:List (Aa × Aa)) (seen:List Qo),¬UA seen ps->(X8 X (Qq ps) seen).2=2
 | [],seen,h=>absurd ⟨sM,sM⟩ h
 |p::ps,seen,h=>by
  have h1:=Aa.AP X p.2;rw[Xm,X8];by_cases z:(Xe p.1).2=false∨seen.contains (Xe p.1).1
  ·rw[Qe z];show max _ 2=2;omega
  ·rw[Qa z];have n:(Xe p.1).2=true:=by
    cases hh:(Xe p.1).2 with
    |true=>rfl
    |false=>exact absurd (.inl hh) z
   have u:V3 p∉seen:=fun v=>z (.inr ((RI _ _).2 v))
   have m:=KA ps (V3 p::seen) fun y=>h ⟨fun q j=>by
    rcases Xg.1 j with rfl|j
    ·exact⟨n,u⟩
    ·exact⟨(y.1 q j).1,fun v=>(y.1 q j).2 (Kk _ v)⟩,by
    rw[Zy,Mp];refine⟨fun v=>?_,y.2⟩;obtain⟨q,j,e⟩:=Xq.1 v;exact(y.1 q j).2 (by rw[e];exact Yr)⟩
   show max _ _=2;unfold V3 at m;rw[m];omega
end Go.Tm
namespace Go.Tm
open Go.Proofs Go.RowKit Go.Proofs.Tryz
variable{h:Hd}{c t x y:Aa}{B b i j k:Nat}{p q:List Aj}{T:TypeId}{w w':Qm}
def Zm:=@List.mem_singleton
def LD:=@List.find?_cons
def Fp:=@Option.some.injEq
def Nm:=@List.mem_flatMap
def Pz:=@List.mem_filter
def Ze(t:Aa):Bool:=decide (t.hd.kind=9)&& !(Hr t).2
def Xn(h:Hd):Bool:=decide (h.kind=7)||decide (h.kind=8)
mutual
def Q3:Aa->Aa
 | .node h l=>if Ze (.node h l)then zE l else .node h l
def zE:Qp->Aa
 | []=>.node (Qh 0) []
 |x::_=>Q3 x
end
mutual
def Xo(y:Aa):Aa->Aa
 | .node h l=>if Ze (.node h l)then .node {Qh 9 with u:=h.u} [D7 y l]else y
def D7(y:Aa):Qp->Aa
 | []=>y
 |x::_=>Xo y x
end
def Ya:Aa:=.node (Qh 1) []
def Zs:Qp->Qp
 |k::_::l=>k::Ya::Zs l
 |_=>[]
def BY(k:Int)(l:Qp):Qp:=if k=8 then Zs l else[]
def Zk(x:Aa):Aa:=.node (Qh x.hd.kind) (BY x.hd.kind x.l)
def Xu(t:Aa):Aa:=if Xn (Q3 t).hd then Xo (Zk (Q3 t)) t else t
def P0(X:Hd->Dc × Bool)(t:Aa):Ze t=(decide (t.hd.kind=9)&& !(Zw X t).2):=by
 obtain⟨h,l⟩:=t;unfold Ze;by_cases j:h.kind=9
 ·have:Zw X (.node h l)=Hr (.node h l):=by
   show(if h.kind=3 then(h.d,Q2 h.d)else if h.kind=4 then D0 h else if h.kind=9 then Hr (.node h l)else if h.kind=11 then X h else(Ko,false))=_;rw[Qa oM,Qa oM,Qe j]
  rw[this]
 ·simp[j]
def CA(ht:Ze (.node h [x])=true):Q3 (.node h [x])=Q3 x:=by rw[Q3,Qe ht,zE]
def Y7(ht:Ze t=false):Q3 t=t:=by
 obtain⟨h,l⟩:=t;rw[Q3,Qa (by rw[ht];decide)]
def V4(ht:Ze (.node h [x])=true):Xo y (.node h [x])=.node {Qh 9 with u:=h.u} [Xo y x]:=by rw[Xo,Qe ht,D7]
def Z7(ht:Ze t=false):Xo y t=y:=by
 obtain⟨h,l⟩:=t;rw[Xo,Qa (by rw[ht];decide)]
def Mr(h:t.hd.kind≠9):Ze t=false:=by unfold Ze;rw[Z4 h];rfl
def RJ{u:Nat}{z:Aa}(h:z.hd.kind≠7∨z.l.length≠2):Ze (.node {Qh 9 with u:=u} [z])=true:=by
 unfold Ze;have:(Hr (.node {Qh 9 with u:=u} [z])).2=false:=by
  unfold Hr;rw[Qe];simp only[Aa.Ag,Xp,List.getD_cons_zero];rcases h with h|h
  ·exact .inr (.inr (.inl h))
  ·exact .inr (.inr (.inr h))
 rw[this];rfl
def Tw(h9:t.hd.kind=9)(ho:Xc t=true):∃x,t=.node {Qh 9 with u:=t.hd.u} [x]:=by
 obtain⟨h,l⟩:=t;simp only[Aa.Ae]at h9;have e:Xc (.node h l)=(decide (h={Qh 9 with u:=h.u})&&decide (l.length=1)):=by
  unfold Xc;simp only[Aa.Ae,Aa.Ag,h9];rfl
 rw[e,X1]at ho;have j:=Zo ho.1;have q:=Zo ho.2;match l,q with
 | [x],_=>exact⟨x,by rw[Aa.Ae,<-j]⟩
def cI(y:Aa):∀t:Aa,Xo y t=y∨(Xo y t).hd.kind=9
 | .node h l=>by
  rw[Xo];by_cases c:Ze (.node h l)=true
  ·rw[Qe c];exact .inr rfl
  ·rw[Qa c];exact .inl rfl
def Tx(y:Aa):Prop:=Ze y=false/\(y.hd.kind≠7∨y.l.length≠2)
def Ms(hy:Tx y)(t:Aa):(Xo y t).hd.kind≠7∨(Xo y t).l.length≠2:=by
 rcases cI y t with e|e
 ·rw[e];exact hy.2
 ·left;rw[e];decide
def Gs(ho:∀y∈(Aa.node h [x]).flat,Xc y=true):∀y∈x.flat,Xc y=true:=((Kj (fun y=>Xc y=true) (.node h [x])).1 ho).2 x (Zm.2 rfl)
def Rw(ho:∀y∈t.flat,Xc y=true):Xc t=true:=ho _ (Z8 t)
def Qgv{P:Prop}(h:P:=by
 unfold Ze at c;rw[X1]at c;exact Zo c.1):P:=h
def Ty{P Q:Prop}(h:Q)(f:Wz Q->P:=by
 intro zz;have h9:(Aa.node h l).hd.kind=9:=by
  exact Qgv
 obtain⟨x,e⟩:=Tw h9 (Rw ho);revert h9 x e;exact zz.o):P:=f ⟨h⟩
def Ec(hy:Tx y):∀t:Aa,(∀x∈t.flat,Xc x=true)->Q3 (Xo y t)=y:=by
 refine Aa.ind fun h l j ho=>?_
 by_cases c:Ze (.node h l)=true
 ·refine Ty ?_;intro h9 x e;rw[e]at c ho|-;have q:l=[x]:=by injection e
  rw[V4 c,CA (RJ (Ms hy x))];exact j x (by rw[q];exact Zm.2 rfl) (Gs ho)
 ·have c':Ze (.node h l)=false:=by simpa using c
  rw[Z7 c',Y7 hy.1]
def E4{y z:Aa}(hy:Tx y):∀t:Aa,(∀x∈t.flat,Xc x=true)->Xo z (Xo y t)=Xo z t:=by
 refine Aa.ind fun h l j ho=>?_
 by_cases c:Ze (.node h l)=true
 ·refine Ty ?_;intro h9 x e;rw[e]at c ho|-;have q:l=[x]:=by injection e
  rw[V4 c,V4 (RJ (Ms hy x)),V4 c,j x (by rw[q];exact Zm.2 rfl) (Gs ho)]
 ·have c':Ze (.node h l)=false:=by simpa using c
  rw[Z7 c',Z7 hy.1,Z7 c']
def S8:∀l:Qp,Zs (Zs l)=Zs l
 | []=>by simp[Zs]
 | [x]=>by simp[Zs]
 |k::x::l=>by rw[Zs,Zs,S8 l]
def Ry(hx:Xn x.hd=true):Tx (Zk x):=by
 unfold Xn at hx;simp only[Y2,Zz]at hx;refine⟨Mr ?_,?_⟩
 ·show x.hd.kind≠9;omega
 ·rcases hx with h|h
  ·right;show(BY x.hd.kind x.l).length≠2;unfold BY;rw[Qa oM];decide
  ·left;show x.hd.kind≠7;omega
def UC(x:Aa):Zk (Zk x)=Zk x:=by
 show Aa.node (Qh x.hd.kind) (BY x.hd.kind (BY x.hd.kind x.l))=Aa.node (Qh x.hd.kind) (BY x.hd.kind x.l);congr 1;unfold BY;by_cases h:x.hd.kind=8
 ·rw[Qe h,Qe h,S8]
 ·rw[Qa h,Qa h]
def cJ(ho:∀x∈t.flat,Xc x=true):Xu (Xu t)=Xu t:=by
 by_cases c:Xn (Q3 t).hd=true
 ·have e:Xu t=Xo (Zk (Q3 t)) t:=by unfold Xu;rw[Qe c]
  have j:=Ry c;have q:=Ec j t ho;rw[e];unfold Xu;rw[q,Qe (show Xn (Zk (Q3 t)).hd=true from c),UC,E4 j t ho]
 ·have e:Xu t=t:=by unfold Xu;rw[Qa c]
  rw[e,e]
def Ov:∀l:Qp,Q7 (Zs l)<=Q7 l
 | []=>by simp[Zs]
 | [x]=>by simp[Zs,Q7]
 |k::x::l=>by
  have:=Ov l;have j:Ya.count=1:=rfl;have q:=Aa.Bl x;rw[Zs,Q7,Q7,Q7,Q7,j];omega
def Tg(x:Aa):(Zk x).count<=x.count:=by
 obtain⟨h,l⟩:=x;show(Aa.node (Qh h.kind) (BY h.kind l)).count<=_;rw[Aa.count,Aa.count];unfold BY;by_cases j:h.kind=8
 ·rw[Qe j];have:=Ov l;omega
 ·rw[Qa j];simp[Q7]
def RK:∀t:Aa,(∀x∈t.flat,Xc x=true)->y.count<=(Q3 t).count->(Xo y t).count<=t.count:=by
 refine Aa.ind fun h l q ho j=>?_
 by_cases c:Ze (.node h l)=true
 ·refine Ty ?_;intro h9 x e;rw[e]at c ho j|-;have v:l=[x]:=by injection e
  rw[CA c]at j
  have:=q x (by rw[v];exact Zm.2 rfl) (Gs ho) j;rw[V4 c,Aa.count,Aa.count,Q7,Q7,Q7];omega
 ·have c':Ze (.node h l)=false:=by simpa using c
  rw[Y7 c']at j;rw[Z7 c'];exact j
def S9(ho:∀x∈t.flat,Xc x=true):(Xu t).count<=t.count:=by
 unfold Xu;split
 ·exact RK t ho (Tg _)
 ·exact Q6 _
def zF(ho:∀x∈t.flat,Xc x=true):(Xu t).hd.kind=t.hd.kind/\(Xu t).hd.u=t.hd.u:=by
 unfold Xu;split
 ·rename_i c;by_cases j:Ze t=true
  ·have y:t.hd.kind=9:=by
    unfold Ze at j;rw[X1]at j;exact Zo j.1
   obtain⟨x,e⟩:=Tw y (Rw ho);rw[e]at j|-;rw[V4 j];exact LV
  ·have q:Ze t=false:=by simpa using j
   rw[Y7 q]at c|-;rw[Z7 q];refine⟨rfl,?_⟩;show 0=t.hd.u;obtain⟨h,l⟩:=t;have v:=Rw ho;unfold Xn at c;rw[Y2]at c;rw[Aa.Ae]at c|-;rcases c with c|c
   ·have c:=Zo c;have e:Xc (.node h l)=decide (h=Qh 7):=by
     unfold Xc;rw[Qa (show¬(Aa.node h l).hd.kind=1 by rw[Aa.Ae,c];decide),Qa (show¬(Aa.node h l).hd.kind=2 by rw[Aa.Ae,c];decide),Qa (show¬(Aa.node h l).hd.kind=3 by rw[Aa.Ae,c];decide),Qa (show¬(Aa.node h l).hd.kind=4 by rw[Aa.Ae,c];decide),Qa (show¬(Aa.node h l).hd.kind=5 by rw[Aa.Ae,c];decide),Qa (show¬(Aa.node h l).hd.kind=6 by rw[Aa.Ae,c];decide),Qe (show(Aa.node h l).hd.kind=7 from c)];rfl
    rw[e]at v;rw[Zo v];rfl
   ·have c:=Zo c;have e:Xc (.node h l)=(decide (h=Qh 8)&&decide (l.length % 2=0)&& !J8 (Zb l)):=by unfold Xc;simp only[Aa.Ae,Aa.Ag,c];rfl
    rw[e,X1,X1]at v;rw[Zo v.1.1];rfl
 ·exact LV
structure Aj where
 index:Int
 key:Qo
 deriving DecidableEq
def X4(i:Nat):Aj:=⟨(i:Int),⟨#[]⟩⟩
def Yb(s:Qo):Aj:=⟨-1,s⟩
def X5(s:Aj):Bool:=(decide (s.key=⟨#[]⟩)&&decide (0<=s.index))||(decide (s.index= -1)&&decide (s.key.size<=400)&&Gm s.key)
def Xv(p:List Aj):Bool:=decide (p.length<=16)&&p.all X5
def Yc(t:Aa)(k:Nat):Option (Aj × Nat):=
 if t.hd.kind=8/\k % 2=0/\k+1<t.l.length/\(Xp t.l k).hd.kind=5 then some (Yb (Xp t.l k).hd.s,k+1)
 else if t.hd.kind=7 then some (X4 k,k)else none
def Qx(t:Aa):Nat->List (Aj × Nat)
 |0=>[]
 |k+1=>match Yc t k with
  |none=>Qx t k
  |some x=>if x.1∈(Qx t k).map Prod.fst then Qx t k else Qx t k++[x]
def Vm(h:Yc t k=none):Qx t (k+1)=Qx t k:=by rw[Qx,h]
def Gt{x:Aj × Nat}(h:Yc t k=some x)(hx:x.1∈(Qx t k).map Prod.fst):Qx t (k+1)=Qx t k:=by rw[Qx,h];exact Qe hx
def Jp{x:Aj × Nat}(h:Yc t k=some x)(hx:x.1∉(Qx t k).map Prod.fst):Qx t (k+1)=Qx t k++[x]:=by rw[Qx,h];exact Qa hx
def cL(t:Aa):∀(n k:Nat),k<=n->∃r,Qx t n=Qx t k++r:=by
 intro n;induction n with
 |zero=>
  intro k h;have:k=0:=oM;subst this;exact⟨[],(Hy _).symm⟩
 |succ n ih=>
  intro k h;by_cases e:k=n+1
  ·subst e;exact⟨[],sM⟩
  ·obtain⟨r,j⟩:=ih k oM;cases hc:Yc t n with
   |none=>exact⟨r,by rw[Vm hc,j]⟩
   |some x=>
    by_cases hx:x.1∈(Qx t n).map Prod.fst
    ·exact⟨r,by rw[Gt hc hx,j]⟩
    ·exact⟨r++[x],by rw[Jp hc hx,j,Y1]⟩
def KB(h:X4 i=X4 j):i=j:=by
 unfold X4 at h;injection h with h1;omega
def Gu(h7:t.hd.kind=7):∀k,Qx t k=(List.range k).map fun i=>(X4 i,i)
 |0=>rfl
 |k+1=>by
  have hc:Yc t k=some (X4 k,k):=by unfold Yc;rw[Qa oM,Qe h7]
  have q:(X4 k,k).1∉(Qx t k).map Prod.fst:=by
   rw[Gu h7 k,Ka];intro h;obtain⟨i,j,e⟩:=Xq.1 h
   have:=KB (show X4 i=X4 k from e)
   have:=Vw.1 j;omega
  rw[Jp hc q,Gu h7 k,OW,Hg];rfl
def Ht(t:Aa):List (Aj × Nat):=Qx t t.l.length
def gS(t:Aa)(s:Aj):Option Nat:=((Ht t).find? fun x=>decide (x.1=s)).map Prod.snd
def MI:Aa->List Aj->Option Aa
 |t,[]=>some t
 |t,s::p=>match gS t s with
  |none=>none
  |some i=>MI (Xp t.l i) p
def D8(t:Aa)(p:List Aj):Option Aa:=if Xv p then MI t p else none
def V6:Nat->Aa->List Aj->List (List Aj)
 |0,_,p=>[p]
 |d+1,t,p=>p::((Ht t).filter fun x=>X5 x.1).flatMap fun x=>V6 d (Xp t.l x.2) (p++[x.1])
def Th(t:Aa):List (List Aj):=V6 16 t []
def Ed(t:Aa):∀k,((Qx t k).map Prod.fst).Nodup
 |0=>List.nodup_nil
 |k+1=>by
  cases hc:Yc t k with
  |none=>rw[Vm hc];exact Ed t k
  |some x=>
   by_cases hx:x.1∈(Qx t k).map Prod.fst
   ·rw[Gt hc hx];exact Ed t k
   ·rw[Jp hc hx,Hg];refine List.nodup_append.2 ⟨Ed t k,sM,?_⟩;intro a ha b hb e;simp only[Zy,EV,Zm]at hb;subst hb;subst e;exact hx ha
def Mt{α:Type}[DecidableEq α]{β:Type}:∀(l:List (α × β)) (s:α) (i:β),(l.map Prod.fst).Nodup->(((l.find? fun x=>decide (x.1=s)).map Prod.snd=some i)↔(s,i)∈l)
 | [],s,i,_=>sM
 |x::l,s,i,h=>by
  rw[Zy,Mp]at h;rw[LD];by_cases e:x.1=s
  ·rw[Kp e];simp only[OU,Fp,Xg];constructor
   ·intro e2;left;rw[<-e,<-e2]
   ·rintro(e2|e2)
    ·rw[<-e2]
    ·exfalso;exact h.1 (by rw[e];exact Xq.2 ⟨_,e2,rfl⟩)
  ·rw[Z4 e];simp only;rw[Mt l s i h.2,Xg];constructor
   ·exact .inr
   ·rintro(e2|e2)
    ·exfalso;exact e (by rw[<-e2])
    ·exact e2
def Fq{s:Aj}:gS t s=some i↔(s,i)∈Ht t:=Mt _ _ _ (Ed t _)
def zG(h7:t.hd.kind=7)(hk:k<t.l.length):gS t (X4 k)=some k:=by
 rw[Fq];unfold Ht;rw[Gu h7];exact Xq.2 ⟨k,Vw.2 hk,rfl⟩
def zH(h7:t.hd.kind=7){s:Aj}(h:gS t s=some i):s=X4 i/\i<t.l.length:=by
 rw[Fq]at h;unfold Ht at h;rw[Gu h7]at h;obtain⟨k,j,e⟩:=Xq.1 h;cases e;exact⟨rfl,Vw.1 j⟩
def kF(t:Aa):MI t []=some t:=rfl
def Cy{s:Aj}:MI t (s::p)=some c↔∃i,gS t s=some i/\MI (Xp t.l i) p=some c:=by
 show(match gS t s with|none=>none|some i=>MI (Xp t.l i) p)=some c↔_;cases gS t s with
 |none=>simp
 |some i=>simp
def P1:∀{t c:Aa},MI t (p++q)=some c↔∃x,MI t p=some x/\MI x q=some c:=by
 induction p with
 |nil=>intro t c;simp[kF]
 |cons s p ih=>
  intro t c;rw[Y0,Cy];constructor
  ·rintro⟨i,v,y⟩;obtain⟨x,j,z⟩:=ih.1 y;exact⟨x,Cy.2 ⟨i,v,j⟩,z⟩
  ·rintro⟨x,v,y⟩;obtain⟨i,j,z⟩:=Cy.1 v;exact⟨i,j,ih.2 ⟨x,z,y⟩⟩
def IB:∀(d:Nat) (t:Aa) (p q:List Aj),q∈V6 d t p↔∃r c,q=p++r/\r.length<=d/\MI t r=some c/\∀s∈r,X5 s=true
 |0,t,p,q=>by
  rw[V6,Zm];constructor
  ·rintro rfl;exact⟨[],t,sM,sM,rfl,sM⟩
  ·rintro⟨r,c,e,h,_,_⟩;have:r=[]:=CW.1 oM;subst this;simpa using e
 |d+1,t,p,q=>by
  rw[V6,Xg,Nm];constructor
  ·rintro(rfl| ⟨x,hx,h⟩)
   ·exact⟨[],t,sM,sM,rfl,sM⟩
   ·rw[Pz]at hx;obtain⟨r,c,e,y,z,j⟩:=(IB d _ _ _).1 h;refine⟨x.1::r,c,by rw[e,Y1];rfl,by simpa using y,Cy.2 ⟨x.2,Fq.2 hx.1,z⟩,?_⟩;intro s v;rcases Xg.1 v with rfl|v
    ·exact hx.2
    ·exact j s v
  ·rintro⟨r,c,e,y,z,j⟩;cases r with
   |nil=>left;simpa using e
   |cons s r=>
    obtain⟨i,m,n⟩:=Cy.1 z;refine .inr ⟨(s,i),Pz.2 ⟨Fq.1 m,j s sM⟩,(IB d _ _ _).2 ⟨r,c,by rw[e,Y1];rfl,by simpa using y,n,fun x hx=>j x (by simp[hx])⟩⟩
def Tz:q∈Th t↔Xv q=true/\∃c,MI t q=some c:=by
 unfold Th Xv;rw[IB,X1,Vf,Zz];constructor
 ·rintro⟨r,c,e,v,y,j⟩;simp only[Ri]at e;subst e;exact⟨⟨v,j⟩,c,y⟩
 ·rintro⟨⟨v,j⟩,c,y⟩;exact⟨q,c,rfl,v,y,j⟩
abbrev P2(T:TypeId)(B b:Nat)(xs:Qv)(w:Qm):Prop:=Lib.IsBuilder T 5 B b (Xl xs) w
def cN(T:TypeId):Prop:=T≠5/\liesAt prog prog.depth T (2/prog.cellsOf T) 0 118 1=true
def P3(hT:cN T)(b:Nat)(w:Qm)(h0:w.cell? ⟨b,0,none⟩=some (.pointer none))(hsh:w.shape? b=some (T,2))(hfz:w.frozen? ⟨b,0,none⟩=false):
  Calls prog 163 #[.pointer (some ⟨b,0,none⟩)] w fun e w'=>e=.returned (.tuple #[])/\w'=w.setCell ⟨b,0,none⟩ (.pointer (some ⟨b,0,none⟩)):=by
 obtain⟨j,hj,hjs⟩:=Hi.1 TQ
 go_in
 go_wp2
 refine wM ?_
 refine TS ?_
 go_wp2
 refine nD ?_
 go_wp2
 rw[Lib.run_from_unsafe w (ad b 0) underlying250 underlying115 hj hsh hT.2]
 refine TS ?_
 go_wp2
 go_end0
 exact LV
def IC(hT:cN T)(B b:Nat)(xs:Qv)(w:Qm)(h:P2 T B b xs w):
  Calls prog 163 #[.pointer (some ⟨b,0,none⟩)] w fun e w'=>e=.returned (.tuple #[])/\Lib.BuilderAt T 5 B b (.pointer (some ⟨b,0,none⟩)) (Xl xs) w'/\Ac (fun k _=>k≠b) w w':=by
 rcases h with h|h
 ·refine(P3 hT b w h.cell0 h.shape h.frozen0).mono ?_;exact wN
 ·exact wO
def UD(hT:cN T)(B b c:Nat)(xs:Qv)(w:Qm)(h:P2 T B b xs w)(hlen:xs.length+1<=140737488355328)(hBw:B<=w.heap.size):
  Calls prog 159 #[.pointer (some ⟨b,0,none⟩),.int .u8 c] w fun e w'=>e=.returned .nilIface/\P2 T B b (xs++[c]) w'/\Ac (N2 B b) w w':=by
 obtain⟨t,k,n,d,m⟩:=Gk Di
 go_in
 go_wp2_with(go_at_call 163;refine(IC hT B b xs _ h).mono ?_)
 rintro e w1 ⟨rfl,p,y⟩
 obtain⟨x,v,hbk,q,hne⟩:=p
 have c0:w1.cell? (ad b 0)=some (pt b):=by rw[Rd hbk];rfl
 have c1:w1.cell? (ad b 1)=some v:=by rw[Rd hbk];rfl
 go_wp2_with(at_builtin;refine LQ _ rfl _ _ 116 rfl B 5 t (.int .u8 0) 1 1 underlying116 k n d m rfl dM _ _ _ rfl (q.alloc _) (ad w1.heap.size 0) 1 1 [.int .u8 c] rfl rfl ?c1 ?c2 ?c3 ?c4 ?c5 ?_)
 case c1=>
  intro j u z;match j,z with
  |0,z=>simp at z;subst z;simp[Addr.add]
 case c2=>intro u f;simp at f;subst f;rfl
 case c3=>have:=K5 xs;unfold maxLen;omega
 case c4=>have:=K5 xs;omega
 case c5=>have:=y.size;simp;omega
 intro v' w2 hown' hgrow _
 have hlt:b<w1.heap.size:=Qg hbk
 have hb2:w2.heap[b]? =some (.cells #[pt b,v] T (0,0)):=by
  exact wR
 have r:w2.cell? (ad b 0)=some (pt b):=by rw[Rd hb2];rfl
 have d1:w2.cell? (ad b 1)=some v:=by rw[Rd hb2];rfl
 refine TT ?_
 intro f1
 obtain⟨g,cap,rfl⟩:∃g cap,v'=.slice (some (ad g 0)) ((Xl xs).length+1) cap:=by
  exact wS
 go_wp2
 go_ret
 refine⟨rfl,.inr ?_,?_⟩
 ·rw[Ep];exact NJ (T:=T) (e:=5) x hb2 (bs':=Xl xs++[.int .u8 c]) (by simpa using hown') hT.1
 ·exact NR y hgrow q
def Ck(hT:cN T)(B b:Nat)(s:Qo)(xs:Qv)(w:Qm)(h:P2 T B b xs w)(hlen:xs.length+s.size<=140737488355328)(hBw:B<=w.heap.size):
  Calls prog 94 #[.pointer (some ⟨b,0,none⟩),.string s] w fun e w'=>(∃v,e=.returned v)/\P2 T B b (xs++Qf s) w'/\Ac (N2 B b) w w':=by
 obtain⟨x,p,d,t,n⟩:=Gk Di
 have u:=K5 xs
 go_in
 go_wp2_with(go_at_call 163;refine(IC hT B b xs _ h).mono ?_)
 rintro e f ⟨rfl,h1,z⟩
 obtain⟨r,v,q,y,c⟩:=h1
 have c0:f.cell? (ad b 0)=some (pt b):=by rw[Rd q];rfl
 have c1:f.cell? (ad b 1)=some v:=by rw[Rd q];rfl
 go_wp2_with(at_builtin;refine Lib.wpList_append_own_string _ rfl _ _ 116 9 rfl B 5 x underlying116 underlying9 p d t n _ _ _ rfl y s rfl ?c3 ?c4 ?c5 ?_)
 case c3=>unfold maxLen;omega
 case c4=>omega
 case c5=>have:=z.size;omega
 intro v' w2 hown' j _
 have m:b<f.heap.size:=Qg q
 have hb2:w2.heap[b]? =some (.cells #[pt b,v] T (0,0)):=by
  rw[j.block b m (fun e=>c e.symm)];exact q
 have d0:w2.cell? (ad b 0)=some (pt b):=by rw[Rd hb2];rfl
 have d1:w2.cell? (ad b 1)=some v:=by rw[Rd hb2];rfl
 refine TT ?_
 intro f1
 obtain⟨k,n',cap,rfl⟩:∃k n' cap,v'=.slice k n' cap:=by
  exact wZ
 go_wp2
 go_ret2
 refine⟨⟨_,rfl⟩,.inr ?_,?_⟩
 ·rw[CL,<-Ii];exact NJ (T:=T) (e:=5) r hb2 (bs':=Xl xs++Lib.strCells s) (by simpa[Lib.strCells_length,u] using hown') hT.1
 ·exact Pk z j y
def UE(T:TypeId)(B b:Nat)(xs:Qv)(w:Qm)(h:P2 T B b xs w)(hx:∀x∈xs,x<256)(h0:xs≠[]):
  Calls prog 95 #[.pointer (some ⟨b,0,none⟩)] w fun e w'=>e=.returned (.string (Xh xs))/\Ac (fun k o=>k<B∨(k≠b/\∀c f,o≠ .cells c 5 f)) w w':=by
 obtain⟨p,a6⟩:∃p,Lib.BuilderAt T 5 B b p (Xl xs) w:=by
  rcases h with h|h
  ·exact⟨_,h⟩
  ·exact⟨_,h⟩
 obtain⟨hB,v,u,z,ac⟩:=a6
 have t:xs.length≠0:=by simpa using h0
 have a0:=K5 xs
 rw[a0]at z
 obtain⟨g,q,y,rfl,a3,hg,a9,a2,a5,n⟩:∃g q y,v=.slice (some (ad g 0)) xs.length q/\B<=g/\w.heap[g]? =some (.cells y 5 (0,0))/\xs.length<=q/\q<=maxLen/\y.size=q*1/\y.toList.take (xs.length*1)=Xl xs:=by
  rcases z.2 with⟨_,hz⟩| ⟨g,q,y,hv,r⟩
  ·exact absurd hz t
  ·exact⟨g,q,y,hv,r⟩
 have c1:w.drew.cell? (ad b 1)=some (.slice (some (ad g 0)) xs.length q):=by
  have:w.drew.heap[b]? =some (.cells #[p,.slice (some (ad g 0)) xs.length q] T (0,0)):=u;rw[Rd this];rfl
 have m:(xs.map UInt8.ofNat).length=xs.length:=Vq _
 have aa:(Builtin.unsafeSliceData_ #[116] 166 #[.slice (some (ad g 0)) xs.length q]).run prog w.drew=.ok (pt g) w.drew:=
  Lib.run_unsafeSliceData_row _ _ _ _ _ _ oM
 have ab:(Builtin.unsafeString_ #[166,3] 9 #[pt g,i6 xs.length]).run prog w.drew=.ok (.string (Xh xs)) (w.drew.freeze (ad g 0) xs.length):=by
  have:=Lib.run_unsafeString_row w.drew 166 3 9 5 underlying166 kM g y.size (by have a7:w.drew.heap[g]? =some (.cells y 5 (0,0)):=hg;simp[World.shape?,a7]) (xs.map UInt8.ofNat) (by simpa using h0) (by rw[m];omega) (by rw[m];unfold maxLen at a2;omega) (by
   intro j x a4
   have:=z.cells (g:=g) rfl j (.int .u8 x.toNat) (by rw[Ic xs hx];unfold Lib.byteCells;rw[CV,a4];rfl);exact this)
  rw[m]at this;exact this
 have a1:Ac (fun k o=>k<B∨(k≠b/\∀c f,o≠ .cells c 5 f)) w (w.drew.freeze (ad g 0) xs.length):=by
  have d:=Lib.below_freeze (Below.drew (Below.refl B w)) (p:=(ad g 0)) a3 xs.length;have h2:=((Lib.OthersKept.refl 5 (some b) w).drew).freeze (ad g 0) xs.length ⟨y,_,hg⟩;refine⟨d.os,d.tape,d.output,d.size,fun k o hk hs=>?_⟩;rcases hs with hs| ⟨h3,h4⟩
  ·exact(d.block k hs).trans hk
  ·exact h2 k o hk (by simpa using h3) h4
 clear hg a5 n z u
 have a8:prog.follows .mixedOrders=true:=kM
 go_in
 go_wp2
 go_region_o
 all_goals(go_wp2;go_ret;exact⟨rfl,a1⟩)
def z4(i:Nat):Nat × Nat:=if i=0 then(24,1)else if i=1 then(25,2)else if i=2 then(26,4)else(27,8)
abbrev EH(f:Nat × Nat):Array Q0:=#[.int .i64 f.1,.int .i64 f.2]
abbrev Mu:Q0:=.agg #[.int .i64 24,.int .i64 1,.int .i64 25,.int .i64 2,.int .i64 26,.int .i64 4,.int .i64 27,.int .i64 8]
def Va(a:Nat):Nat:=if a<256 then 0 else if a<65536 then 1 else if a<4294967296 then 2 else 3
def D9(a:Nat):Nat × Nat:=if a<24 then(a,0)else z4 (Va a)
def sL(w:Qm):Calls prog 409 #[] w fun e w'=>e=.returned Mu/\Qd w w':=by
 go_in;go_wp2;refine Xs (Dv rfl _ _ w.heap.size 407 _ (0,0) _ rfl (Ew _ _) underlying407 rfl kM) rfl ⟨rfl,Xd⟩
def Qir(w:Qm):(Instr.index 407 Mu (.int .i64 0)).run prog w=.ok (.agg #[.int .i64 24,.int .i64 1]) w:=by kernel_rfl
def Qis(w:Qm):(Instr.index 407 Mu (.int .i64 1)).run prog w=.ok (.agg #[.int .i64 25,.int .i64 2]) w:=by kernel_rfl
def Qit(w:Qm):(Instr.index 407 Mu (.int .i64 2)).run prog w=.ok (.agg #[.int .i64 26,.int .i64 4]) w:=by kernel_rfl
def Qiu(w:Qm):(Instr.index 407 Mu (.int .i64 3)).run prog w=.ok (.agg #[.int .i64 27,.int .i64 8]) w:=by kernel_rfl
def zdx(i:Nat)(hi:i<4)(w:Qm):(Instr.index 407 Mu (.int .i64 (i:Int))).run prog w=.ok (.agg (EH (z4 i))) w:=by
 obtain rfl|rfl|rfl|rfl:i=0∨i=1∨i=2∨i=3:=oM
 ·exact Qir w
 ·exact Qis w
 ·exact Qit w
 ·exact Qiu w
def Qgw{P:Prop}(h:P:=by
 have hb3:=hkp.boxed hb2 ⟨hne,hsb _ _⟩;gi_wp2;exact⟨⟨k+1,oM,by push_cast;rfl,fin _ hj3,hb3⟩,by simp[RowKit.intOf];omega⟩):P:=h
def pI{P:Prop}(h:P:=by
 clear HF HZ hY e5 hsv hbn hkk hnz;gi_wp2;refine hR.mono ?_;rintro e W3 ⟨hkp,(⟨rfl,hj3⟩| ⟨rfl,hj3⟩)⟩
 ·exact Qgw
 ·gi_wp2;refine aL ?_;exact⟨⟨_,rfl⟩,.inr ⟨k-Va a,hlt2,hj3,trivial⟩⟩):P:=h
def XF(a bx:Nat)(Sb Si:Nat->Obj->Prop)(W:Qm)(ha:a<18446744073709551616)(hbx:Boxed W bx 24 (.int .u64 a))(hSb:∀c f,Sb bx (.cells c 24 f)):
  Hk prog 408 #[.pointer (some ⟨bx,0,none⟩)] (4-Va a) (fun i v _=>v=#[.agg (EH (z4 (Va a+i)))]) Sb Si (fun _=>True) (fun _ _=>True) W:=by
 rintro l J Jx hlp hJ a1 hY h0
 refine NS ?_
 intro r hl hne
 have u:=zdx
 have a7:Va a<=3:=by unfold Va;repeat' (split<;>try omega)
 refine Nf func408 rfl trivial ?_ rfl
 simp only[ntmps408]
 refine Ie ?_
 gi_wp2_with(gi_at_call 409;refine(Qr (sL _)).mono ?_;rintro e w1 ⟨rfl,t⟩)
 gi_loopw [6] (fun iv wr=>∃k:Nat,k<=4/\iv=i6 (k:Int)/\J (k-Va a) wr/\Boxed wr bx 24 (.int .u64 a)) (fun iv _=>4-(RowKit.intOf iv).toNat)
 case atStart=>exact⟨0,oM,rfl,by rw[Nat.zero_sub];exact hJ _ _ _ h0 (Ac.of_same t),t.boxed hbx trivial⟩
 case round=>
  obtain⟨k,hk,rfl,hj,hb⟩:=hrel;by_cases a0:k<4
  ·have hi:=u k a0;have hbn:Boxed (wr.alloc (.cells (EH (z4 k)) 400)) bx 24 (.int .u64 a):=Qb hb;have c0:=hbn.cell;have y:=Qt wr (.cells (EH (z4 k)) 400);have m:J (k-Va a) (wr.alloc (.cells (EH (z4 k)) 400)):=hJ _ _ _ hj (Ac.of_same ((Ac.refl _ _).alloc _));obtain⟨⟨q,j⟩,b⟩:∃z,z4 k=z:=⟨_,rfl⟩;have n:k<Va a↔(j<8/\a>>>(8*j)≠0):=by
    rw[Fd];obtain rfl|rfl|rfl|rfl:k=0∨k=1∨k=2∨k=3:=oM;all_goals
     cases b
     unfold Va
     simp only[Nat.reduceMul,Nat.reducePow]
     repeat' split
     all_goals omega
   have a6:j<=8:=by
    obtain rfl|rfl|rfl|rfl:k=0∨k=1∨k=2∨k=3:=oM;all_goals
     cases b
     decide
   have HZ:=Qc b;have HF:=Qc n;rw[b]at hi hbn c0 y m;replace hi:∀w:Qm,(Instr.index 407 Mu (i6 (k:Int))).run prog w=.ok (.agg #[i6 (q:Int),i6 (j:Int)]) w:=hi;replace y:(wr.alloc (.cells #[i6 (q:Int),i6 (j:Int)] 400)).heap[wr.heap.size]? =some (.cells #[i6 (q:Int),i6 (j:Int)] 400 (0,0)):=y;replace c0:(wr.alloc (.cells #[i6 (q:Int),i6 (j:Int)] 400)).cell? (ad bx 0)=some (.int .u64 (a:Int)):=c0;clear u;clear b n;have e0:=Ys y;have e5:((a:Int)/2^(8*j))=((a>>>(8*j):Nat):Int):=G7 a (8*j);generalize hsv:a>>>(8*j)=sv at e5 HF;have a9:((0:Int)<=(k:Int)):=oM;by_cases d:k<Va a
   ·obtain⟨h8,a8⟩:=HF.out.1 d;have h9:((j:Nat):Int)<8:=oM;have a2:J (k+1-Va a) (wr.alloc (.cells #[i6 (q:Int),i6 (j:Int)] 400)):=by rw[show k+1-Va a=k-Va a by omega];exact m
    have hb2:Boxed (wr.alloc (.cells #[i6 (q:Int),i6 (j:Int)] 400)) bx 24 (.int .u64 a):=hbn;have e6:((sv:Int)!=0)=true:=by simp;omega
    rw[<-e5]at e6;clear HF HZ hY hJ a1 hlp e5 hsv hbn m;gi_wp2;exact⟨⟨k+1,oM,by push_cast;rfl,a2,hb2⟩,by simp[RowKit.intOf];omega⟩
   ·have p:=hY (k-Va a) #[.agg (EH (q,j))] (wr.alloc (.cells (EH (q,j)) 400)) oM m (by rw[show Va a+(k-Va a)=k by omega,HZ.out]);have hnz:¬(j<8/\sv≠0):=fun h=>d (HF.out.2 h)
    have hb2:Boxed (wr.alloc (.cells #[i6 (q:Int),i6 (j:Int)] 400)) bx 24 (.int .u64 a):=hbn;have hlt2:k-Va a<4-Va a:=oM;have hsb:=hSb;obtain⟨fn,a5,x,a4,hy,hR⟩:=p;have hkk:k+1-Va a=k-Va a+1:=oM;have fin:∀W3,J (k-Va a+1) W3->J (k+1-Va a) W3:=fun W3 h=>by rw[hkk];exact h
    by_cases h8:j<8
    ·have a3:sv=0:=by
      by_cases h0:sv=0
      ·exact h0
      ·exact absurd ⟨h8,h0⟩ hnz
     have h9:((j:Nat):Int)<8:=oM;have e6:((sv:Int)!=0)=false:=by simp;omega
     rw[<-e5]at e6;exact pI
    ·have h9:¬(((j:Nat):Int)<8):=oM;exact pI
  ·obtain rfl:k=4:=oM;exact Ul
def cO(a:Nat)(w:Qm):Calls prog 407 #[.int .u64 a] w fun e w'=>e=.returned (.func (.func 408) #[] #[.pointer (some ⟨w.heap.size,0,none⟩)])/\w'=w.alloc (.cells #[.int .u64 a] 24):=by
 go_in;exact Nv
def zI(i:Nat):z4 i=(24,1)∨z4 i=(25,2)∨z4 i=(26,4)∨z4 i=(27,8):=by
 unfold z4;by_cases j:i=0
 ·rw[Qe j];exact .inl rfl
 ·by_cases q:i=1
  ·rw[Qa j,Qe q];exact .inr (.inl rfl)
  ·by_cases v:i=2
   ·rw[Qa j,Qa q,Qe v];exact .inr (.inr (.inl rfl))
   ·rw[Qa j,Qa q,Qa v];exact .inr (.inr (.inr rfl))
def kG(a:Nat)(w:Qm)(ha:a<18446744073709551616):Calls prog 404 #[.int .u64 a] w fun e w'=>e=.returned (.agg (EH (D9 a)))/\Qd w w':=by
 by_cases p:a<24
 ·have hz:D9 a=(a,0):=by unfold D9;rw[Qe p]
  rw[hz];have h1:(a:Int)<24:=oM;refine(J5 (n:=0)).1 ?_;refine Nf func404 rfl trivial ?_ rfl;simp only[ntmps404];refine Ie ?_;gi_wp2;refine Jy ?_;gi_wp2
  (try simp only[Exit.noGoto]);refine Xs (Dv rfl _ _ w.heap.size 400 _ (0,0) _ rfl (Qb (Qt w _)) underlying400 rfl kM) rfl ⟨rfl,Xd⟩
 ·have h1:¬((a:Int)<24):=oM;have hz:D9 a=z4 (Va a):=by unfold D9;rw[Qa p]
  obtain⟨⟨y,z⟩,hf⟩:∃f,z4 (Va a)=f:=⟨_,rfl⟩;rw[hz,hf];have HF:=Qc hf;clear hf hz;have a9:Va a<=3:=by unfold Va;repeat' (split<;>try omega)
  refine(J5 (n:=0)).1 (Vy func404 rfl trivial ?_ rfl);simp only[ntmps404];refine Ie ?_;gi_wp2;refine Jy ?_;gi_wp2;refine Ez ?_;gi_wp2_with(gi_at_call 407;refine(Qr (cO a _)).mono ?_;rintro e w' ⟨rfl,h9⟩;replace h9:=h9.symm;subst h9);obtain⟨wa,t⟩:=X0 (wrap64 (a:Int));rw[show decide ((a:Int)<24)=false from Z4 oM,t];clear t;generalize j:World.alloc _ (.cells #[.int .u64 (a:Int)] 24)=W1;have aa:W1.heap.size=w.heap.size+3:=by rw[<-j];simp
  have a8:Qd w W1:=by rw[<-j];exact Xd
  have b0:W1.heap[w.heap.size]? =some (.cells #[i6 0,i6 0] 400 (0,0)):=by rw[<-j];exact Qb (Qb (Qt w _))
  have b1:W1.heap[w.heap.size+1]? =some (.cells #[i6 wa,i6 0] 400 (0,0)):=by rw[<-j];exact Qb (Ql sM)
  have b2:Boxed W1 (w.heap.size+1+1) 24 (.int .u64 a):=by rw[<-j];exact Ql sM
  clear j;refine Jt (gf:=408) (lb:=#[pt (w.heap.size+1+1)])
   rfl (X3 func408 kM rfl) (4-Va a) (fun i v _=>v=#[.agg (EH (z4 (Va a+i)))]) (fun b o=>b≠w.heap.size+1) (fun _ _=>True)
   (fun _=>True) (fun _ _=>True) (fun W2 a5 _=>XF a _ _ _ W2 ha (a5.boxed b2 trivial) (fun c f=>oM)) ?hSb (fun _ _ _ _ _=>trivial)
   (fun i A=>i=0/\A.heap[w.heap.size]? =some (.cells #[i6 0,i6 0] 400 (0,0))/\A.heap[w.heap.size+1]? =some (.cells #[i6 wa,i6 0] 400 (0,0)))
   (fun i c A=>c=.exit 0/\A.heap[w.heap.size]? =some (.cells #[i6 0,i6 0] 400 (0,0))/\A.heap[w.heap.size+1]? =some (.cells (EH (y,z)) 400 (0,0)))
   ?hI ?hIx (fun _ _ _ _ h _=>h) (fun _ _ _ _=>trivial) (fun _ _ _ _ _=>trivial) (fun i v A h=>by rw[h];rfl) ⟨rfl,b0,b1⟩
   (fun i v a' A=>∃bx,A.heap[bx]? =some (.cells (EH (z4 (Va a+i))) 400 (0,0))/\a'={tmps:=#[.int .u64 a,undef,pt w.heap.size,pt (w.heap.size+1),pt bx,.int .u64 a,i6 wa,.agg #[i6 wa,i6 0],.int .u64 a,.bool false,undef,.int .u64 a,.func (.func 408) #[] #[pt (w.heap.size+1+1)],.agg (EH (z4 (Va a+i))),undef,undef],defers:=[]}) ?hAx ?hassign ?hbody ?hdone ?hstop
  case hSb=>exact fun b o r ho=>oM
  case hI=>
   rintro i A B ⟨h1,h2,q⟩ hk;exact⟨h1,hk.same _ _ h2 ⟨.inr rfl,trivial⟩,hk.same _ _ q ⟨.inr rfl,trivial⟩⟩
  case hIx=>
   rintro i c A B ⟨h0,h1,q⟩ hk;exact⟨h0,hk.same _ _ h1 ⟨.inr rfl,trivial⟩,hk.same _ _ q ⟨.inr rfl,trivial⟩⟩
  case hAx=>
   exact xN
  case hassign=>
   intro l i v A K hi a7 a3 hK;subst a3;generalize hf:z4 (Va a+i)=f at hK|-;gi_wp2;refine xO ?_;obtain⟨h1,h2,q⟩:=a7;exact⟨h1,Qb h2,Qb q⟩
  case hbody=>
   rintro l i v a' A hl _ hi ⟨rfl,h2,q⟩ hv ⟨bx,d,rfl⟩;have a1:z4 (Va a+0)=(y,z):=HF.out;rw[a1]at d|-;have e0:=Ys d;have d0:=Ys q;have a4:=Jd q;gi_wp2;have u:Ac (fun b _=>b≠w.heap.size+1) A ((A.setCell (ad (w.heap.size+1) 0) (i6 (y:Int))).setCell (ad (w.heap.size+1) 1) (i6 (z:Int))):=((Ac.refl _ A).setCell _ fun o _ m _=>m rfl).setCell _ fun o _ m _=>m rfl
   exact⟨u,rfl,u.same _ _ h2 oM,Qk (Qk q 0 _) 1 _⟩
  case hdone=>
   rintro D A hD ⟨h1,h2,q⟩ _ hk x;omega
  case hstop=>
   rintro D i c A hD hi ⟨rfl,h2,q⟩ _ hk x;have a0:Qd w A:=Ho a8 hk fun b o r=>⟨Ku r,trivial⟩
   have e0:=Ys q;have d0:=Ys h2;have a4:=Jd h2;gi_wp2;have u:Ac (fun b _=>b≠w.heap.size) A ((A.setCell (ad w.heap.size 0) (i6 (y:Int))).setCell (ad w.heap.size 1) (i6 (z:Int))):=((Ac.refl _ A).setCell _ fun o _ m _=>m rfl).setCell _ fun o _ m _=>m rfl
   have r1:((A.setCell (ad w.heap.size 0) (i6 (y:Int))).setCell (ad w.heap.size 1) (i6 (z:Int))).heap[w.heap.size]? =some (.cells (EH (y,z)) 400 (0,0)):=Qk (Qk h2 0 _) 1 _;generalize((A.setCell (ad w.heap.size 0) (i6 (y:Int))).setCell (ad w.heap.size 1) (i6 (z:Int)))=A2 at u r1|-;have a6:=u.same _ _ x oM;refine⟨sM,.inl ⟨_,_,rfl,Vx a6,?_⟩⟩;have k:=(N3 (o:=.deferred none) (by omega:w.heap.size≠D)).trans r1;refine⟨_,Dv rfl _ _ w.heap.size 400 _ (0,0) _ rfl k underlying400 rfl kM,rfl,?_⟩;have a2:Qd w A2:=Ho a0 u fun b o r=>(Ku r)
   exact a2.putObj _ fun o _ _ h=>oM
def XG(a:Nat):Nat->Qv
 |0=>[]
 |n+1=>a>>>(8*n) % 256::XG a n
def Yo(major a:Nat):Qv:=(32*major+(D9 a).1)::XG a (D9 a).2
def RL(a:Nat):∀n,∀x∈XG a n,x<256
 |0,x,h=>by cases h
 |n+1,x,h=>by
  rw[XG]at h;rcases Xg.1 h with rfl|h
  ·exact Hj _ dM
  ·exact RL a n x h
def P4(a:Nat):(D9 a).1<32/\(D9 a).2<=8:=by
 unfold D9;split
 ·constructor<;>simp only<;>omega
 ·rcases zI (Va a)with h|h|h|h<;>rw[h]<;>decide
def UF{m a:Nat}(hm:m<=7):∀x∈Yo m a,x<256:=by
 intro x hx
 have:=P4 a;unfold Yo at hx;rcases Xg.1 hx with rfl|h
 ·omega
 ·exact RL a _ x h
def Qiv:∀m<8,∀z<32,bits BinOp.or IntKind.i64 ((m:Nat)*32:Int) (z:Nat)=((32*m+z:Nat):Int):=by decide+kernel
def XH(xs:Qv)(v:Q0)(B n:Nat)(w:Qm)(h:w.ownsRow B 5 1 v n (Xl xs))(hx:∀x∈xs,x<256):
  Calls prog 405 #[v] w fun e w'=>e=.returned (.string (Xh xs))/\Qd w w':=by
 have j:=iA h hx
 obtain⟨a,c,rfl⟩:=Vt h
 go_in
 go_wp2
 exact Md
def RM(m a:Nat)(w:Qm)(hm:m<=7)(ha:a<18446744073709551616):Calls prog 402 #[.int .i64 m,.int .u64 a] w fun e w'=>e=.returned (.tuple #[.string (Xh (Yo m a)),.int .i64 0])/\Qd w w':=by
 have hl:=kG a;have b:=P4 a;unfold Yo;obtain⟨⟨t,d⟩,hz⟩:∃z,D9 a=z:=⟨_,rfl⟩;rw[hz]at hl b|-;simp only at hl b|-;clear hz;have m0:¬((m:Int)<0):=oM;have m7:¬(7< (m:Int)):=oM;obtain⟨i0,aa,ab,ah,a9⟩:=Gk Di;go_in;go_wp2_with(go_at_call 404;refine(hl _ ha).mono ?_;rintro e w1 ⟨rfl,a1⟩);have a7:bits BinOp.or IntKind.i64 ((m:Int)*32) (t:Int) % 256=((32*m+t:Nat):Int):=by rw[Qiv m oM t b.1];omega
 rw[a7];clear a7;obtain⟨fb,c⟩:=X0 (32*m+t);have a3:fb<256:=oM;rw[c];have a4:Qd w ((w1.alloc (.cells #[i6 (t:Int),i6 (d:Int)] 400)).alloc (.cells #[.int .u8 (fb:Int)] 5)):=(a1.alloc _).alloc _;have f:((w1.alloc (.cells #[i6 (t:Int),i6 (d:Int)] 400)).alloc (.cells #[.int .u8 (fb:Int)] 5)).ownsRow w.heap.size 5 1 (.slice (some (ad (w1.heap.size+1) 0)) 1 1) 1 (Xl [fb]):=
  ⟨rfl,.inr ⟨w1.heap.size+1,1,_,rfl,by have:=a1.size;omega,Ql sM,Q6 _,dM,rfl,rfl⟩⟩
 generalize((w1.alloc (.cells #[i6 (t:Int),i6 (d:Int)] 400)).alloc (.cells #[.int .u8 (fb:Int)] 5))=W1 at a4 f|-;replace c:=Qc c;clear hl a1;go_loopw [7,8] (fun v iv wr=>∃(k:Nat) (pre:Qv),k<=d/\iv=i6 ((k:Int)-1)/\XG a d=pre++XG a k/\pre.length+k=d/\wr.ownsRow w.heap.size 5 1 v (pre.length+1) (Xl (fb::pre))/\Qd w wr) (fun v iv _=>(RowKit.intOf iv+1).toNat)
 case atStart=>exact⟨d,[],Q6 _,rfl,rfl,sM,f,a4⟩
 case round=>
  obtain⟨k,pre,hk,rfl,n,af,hr,p⟩:=hrel;obtain⟨va,vc,rfl⟩:=Vt hr;cases k with
  |zero=>
   have y:=Qc n;rw[show((0:Nat):Int)-1= -1 by decide];have a2:=fun W (hs:Qd wr W)=>XH (fb::pre) (.slice va (pre.length+1) vc) w.heap.size (pre.length+1) W (D4 hr hs) (fun x hx=>by
    rcases Xg.1 hx with rfl|hx
    ·exact a3
    ·exact RL a d x (by rw[y.out];exact T7 _ hx))
   generalize a6:pre.length+1=n1 at hr a2|-;clear n af a6;go_wp2_with(go_at_call 405;refine(a2 _ (Ac.refl _ _)).mono ?_;rintro e w5 ⟨rfl,a8⟩);refine Xs (Iq rfl _ _ _) rfl ⟨?_,p.trans a8⟩;rw[y.out,c.out];simp[XG]
  |succ k=>
   rw[show((k+1:Nat):Int)-1=(k:Int) by omega];rw[XG]at n;have y:=Qc n;generalize a6:pre.length+1=n1 at hr|-;have b0:(0:Int)<=(k:Int):=oM;have b1:(k:Int)<=8:=oM;clear n;have hd:((a:Int)/2^(8*k)) % 256=((a>>>(8*k) % 256:Nat):Int):=by rw[G7];omega
   generalize ag:a>>>(8*k) % 256=bv at hd y;clear ag;have b2:=p.size;go_wp2_with(at_builtin;refine LQ _ rfl _ _ 116 rfl w.heap.size 5 i0 (.int .u8 0) 1 1 underlying116 aa ab ah a9 rfl dM _ _ _ rfl (hr.alloc _) (ad wr.heap.size 0) 1 1 [.int .u8 (bv:Int)] rfl rfl ?c1 ?c2 ?c3 ?c4 ?c5 ?_)
   case c1=>exact fun j u hu=>Jw _ _ _ j u hu
   case c2=>intro u hu;simp at hu;subst hu;rfl
   case c3=>unfold maxLen;omega
   case c4=>omega
   case c5=>simp;omega
   intro v' w5 q a0 _;obtain⟨a5,c5,rfl⟩:=Vt q;have ac:Qd w w5:=(p.alloc _).grown a0 fun r ae o ho _ b=>by have:=(hr.lt r ae).1;omega
   rw[<-Ep]at q;go_wp2;refine⟨?_,by simp[RowKit.intOf]⟩;refine⟨k,pre++[bv],oM,rfl,by rw[y.out,Y1];rfl,by rw[Zv];simp;omega,?_,ac⟩;have:(pre++[bv]).length+1=n1+1:=by rw[Zv];simp;omega
   rw[this];exact q
abbrev Wr(B b:Nat)(xs:Qv)(w:Qm):Prop:=P2 323 B b xs w
def T0:cN 323:=⟨dM,kM⟩
def Rz{xs:Qv}(h:P2 T B b xs w)(hk:Qd w w'):P2 T B b xs w':=by
 have key:∀p,Lib.BuilderAt T 5 B b p (Xl xs) w->Lib.BuilderAt T 5 B b p (Xl xs) w':=by
  rintro p ⟨c,v,d,j,n⟩;refine⟨c,v,hk.s d,⟨j.1,?_⟩,n⟩;rcases j.2 with h| ⟨g,m,y,f,u,z,q⟩
  ·exact .inl h
  ·exact .inr ⟨g,m,y,f,u,hk.s z,q⟩
 exact iZ
def Ow{xs:Qv}(h:P2 T B b xs w):B<=b/\b<w.heap.size:=by
 rcases h with h|h<;>exact⟨h.1,h.lt⟩
def cQ(a:Nat):∀n,(XG a n).length=n
 |0=>rfl
 |n+1=>by rw[XG,Xf,cQ a n]
def P5(m a:Nat):(Yo m a).length<=9:=by
 have:=P4 a;unfold Yo;rw[Xf,cQ];omega
def Mv(B b m a:Nat)(xs:Qv)(w:Qm)(h:Wr B b xs w)(hm:m<=7)(ha:a<18446744073709551616)(hlen:xs.length<=1000000)(hBw:B<=w.heap.size):
  Calls prog 397 #[.pointer (some ⟨b,0,none⟩),.int .i64 m,.int .u64 a] w fun e w'=>(∃v,e=.returned v)/\Wr B b (xs++Yo m a) w'/\Ac (N2 B b) w w':=by
 have y:=RM m a w hm ha
 have z:Qf (Xh (Yo m a))=Yo m a:=Yl _ (UF hm)
 have c:(Xh (Yo m a)).size<=9:=by rw[Jz];exact P5 m a
 have j:=fun W (hs:Qd w W)=>Ck T0 B b (Xh (Yo m a)) xs W (Rz h hs) oM (Qj hBw hs.size)
 rw[z]at j
 generalize hs:Xh (Yo m a)=s at y j
 clear hs z h
 go_in
 go_wp2_with fail
 refine y.mono ?_
 rintro e d ⟨rfl,q⟩
 go_wp2_with fail
 refine(j d q).mono ?_
 rintro e f ⟨⟨v,rfl⟩,n,u⟩
 go_wp2_with fail
 go_end0
 exact⟨⟨_,rfl⟩,n,(Ac.of_same q).trans u⟩
end Go.Tm
