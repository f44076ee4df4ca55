/-
  Part 9 of what the claim leans on: contracts of the functions that the law reaches, and plain facts. Conditions: the theorems' own.
-/
import Derived.Sort.CutIn
import Derived.Laws.IdiomRangeMap
import Derived.Lib.MapLaws
import Derived.Lib.ValidLaws
import Derived.Lib.ItoaLen
import Derived.Deep.Cut
import Derived.Test.YtkfaoeobfigagaaGreatDoorShYH
set_option linter.all false
set_option maxRecDepth 100000
set_option maxHeartbeats 16000000
namespace Go.Tm
open Go.Proofs Go.RowKit Go.Proofs.Tryz
variable{has:List (Aa × Aa)}{s:Qo}{id:Int}{l:Qp}{y:Aa}{j m:Nat}{X:Hd->Dc × Bool}
def HK{q:Aa × Aa}(h:has.find? (fun q=>decide (q.1.hd.s=s))=some q):(has.filter fun z=>decide (z.1.hd.s≠s)).length+1<=has.length:=by
 have v:=GA h;have j:q.1.hd.s=s:=Zo (List.find?_some (p:=fun q:Aa × Aa=>decide (q.1.hd.s=s)) h);refine List.length_filter_lt_length_iff_exists.2 ⟨q,v,?_⟩;simp[j]
def Lx:∀(n:Nat) (L:Qp) (has:List (Aa × Aa)),L.length<=n->(Jh L has).1.length+(Jh L has).2.length<=has.length
 |_,[],has,_=>by rw[Jh]<;>simp
 |_,[_],has,_=>by rw[Jh]<;>simp
 |0,_::_::_,_,h=>by simp at h
 |n+1,k::x::L,has,h=>by
  have hl:L.length<=n:=by simp only[Xf]at h;omega
  rw[Jh];split
  ·split
   ·rename_i q j;have v:=HK j;have y:=Lx n L (has.filter fun z=>decide (z.1.hd.s≠(Xe k).1)) hl;simp only[Xf];omega
   ·exact Lx n L has hl
  ·exact Lx n L has hl
def OP:∀l:Qp,2*(Xa l).length<=l.length
 | []=>by simp[Xa]
 | [_]=>by simp[Xa]
 |k::x::l=>by
  have:=OP l;rw[Xa];simp only[Xf];omega
def fT{B:Aa}(h:y∈(Vg id B l).l):y∈B.l∨y∈l:=by
 unfold Vg at h;have h:=IV h;rw[Aa.Ag]at h;obtain⟨q,j,h⟩:=J6.1 h;obtain⟨m,n⟩:=ES B.l.length B.l (Xa l) (Q6 _);rcases Kn.1 j with j|j
 ·obtain⟨v,z,u,e⟩:=m q j;rcases h with rfl|rfl
  ·exact .inl v
  ·rw[<-e];exact .inr (N1 _ z u).2
 ·have v:=N1 _ q (n q j);rcases h with rfl|rfl
  ·exact .inr v.1
  ·exact .inr v.2
def Qci(id:Int)(B:Aa)(l:Qp):(Vg id B l).l.length<=l.length:=by
 unfold Vg;refine Qj (Ta _ _) ?_;rw[Aa.Ag,Z6,Zv];have j:=Lx B.l.length B.l (Xa l) (Q6 _);have q:=OP l;omega
def Tc:∀t:Aa,(Xo y t).depth<=t.depth+y.depth:=by
 refine Aa.ind fun h l j=>?_
 rw[Xo];split
 ·cases l with
  |nil=>
   rw[D7,Aa.depth,Aa.depth,Xr,Xr];simp only[Xr];omega
  |cons x l=>
   have q:=j x sM;have v:=K8 (x:=x) (l:=x::l) sM;rw[D7,Aa.depth,Aa.depth,Xr,Xr];omega
 ·omega
def QG{sh g:Aa}(hs:CF sh)(h1:Zh sh)(hl:l.length<=40)(hk:∀k∈l,Zh k):Zh (Zn id sh g l):=by
 unfold Zn;split
 ·exact h1
 ·split
  ·exact MF (Y9 hl hk) sh hs
  ·refine MF ?_ sh hs;rw[<-Aa.eta (Vg id (Q3 sh) l)];refine Y9 (Qj (Qci _ _ _) hl) fun k j=>?_
   rcases fT j with h|h
   ·exact fun y q=>(ER hs h1).1 y ((Vi _ (Hz h)).2.2 y q)
   ·exact hk k h
def fU{sh g:Aa}(hs:CF sh)(h1:sh.depth<=16)(hk:∀k∈l,k.depth<=m):(Zn id sh g l).depth<=m+40:=by
 unfold Zn;split
 ·omega
 ·have n:=(Vi sh (BJ Ky sh hs).1).1;split
  ·have q:=Tc (y:=.node (Qh 7) l) sh;rw[Aa.depth]at q;have z:=Dn hk;omega
  ·have q:=Tc (y:=Vg id (Q3 sh) l) sh;obtain⟨M,v⟩:=X0 (Vg id (Q3 sh) l);have z:Xr M.l<=m+16:=Dn fun k j=>by
    rw[<-v]at j;rcases fT j with h|h
    ·have:=Co h;omega
    ·have:=hk k h;omega
   rw[v]at q|-;rw[<-Aa.eta M,Aa.depth]at q;rw[Aa.eta]at q;omega
def Qcj(own:List Aj->Option Aa):Prop:=∀q t,own q=some t->Zh t
def Qe7{P:Aa->Prop}{own:Option Aa}{g out:Aa}(ho:P out)(hx:∀t,own=some t->Q5 t 2≠60->(Q8 X (Zn id t g l) id).2=0->P (Zn id t g l)):P (CD X id own g out l):=by
 unfold CD;cases own with
 |none=>exact ho
 |some t=>
  show P (if _ then _ else _);split
  ·exact ho
  ·rename_i j;split
   ·rename_i q;exact hx t rfl j q.1
   ·exact ho
def QH(X:Hd->Dc × Bool)(id:Int)(own:List Aj->Option Aa):∀(l:Qp) (p:List Aj) (i:Nat),(IJ X id own l p i).length=l.length
 | [],p,i=>by rw[IJ]
 |x::l,p,i=>by rw[IJ,Xf,Xf,QH X id own l]
def QI(X:Hd->Dc × Bool)(id:Int)(own:List Aj->Option Aa):∀(l:Qp) (p:List Aj),(BS X id own l p).length<=l.length
 | [],p=>by simp[BS]
 | [_],p=>by simp[BS]
 |k::x::l,p=>by
  rw[BS]
  have:=QI X id own l p;simp only[Xf];omega
def QJ{own:List Aj->Option Aa}:∀{l:Qp} {p:List Aj} {i:Nat} {y:Aa},y∈IJ X id own l p i->∃x∈l,∃q,y=Ge X id own x q
 | [],p,i,y,h=>by rw[IJ]at h;cases h
 |x::l,p,i,y,h=>by
  rw[IJ]at h;rcases Xg.1 h with rfl|h
  ·exact⟨x,sM,_,rfl⟩
  ·obtain⟨z,hz,q,e⟩:=QJ h;exact⟨z,by simp[hz],q,e⟩
def QK{own:List Aj->Option Aa}:∀{l:Qp} {p:List Aj} {y:Aa},y∈BS X id own l p->y∈l∨∃x∈l,∃q,y=Ge X id own x q
 | [],p,y,h=>by simp[BS]at h
 | [_],p,y,h=>by simp[BS]at h
 |k::x::l,p,y,h=>by
  rw[BS]at h;rcases Xg.1 h with rfl|h
  ·exact .inl (by simp)
  ·rcases Xg.1 h with rfl|h
   ·exact .inr ⟨x,by simp,_,rfl⟩
   ·rcases QK h with h| ⟨z,hz,q,e⟩
    ·exact .inl (by simp[h])
    ·exact .inr ⟨z,by simp[hz],q,e⟩
def Qck{P:Prop}(h:P:=by
 obtain⟨h1,h2⟩:=ih x hx q (hok x hx) (hlk x hx)
 have:=K8 hx;exact⟨h1,by omega⟩):P:=h
def Qf6{P:Prop}(h:P:=by
 refine hpick _ _ hlen (fun k hk2=>(hk k hk2).1) ⟨?_,?_⟩
 ·rw[<-Aa.eta (Zg id _)];exact Y9 (Qj (Ta _ _) hlen) fun k hk2=>(hk k (IV hk2)).1
 ·refine Qj (LJ _ _) ?_;rw[Aa.depth,Aa.depth]
  have:=Dn fun k hk2=>(hk k hk2).2
  omega):P:=h
def JZ{own:List Aj->Option Aa}(hown:Qcj own):∀(g:Aa) (p:List Aj),CF g->Zh g->Zh (Ge X id own g p)/\(Ge X id own g p).depth<=g.depth+20:=by
 refine Aa.ind fun h l ih p c d=>?_
 obtain⟨j,hlk⟩:=O8 d;have hok:=QC c;have hpick:∀(out:Aa) (L:Qp),L.length<=40->(∀k∈L,Zh k)->Zh out/\out.depth<=(Aa.node h l).depth+20->Zh (CD X id (own p) (.node h l) out L)/\(CD X id (own p) (.node h l) out L).depth<=(Aa.node h l).depth+20:=fun out L f z v=>
  Qe7 (P:=fun y=>Zh y/\y.depth<=(Aa.node h l).depth+20) v fun t r n hc=>by
   have u:CF t:=BI n;refine⟨QG u (hown _ _ r) f z,?_⟩
   have:=(Nl (KQ X hc).1).1;omega
 by_cases m:h.kind=7
 ·rw[Ge,Qe m];have hk:∀k∈IJ X id own l p 0,Zh k/\k.depth<=Xr l+20:=fun k hk=>by
   obtain⟨x,hx,q,rfl⟩:=QJ hk;exact Qck
  have hlen:(IJ X id own l p 0).length<=40:=by rw[QH];exact j
  exact Qf6
 ·by_cases b:h.kind=8
  ·rw[Ge,Qa m,Qe b];have hk:∀k∈BS X id own l p,Zh k/\k.depth<=Xr l+20:=fun k hk=>by
    rcases QK hk with hk| ⟨x,hx,q,rfl⟩
    ·have:=K8 hk;exact⟨hlk k hk,by omega⟩
    ·exact Qck
   have hlen:(BS X id own l p).length<=40:=Qj (QI _ _ _ _ _) j;exact Qf6
  ·rw[Ge,Qa m,Qa b];refine hpick _ _ (by simp) (fun k hk=>by cases hk) ⟨(JV id _ c d).2,?_⟩
   have:=IW id (.node h l);omega
def vB(qs:List (Qo × Aa)):(Zt qs).length=2*qs.length:=by rw[Vs,Z6,Vq]
def vC{qs:List (Qo × Aa)}(h:j<qs.length):Xp (Zt qs) (2*j)=.node (Xy qs[j].1) []/\Xp (Zt qs) (2*j+1)=qs[j].2:=by
 have:=Nz (qs.map Rf) j (by rw[Vq];exact h);rw[<-Vs,Of]at this;exact this
section
variable{X:Hd->Dc × Bool}{f:Int}
end
def Qhr{h:Hd}{l:Qp}(h3:h.kind=3)(ho:Xc (.node h l)=true):l=[]/\Aa.node h []=Rb h.d/\Q2 h.d=true:=by
 have q:Zr (.node h l) {Qh 3 with d:=h.d}=true/\Q2 h.d=true:=by
  unfold Xc at ho;simp only[Aa.Ae,h3]at ho;simpa using ho
 obtain⟨rfl,j⟩:=O2 q.1;refine⟨rfl,?_,q.2⟩;unfold Rb;congr 1;rw[h3]at j;exact j
structure Bh(g:Aa):Prop where
 own:CF g
 fit:Tj g
 srt:O1 g
 deep:g.depth<=16
def Qe8{g:Aa}(h:R7 g=true):Bh g/\Q5 g 1=0:=by
 unfold R7 at h;rw[X1]at h;have z:=Zo h.1;have q:=(Ru _ _).1 h.2;unfold DG at z q;by_cases c:Q5 g 1=0
 ·rw[Qa (fun e=>e c)]at q;have j:=PE c;refine⟨⟨fun y v=>(j y v).1,fun y v=>(j y v).2,?_,(lA c).1⟩,c⟩;have:g.ord=g:=q;rw[<-this];exact Qa0 g
 ·rw[Qe c]at z;exact absurd z c
def Bh.B3{g k:Aa}(h:Bh g)(hk:k∈g.l):Bh k:=by
 have q:=fun y j=>(Vi g (Hz hk)).2.2 y j
 exact⟨fun y j=>h.own y (q y j),fun y j=>h.fit y (q y j),fun y j=>h.srt y (q y j),by have:=Co hk;have:=h.deep;omega⟩
def Qij{P:Prop}(h:P:=by
 simp only[Aa.Ae,Aa.Ag]at h8 o1 o2 o3;have hl:l=Zt ((Kv l).mergeSort FO):=by rw[<-Gw];exact hs.symm
 refine⟨(Kv l).mergeSort FO,by rw[<-hl,o3],?_,RF P7 P8 _⟩;have hnd:=(Nx _).1 o2;rw[hl,Df]at hnd;have e:(((Kv l).mergeSort FO).map fun p=>(Aa.node (Xy p.1) []:Aa))=(((Kv l).mergeSort FO).map Prod.fst).map fun s=>Aa.node (Xy s) []:=by rw[Ka];rfl
 rw[e]at hnd;exact List.Pairwise.imp (fun h e=>h (by rw[e])) (UV.1 hnd)):P:=h
def Bh.map{g:Aa}(h:Bh g)(h8:g.hd.kind=8):∃qs,g=.node (Qh 8) (Zt qs)/\(qs.map Prod.fst).Nodup/\qs.Pairwise (fun a b=>FO a b=true):=by
 obtain⟨hd,l⟩:=g;have hs:Jg (Kv l)=l:=h.srt _ (Z8 _) h8;obtain⟨o1,o2,o3⟩:=O9 (Rw h.own) h8;exact Qij
def Bh.key{qs:List (Qo × Aa)}(h:Bh (.node (Qh 8) (Zt qs))){q:Qo × Aa}(hq:q∈qs):Xc (.node (Xy q.1) [])=true:=by
 refine h.own _ (Hz (t:=.node (Qh 8) (Zt qs)) ?_);show _∈Zt qs;unfold Zt;exact Nm.2 ⟨q,hq,sM⟩
section
variable{f:Int}
end
def Qcl(N:Nat)(E:Am)(id:Int)(B:Aa)(l:Qp):Prop:=
 ∀(S:Qz) (bv lv:Q0) (w:Qm),Ah N E w->N<=w.heap.size->B.hd.ok->Ad S w B.l bv->Ad S w l lv->(∀k,w.heap.size<=k->S k)->
  Calls prog 164 #[.agg #[.int .i64 id],Qu B.hd bv,lv] w (J1 S (Vg id B l) w)
def Qf7{P Q:Prop}(h:Q)(f:Wz Q->P:=by
 intro zz;have hS0:∀k,w.heap.size+4<=k->S k/\k≠w.heap.size+1+1+1:=fun k h=>⟨hS k oM,oM⟩
 have hr0:Ad (fun b=>S b/\b≠w.heap.size+1+1+1) w sh.l sv:=hr.mono fun b hb h=>⟨h,oM⟩
 have hl0:Ad (fun b=>S b/\b≠w.heap.size+1+1+1) w l lv:=hl.mono fun b hb h=>⟨h,oM⟩
 have hBA:=fun W (hk:Qd w W)=>CE (fun b=>S b/\b≠w.heap.size+1+1+1) sh sv W (hG.same hk) (Qj hN hk.size) ho (hr0.same hk) hs
 revert hS0 hr0 hl0 hBA;exact zz.o):P:=f ⟨h⟩
def Qe9{P Q:Prop}(h:Q)(f:Wz Q->P:=by
 intro zz;obtain⟨ln,hln⟩:∃n,l.length=n:=⟨_,rfl⟩;obtain⟨n,hn⟩:=X0 sh.l.length;obtain⟨h,hh⟩:=X0 sh.hd;revert ln hln n hn h hh;exact zz.o):P:=f ⟨h⟩
def Qik{P Q:Prop}(h:Q)(f:Wz Q->P:=by
 intro zz;have hkw1:Qd w w1:=Xd;have c0:=Qb (o:=.cells (nR B.hd (.slice ba B.l.length bc)) 27) (hk1.s hb0);have c1:=Qb (o:=.cells (nR B.hd (.slice ba B.l.length bc)) 27) (hk1.s hb1);have c2:=Qb (o:=.cells (nR B.hd (.slice ba B.l.length bc)) 27) (hk1.s hb2);have c3:=Qb (o:=.cells (nR B.hd (.slice ba B.l.length bc)) 27) (hk1.s hb3);have c4:=Qt w1 (.cells (nR B.hd (.slice ba B.l.length bc)) 27);have hk2:Qd w (w1.alloc (.cells (nR B.hd (.slice ba B.l.length bc)) 27)):=hkw1.trans ((Ac.refl _ _).alloc _);have hz2:w.heap.size+4<=(w1.alloc (.cells (nR B.hd (.slice ba B.l.length bc)) 27)).heap.size:=Qg c3;have g0:=Qi c2;have x0:=Qi c4;revert hkw1 c0 c1 c2 c3 c4 hk2 hz2 g0 x0;exact zz.o):P:=f ⟨h⟩
def XW{N:Nat}{E:Am}(S:Qz)(id:Int)(sh g:Aa)(l:Qp)(sv lv:Q0)(ga:Jr)(gn gc:Nat)(w:Qm)(hG:Ah N E w)(hN:N<=w.heap.size)(ho:sh.hd.ok)(hr:Ad S w sh.l sv)(hl:Ad S w l lv)(hs:CF sh)(hS:∀k,w.heap.size<=k->S k)
  (hd:(Q3 sh).hd.kind≠g.hd.kind):Calls prog 97 #[.agg #[.int .i64 id],Qu sh.hd sv,Qu g.hd (.slice ga gn gc),lv] w (J1 S (Zn id sh g l) w):=by
 have q:Zn id sh g l=sh:=by unfold Zn;rw[Qe (.inl hd)]
 refine Qf7 ?_
 intro hS0 hr0 hl0 hBA
 rw[q]
 unfold J1
 generalize u:Q3 sh=B at hBA hd
 obtain⟨a,j,rfl⟩:=hr.Ab
 obtain⟨la,p,rfl⟩:=hl.Ab
 refine Qe9 ?_
 intro ln hln n hn h hh
 obtain⟨y,v⟩:∃h,g.hd=h:=⟨_,rfl⟩
 rw[hn,hh]at hBA
 rw[v]at hd
 have x:(B.hd.kind==y.kind)=false:=by simpa using hd
 have f:(B.hd.kind !=y.kind)=true:=by simpa using hd
 rw[hn]at hr0
 rw[hln]at hl0
 rw[hn,hh,v,hln]
 rw[hh]at ho
 have hb3:((((w.alloc (.cells #[i6 id] 60)).alloc (.cells (nR h (.slice a n j)) 27)).alloc (.cells (nR y (.slice ga gn gc)) 27)).alloc (.cells zR 27)).heap[w.heap.size+1+1+1]? =some (.cells zR 27 (0,0)):=Ql sM
 have hb2:((((w.alloc (.cells #[i6 id] 60)).alloc (.cells (nR h (.slice a n j)) 27)).alloc (.cells (nR y (.slice ga gn gc)) 27)).alloc (.cells zR 27)).heap[w.heap.size+1+1]? =some (.cells (nR y (.slice ga gn gc)) 27 (0,0)):=Qb (Ql sM)
 have hb1:((((w.alloc (.cells #[i6 id] 60)).alloc (.cells (nR h (.slice a n j)) 27)).alloc (.cells (nR y (.slice ga gn gc)) 27)).alloc (.cells zR 27)).heap[w.heap.size+1]? =some (.cells (nR h (.slice a n j)) 27 (0,0)):=Qb (Qb (Ql sM))
 have hb0:((((w.alloc (.cells #[i6 id] 60)).alloc (.cells (nR h (.slice a n j)) 27)).alloc (.cells (nR y (.slice ga gn gc)) 27)).alloc (.cells zR 27)).heap[w.heap.size]? =some (.cells #[i6 id] 60 (0,0)):=Qb (Qb (Qb (Qt w _)))
 replace hn:=Qc hn
 replace hh:=Qc hh
 replace hln:=Qc hln
 replace u:=Qc u
 clear hr hl v q hd
 go_in
 go_wp2_with fail
 refine(hBA _ Xd).mono ?_
 rintro e w1 ⟨r,rfl,m,d,hk1⟩
 obtain⟨ba,bc,rfl⟩:=m.Ab
 refine Qik ?_
 intro hkw1 c0 c1 c2 c3 c4 hk2 hz2 g0 x0
 clear hk1 hb0 hb1 hb2 hb3 hBA
 have t0:=Qi c1
 have z0:=Qi c3
 have t:=Jd c3
 go_wp2_with fail
 obtain⟨c,z⟩:=Yw c3 h (.slice a n j)
 refine DS rfl rfl c rfl ⟨_,rfl,?_,ho,Xt hk2 z oM⟩
 exact((hr0.same hk2).Af z fun b hb _ _=>hb.2).mono fun b _ hb=>hb.1
def Qil{P Q:Prop}(h:Q)(f:Wz Q->P:=by
 intro zz;obtain⟨ln,hln⟩:∃n,l.length=n:=⟨_,rfl⟩;obtain⟨n,hn⟩:=X0 sh.l.length;obtain⟨h,hh⟩:=X0 sh.hd;obtain⟨⟨gk,gb,gd,gu,gw,gs⟩,hgh⟩:∃h,g.hd=h:=⟨_,rfl⟩;revert ln hln n hn h hh gk gb gd gu gw gs hgh;exact zz.o):P:=f ⟨h⟩
def Qiy{P Q:Prop}(h:Q)(f:Wz Q->P:=by
 intro zz;have hb3:((((w.alloc (.cells #[i6 id] 60)).alloc (.cells (nR h (.slice a n cap)) 27)).alloc (.cells #[i6 B.hd.kind,.bool gb,.bool gd.neg,.string gd.digits,i6 gd.exp,.int .u64 (gu:Int),i6 gw,.string gs,.slice ga gn gc] 27)).alloc (.cells zR 27)).heap[w.heap.size+1+1+1]? =some (.cells zR 27 (0,0)):=Ql sM;have hb2:((((w.alloc (.cells #[i6 id] 60)).alloc (.cells (nR h (.slice a n cap)) 27)).alloc (.cells #[i6 B.hd.kind,.bool gb,.bool gd.neg,.string gd.digits,i6 gd.exp,.int .u64 (gu:Int),i6 gw,.string gs,.slice ga gn gc] 27)).alloc (.cells zR 27)).heap[w.heap.size+1+1]? =some (.cells #[i6 B.hd.kind,.bool gb,.bool gd.neg,.string gd.digits,i6 gd.exp,.int .u64 (gu:Int),i6 gw,.string gs,.slice ga gn gc] 27 (0,0)):=Qb (Ql sM);have hb1:((((w.alloc (.cells #[i6 id] 60)).alloc (.cells (nR h (.slice a n cap)) 27)).alloc (.cells #[i6 B.hd.kind,.bool gb,.bool gd.neg,.string gd.digits,i6 gd.exp,.int .u64 (gu:Int),i6 gw,.string gs,.slice ga gn gc] 27)).alloc (.cells zR 27)).heap[w.heap.size+1]? =some (.cells (nR h (.slice a n cap)) 27 (0,0)):=Qb (Qb (Ql sM));have hb0:((((w.alloc (.cells #[i6 id] 60)).alloc (.cells (nR h (.slice a n cap)) 27)).alloc (.cells #[i6 B.hd.kind,.bool gb,.bool gd.neg,.string gd.digits,i6 gd.exp,.int .u64 (gu:Int),i6 gw,.string gs,.slice ga gn gc] 27)).alloc (.cells zR 27)).heap[w.heap.size]? =some (.cells #[i6 id] 60 (0,0)):=Qb (Qb (Qb (Qt w _)));revert hb3 hb2 hb1 hb0;exact zz.o):P:=f ⟨h⟩
def fV{N:Nat}{E:Am}(S:Qz)(id:Int)(sh g:Aa)(l:Qp)(sv lv:Q0)(ga:Jr)(gn gc:Nat)(w:Qm)(hG:Ah N E w)(hN:N<=w.heap.size)(ho:sh.hd.ok)(hr:Ad S w sh.l sv)(hl:Ad S w l lv)(hs:CF sh)(hS:∀k,w.heap.size<=k->S k)
  (hd:(Q3 sh).hd.kind=g.hd.kind)(hL:Xn g.hd=false):Calls prog 97 #[.agg #[.int .i64 id],Qu sh.hd sv,Qu g.hd (.slice ga gn gc),lv] w (J1 S (Zn id sh g l) w):=by
 have q:Zn id sh g l=sh:=by unfold Zn;rw[Qe (.inr hL)]
 refine Qf7 ?_
 intro hS0 hr0 hl0 hBA
 have y:=fun a n c W=>Np g.hd a n c W
 rw[hL]at y
 rw[q]
 unfold J1
 generalize d:Q3 sh=B at hBA hd
 obtain⟨a,cap,rfl⟩:=hr.Ab
 obtain⟨la,lc,rfl⟩:=hl.Ab
 refine Qil ?_
 intro ln hln n hn h hh gk gb gd gu gw gs hgh
 rw[hn,hh]at hBA
 rw[hgh]at hd y
 simp only at hd
 subst hd
 rw[hn]at hr0
 rw[hln]at hl0
 rw[hn,hh,hgh,hln]
 rw[hh]at ho
 refine Qiy ?_
 intro hb3 hb2 hb1 hb0
 replace hn:=Qc hn
 replace hh:=Qc hh
 replace hln:=Qc hln
 replace d:=Qc d
 clear hr hl hgh q hL
 go_in
 go_wp2_with fail
 refine(hBA _ Xd).mono ?_
 rintro e w1 ⟨v1,rfl,u,t,hk1⟩
 obtain⟨ba,bc,rfl⟩:=u.Ab
 refine Qik ?_
 intro hkw1 c0 c1 c2 c3 c4 hk2 hz2 g0 x0
 clear hk1 hb0 hb1 hb2 hb3 hBA
 go_wp2_with fail
 refine(y _ _ _ _).mono ?_
 rintro e r ⟨rfl,v⟩
 have j:=hk2.trans v
 have x:=v.s c1
 have m:=v.s c3
 have t0:=Qi x
 have z0:=Qi m
 have p:=Jd m
 clear g0 x0
 go_wp2_with fail
 obtain⟨f,z⟩:=Yw m h (.slice a n cap)
 refine DS rfl rfl f rfl ⟨_,rfl,?_,ho,Xt j z oM⟩
 exact((hr0.same j).Af z fun b hb _ _=>hb.2).mono fun b _ hb=>hb.1
def qP{P Q:Prop}(h:Q)(f:Wz Q->P:=by
 intro zz;have hS0:∀k,w.heap.size+4<=k->S k/\k≠w.heap.size+1+1+1:=fun k h=>⟨hS k oM,oM⟩
 have hr0:Ad (fun b=>S b/\b≠w.heap.size+1+1+1) w sh.l sv:=hr.mono fun b hb h=>⟨h,oM⟩
 have hl0:Ad (fun b=>S b/\b≠w.heap.size+1+1+1) w l lv:=hl.mono fun b hb h=>⟨h,oM⟩
 have hBA:=fun W (hk:Qd w W)=>CE (fun b=>S b/\b≠w.heap.size+1+1+1) sh sv W (hG.same hk) (Qj hN hk.size) ho (hr0.same hk) hs
 have hIL:=fun a n c W=>Np g.hd a n c W
 rw[hL]at hIL;revert hS0 hr0 hl0 hBA hIL;exact zz.o):P:=f ⟨h⟩
def qQ{P Q:Prop}(h:Q)(f:Wz Q->P:=by
 intro zz;have hb3:((((w.alloc (.cells #[i6 id] 60)).alloc (.cells (nR h (.slice a n cap)) 27)).alloc (.cells #[i6 B.hd.kind,.bool gb,.bool gd.neg,.string gd.digits,i6 gd.exp,.int .u64 (gu:Int),i6 gw,.string gs,.slice ga gn gc] 27)).alloc (.cells zR 27)).heap[w.heap.size+1+1+1]? =some (.cells zR 27 (0,0)):=Ql sM;have hb2:((((w.alloc (.cells #[i6 id] 60)).alloc (.cells (nR h (.slice a n cap)) 27)).alloc (.cells #[i6 B.hd.kind,.bool gb,.bool gd.neg,.string gd.digits,i6 gd.exp,.int .u64 (gu:Int),i6 gw,.string gs,.slice ga gn gc] 27)).alloc (.cells zR 27)).heap[w.heap.size+1+1]? =some (.cells #[i6 B.hd.kind,.bool gb,.bool gd.neg,.string gd.digits,i6 gd.exp,.int .u64 (gu:Int),i6 gw,.string gs,.slice ga gn gc] 27 (0,0)):=Qb (Ql sM);have hb1:((((w.alloc (.cells #[i6 id] 60)).alloc (.cells (nR h (.slice a n cap)) 27)).alloc (.cells #[i6 B.hd.kind,.bool gb,.bool gd.neg,.string gd.digits,i6 gd.exp,.int .u64 (gu:Int),i6 gw,.string gs,.slice ga gn gc] 27)).alloc (.cells zR 27)).heap[w.heap.size+1]? =some (.cells (nR h (.slice a n cap)) 27 (0,0)):=Qb (Qb (Ql sM));have hb0:((((w.alloc (.cells #[i6 id] 60)).alloc (.cells (nR h (.slice a n cap)) 27)).alloc (.cells #[i6 B.hd.kind,.bool gb,.bool gd.neg,.string gd.digits,i6 gd.exp,.int .u64 (gu:Int),i6 gw,.string gs,.slice ga gn gc] 27)).alloc (.cells zR 27)).heap[w.heap.size]? =some (.cells #[i6 id] 60 (0,0)):=Qb (Qb (Qb (Qt w _)));revert hb3 hb2 hb1 hb0;exact zz.o):P:=f ⟨h⟩
def qR{P Q:Prop}(h:Q)(f:Wz Q->P:=by
 intro zz;have hkw1:Qd w w1:=Xd;have c0:=Qb (o:=.cells (nR B.hd (.slice ba B.l.length bc)) 27) (hk1.s hb0);have c1:=Qb (o:=.cells (nR B.hd (.slice ba B.l.length bc)) 27) (hk1.s hb1);have c2:=Qb (o:=.cells (nR B.hd (.slice ba B.l.length bc)) 27) (hk1.s hb2);have c3:=Qb (o:=.cells (nR B.hd (.slice ba B.l.length bc)) 27) (hk1.s hb3);have c4:=Qt w1 (.cells (nR B.hd (.slice ba B.l.length bc)) 27);have hk2:Qd w (w1.alloc (.cells (nR B.hd (.slice ba B.l.length bc)) 27)):=hkw1.trans ((Ac.refl _ _).alloc _);have hz2:w.heap.size+4<=(w1.alloc (.cells (nR B.hd (.slice ba B.l.length bc)) 27)).heap.size:=Qg c3;have g0:=Qi c2;have x0:=Qi c4;revert hkw1 c0 c1 c2 c3 c4 hk2 hz2 g0 x0;exact zz.o):P:=f ⟨h⟩
def qS{P Q:Prop}(h:Q)(f:Wz Q->P:=by
 intro zz;have hkw3:=hk2.trans hk3;have d0:=hk3.s c0;have d1:=hk3.s c1;have d2:=hk3.s c2;have d3:=hk3.s c3;have d4:=hk3.s c4;have hr3:=hr1.same (((Ac.refl _ w1).alloc _).trans hk3);have hz3:w.heap.size+4<=w3.heap.size:=Qg d3;revert hkw3 d0 d1 d2 d3 d4 hr3 hz3;exact zz.o):P:=f ⟨h⟩
def T3{P Q:Prop}(h:Q)(f:Wz Q->P:=by
 intro zz;refine Kd rfl rfl ?_;intro K hK;go_simp;revert K hK;exact zz.o):P:=f ⟨h⟩
def qT{P:Prop}(h:P:=by
 clear hK K;refine BD (G5 rfl ?_);have e3:=hk35.s d3;have z0:=Qi e3;have hfz:=Jd e3;have hkw5:=hkw3.trans hk35;go_simp;go_wp2_with fail;obtain⟨h9,hk9⟩:=Yw e3 R.hd (.slice a5 R.l.length c5);refine DS rfl rfl h9 rfl ⟨_,rfl,?_,ho5,Xt hkw5 hk9 oM⟩;exact(hr5.Af hk9 fun b hb _ _=>hb.2).mono fun b _ hb=>hb.1):P:=h
def mM{N:Nat}{E:Am}(S:Qz)(id:Int)(sh g:Aa)(l:Qp)(sv lv:Q0)(ga:Jr)(gn gc:Nat)(w:Qm)(hG:Ah N E w)(hN:N<=w.heap.size)(ho:sh.hd.ok)(hr:Ad S w sh.l sv)(hl:Ad S w l lv)(hs:CF sh)(hS:∀k,w.heap.size<=k->S k)
  (hd:(Q3 sh).hd.kind=g.hd.kind)(hL:Xn g.hd=true)(h7:g.hd.kind=7):Calls prog 97 #[.agg #[.int .i64 id],Qu sh.hd sv,Qu g.hd (.slice ga gn gc),lv] w (J1 S (Zn id sh g l) w):=by
 have y:Zn id sh g l=Xo (.node (Qh 7) l) sh:=by unfold Zn;rw[Qa (fun e=>e.elim (fun e=>e hd) fun e=>by rw[hL]at e;cases e),Qe h7]
 refine qP ?_
 intro hS0 hr0 hl0 hBA hIL
 have q:=fun W (hk:Qd w W) (hz:w.heap.size+4<=W.heap.size)=>C0 (.node (Qh 7) l) sh (fun b=>S b/\b≠w.heap.size+1+1+1) sv lv W (hG.same hk) (Qj hN hk.size) ho (hr0.same hk) hs (K1 7 dM) (hl0.same hk) (fun k h=>hS0 k oM)
 simp only[Aa.Ae]at q
 rw[y]
 unfold J1
 generalize d:Q3 sh=B at hBA hd
 obtain⟨a,cap,rfl⟩:=hr.Ab
 obtain⟨r,t,rfl⟩:=hl.Ab
 obtain⟨ln,j⟩:∃n,l.length=n:=⟨_,rfl⟩
 obtain⟨n,u⟩:=X0 sh.l.length
 obtain⟨h,m⟩:=X0 sh.hd
 obtain⟨⟨gk,gb,gd,gu,gw,gs⟩,z⟩:∃h,g.hd=h:=⟨_,rfl⟩
 rw[u,m]at hBA
 rw[z]at hd h7 hIL
 rw[u,m,j]at q
 simp only at hd h7
 subst hd
 have f:(B.hd.kind==7)=true:=by simpa using h7
 generalize x:Xo (.node (Qh 7) l) sh=R at q|-
 unfold J1 at q
 rw[u]at hr0
 rw[j]at hl0
 rw[u,m,z,j]
 rw[m]at ho
 refine qQ ?_
 intro hb3 hb2 hb1 hb0
 replace u:=Qc u
 replace m:=Qc m
 replace j:=Qc j
 replace d:=Qc d
 clear hr hl z y hL h7 x
 go_in
 go_wp2_with fail
 refine(hBA _ Xd).mono ?_
 rintro e w1 ⟨v1,rfl,hr1,a0,hk1⟩
 obtain⟨ba,bc,rfl⟩:=hr1.Ab
 refine qR ?_
 intro hkw1 c0 c1 c2 c3 c4 hk2 hz2 g0 x0
 clear hk1 hb0 hb1 hb2 hb3 hBA
 go_wp2_with fail
 refine(hIL _ _ _ _).mono ?_
 rintro e w3 ⟨rfl,hk3⟩
 refine qS ?_
 intro hkw3 d0 d1 d2 d3 d4 hr3 hz3
 clear g0 x0 c0 c1 c2 c3 c4
 have g0:=Qi d2
 go_wp2_with fail
 refine(Vd (n:=0)).1 ?_
 refine KC (n:=0) d1 ?_
 simp only[Vz]
 have p:=Qi d1
 repeat refine sX ?_
 clear p g0
 refine T3 ?_
 intro K hK
 refine(Qr (DM 7 r ln t _)).mono ?_
 rintro e w4 ⟨rfl,v⟩
 refine hK _ _ ((Ac.refl _ w3).drew.trans v|>.s d1) ?_
 clear hK K
 refine T3 ?_
 intro K hK
 refine(Qr (q _ (hkw3.drew.trans v) (Qj hz3 v.size))).mono ?_
 rintro e w5 ⟨v5,rfl,hr5,ho5,c⟩
 have hk35:=(Ac.refl _ w3).drew.trans (v.trans c)
 obtain⟨a5,c5,rfl⟩:=hr5.Ab
 refine hK _ _ (hk35.s d1) ?_
 exact qT
def mN{N:Nat}{E:Am}(S:Qz)(id:Int)(sh g:Aa)(l:Qp)(sv lv:Q0)(ga:Jr)(gn gc:Nat)(w:Qm)(hG:Ah N E w)(hN:N<=w.heap.size)(ho:sh.hd.ok)(hr:Ad S w sh.l sv)(hl:Ad S w l lv)(hs:CF sh)(hS:∀k,w.heap.size<=k->S k)
  (hd:(Q3 sh).hd.kind=g.hd.kind)(hL:Xn g.hd=true)(h7:g.hd.kind≠7)(hmem:Qcl N E id (Q3 sh) l):Calls prog 97 #[.agg #[.int .i64 id],Qu sh.hd sv,Qu g.hd (.slice ga gn gc),lv] w (J1 S (Zn id sh g l) w):=by
 have v:Zn id sh g l=Xo (Vg id (Q3 sh) l) sh:=by unfold Zn;rw[Qa (fun e=>e.elim (fun e=>e hd) fun e=>by rw[hL]at e;cases e),Qa h7]
 refine qP ?_
 intro hS0 hr0 hl0 hBA hIL
 have j:=fun(W:Qm) bv (hk:Qd w W) (hz:w.heap.size+4<=W.heap.size) (hbo:(Q3 sh).hd.ok) (hbr:Ad (fun b=>S b/\b≠w.heap.size+1+1+1) W (Q3 sh).l bv)=>hmem (fun b=>S b/\b≠w.heap.size+1+1+1) bv lv W (hG.same hk) (Qj hN hk.size) hbo hbr (hl0.same hk) (fun k h=>hS0 k oM)
 generalize hM:Vg id (Q3 sh) l=M at j v
 unfold J1 at j
 have z:=fun(W:Qm) yv (hk:Qd w W) (hz:w.heap.size+4<=W.heap.size) (hyo:M.hd.ok) (hyr:Ad (fun b=>S b/\b≠w.heap.size+1+1+1) W M.l yv)=>C0 M sh (fun b=>S b/\b≠w.heap.size+1+1+1) sv yv W (hG.same hk) (Qj hN hk.size) ho (hr0.same hk) hs hyo hyr (fun k h=>hS0 k oM)
 rw[v]
 unfold J1
 generalize r:Q3 sh=B at hBA hd j
 obtain⟨a,cap,rfl⟩:=hr.Ab
 obtain⟨la,lc,rfl⟩:=hl.Ab
 obtain⟨ln,q⟩:∃n,l.length=n:=⟨_,rfl⟩
 obtain⟨n,c⟩:=X0 sh.l.length
 obtain⟨h,d⟩:=X0 sh.hd
 obtain⟨⟨gk,gb,gd,gu,gw,gs⟩,u⟩:∃h,g.hd=h:=⟨_,rfl⟩
 rw[c,d]at hBA
 rw[u]at hd h7 hIL
 rw[c,d]at z
 rw[q]at j
 simp only at hd h7
 subst hd
 have a1:(B.hd.kind==7)=false:=by simpa using h7
 generalize hR:Xo M sh=R at z|-
 unfold J1 at z
 rw[c]at hr0
 rw[q]at hl0
 rw[c,d,u,q]
 rw[d]at ho
 refine qQ ?_
 intro hb3 hb2 hb1 hb0
 replace c:=Qc c
 replace d:=Qc d
 replace q:=Qc q
 replace r:=Qc r
 clear hr hl u v hL h7 hR hM hmem
 go_in
 go_wp2_with fail
 refine(hBA _ Xd).mono ?_
 rintro e w1 ⟨v1,rfl,hr1,x,hk1⟩
 obtain⟨ba,bc,rfl⟩:=hr1.Ab
 refine qR ?_
 intro hkw1 c0 c1 c2 c3 c4 hk2 hz2 g0 x0
 clear hk1 hb0 hb1 hb2 hb3 hBA
 go_wp2_with fail
 refine(hIL _ _ _ _).mono ?_
 rintro e w3 ⟨rfl,hk3⟩
 refine qS ?_
 intro hkw3 d0 d1 d2 d3 d4 hr3 hz3
 clear g0 x0 c0 c1 c2 c3 c4
 have g0:=Qi d2
 go_wp2_with fail
 refine(Vd (n:=0)).1 ?_
 refine KC (n:=0) (And.intro d1 (And.intro d0 d4)) ?_
 simp only[Vz]
 have t0:=Qi d1
 have nf:=Q4 d0
 have x0:=Qi d4
 repeat refine sX ?_
 clear t0 g0 x0 nf
 refine T3 ?_
 intro K hK
 refine(Qr (j _ _ hkw3.drew hz3 x (hr3.same (Ac.refl _ _).drew))).mono ?_
 rintro e w4 ⟨v4,rfl,f,p,m⟩
 have y:=(Ac.refl _ w3).drew.trans m
 obtain⟨a4,a0,rfl⟩:=f.Ab
 refine hK _ _ ⟨y.s d1,y.s d0,y.s d4⟩ ?_
 clear hK K j
 refine T3 ?_
 intro K hK
 refine(Qr (z _ _ (hkw3.drew.trans m) (Qj hz3 m.size) p f)).mono ?_
 rintro e w5 ⟨v5,rfl,hr5,ho5,t⟩
 have hk35:=(Ac.refl _ w3).drew.trans (m.trans t)
 obtain⟨a5,c5,rfl⟩:=hr5.Ab
 refine hK _ _ ⟨hk35.s d1,hk35.s d0,hk35.s d4⟩ ?_
 exact qT
def mO{N:Nat}{E:Am}(S:Qz)(id:Int)(sh g:Aa)(l:Qp)(sv lv:Q0)(ga:Jr)(gn gc:Nat)(w:Qm)(hG:Ah N E w)(hN:N<=w.heap.size)(ho:sh.hd.ok)(hr:Ad S w sh.l sv)(hl:Ad S w l lv)(hs:CF sh)(hS:∀k,w.heap.size<=k->S k)
  (hmem:(Q3 sh).hd.kind=g.hd.kind->g.hd.kind=8->Qcl N E id (Q3 sh) l):Calls prog 97 #[.agg #[.int .i64 id],Qu sh.hd sv,Qu g.hd (.slice ga gn gc),lv] w (J1 S (Zn id sh g l) w):=by
 by_cases hd:(Q3 sh).hd.kind=g.hd.kind
 ·cases hL:Xn g.hd with
  |false=>exact fV S id sh g l sv lv ga gn gc w hG hN ho hr hl hs hS hd hL
  |true=>
   by_cases j:g.hd.kind=7
   ·exact mM S id sh g l sv lv ga gn gc w hG hN ho hr hl hs hS hd hL j
   ·refine mN S id sh g l sv lv ga gn gc w hG hN ho hr hl hs hS hd hL j (hmem hd ?_);unfold Xn at hL;simpa[j] using hL
 ·exact XW S id sh g l sv lv ga gn gc w hG hN ho hr hl hs hS hd
def Lz{F:Fence}{n:Nat}{P:Program}(w:Qm){ops:Array Oper}{rest:List Oper}{o:Oper}{a:Act}{Q:Exit->Act->Qm->Prop}
  (hg:o.guard=none)(s x:Operand)(t u9:TypeId)(hop:o.op=Op.call {callee:=Callee.builtin Builtin.delete,args:=#[s,x],argTypes:=#[t,u9]})
  (v u:Q0)(hs:a.eval s=v)(hx:a.eval x=u)(v':Q0)(w':Qm)(hrun:(Builtin.delete_ #[t,u9] o.type #[v,u]).run P w=.ok v' w')(hK:wpListIn F n P ops Q rest (a.put o.dst v') w'):
  wpListIn F n P ops Q (o::rest) a w:=by
 exact Qbv
def VA{α β:Type}(f:α->β):∀(l:List α) (k:Nat),(l.map f).eraseIdx k=(l.eraseIdx k).map f
 | [],k=>rfl
 |x::l,0=>rfl
 |x::l,k+1=>by rw[Zy,eD,eD,Zy,VA f l k]
def F5:∀(l:Qp) (i:Nat) (h:2*i+1<l.length),(Xa l)[i]? =some (l[2*i]'(by omega),l[2*i+1])
 | [],i,h=>by simp at h
 | [_],i,h=>by simp at h
 |k::x::l,0,h=>rfl
 |k::x::l,i+1,h=>by
  have h2:2*i+1<l.length:=by simp only[Xf]at h;omega
  rw[Xa,Qad,F5 l i h2];rfl
def Qcm{P Q:Prop}(h:Q)(f:Wz Q->P:=by
 intro zz;have hra:A.rangeAt b3x 0 (Qn kt.hd (.slice ka kt.l.length kc)++Qn gt.hd (.slice ga gt.l.length gc)):=fun j v hj=>by
  rw[Z3,Vj _ _ j _ _ _ hb3];simpa using hj
 obtain⟨k0,k1,k2,k3,k4,k5,k6,k7,k8⟩:=Z0 (Dg hra);revert hra k0 k1 k2 k3 k4 k5 k6 k7 k8;exact zz.o):P:=f ⟨h⟩
def HW{P:Prop}(h:P:=by
 intro h c f e;rw[e]at ho;cases ho):P:=h
def Qcn{N:Nat}{E:Am}(id:Int)(B:Aa)(l:Qp)(hn:((Xa l).map Rc).Nodup)(hlen:l.length<=400)(hdB:∀x∈B.l,x.depth<=1000000)(hdl:∀x∈l,x.depth<=1000000)(hBl:B.l.length<=400):Qcl N E id B l:=by
 intro S bv lv w hG hN ho hr hl hS;obtain⟨ba,bc,rfl⟩:=hr.Ab;obtain⟨la,lc,rfl⟩:=hl.Ab;generalize hR:Vg id B l=R;obtain⟨ln,f9⟩:∃n,l.length=n:=⟨_,rfl⟩;rw[f9];replace hR:=Qc hR;replace f9:=Qc f9;refine(J5 (n:=0)).1 (Vy func164 rfl trivial ?_ rfl);simp only[ntmps164];refine Ie ?_;gi_wp2_with(gi_at_call 69;refine(Qr (Yq _ _ _ _)).mono ?_;rintro e w' ⟨rfl,rfl⟩);rw[Mg];gi_wp2_with(gi_at_call 69;refine(Qr (Yq _ _ _ _)).mono ?_;rintro e w' ⟨rfl,rfl⟩);generalize bh:World.alloc (World.alloc (World.alloc _ (Obj.map #[] 0)) _) (.cells #[.slice la ln lc] 25)=W1;have te:W1.heap.size=w.heap.size+6:=by rw[<-bh];simp
 have a5:Qd w W1:=by rw[<-bh];exact Xd
 have b0:W1.heap[w.heap.size]? =some (.cells #[i6 id] 60 (0,0)):=by rw[<-bh];exact Qb (Qb (Qb (Qb (Qb (Qt w _)))))
 have b1:W1.heap[w.heap.size+1]? =some (.cells (nR B.hd (.slice ba B.l.length bc)) 27 (0,0)):=by rw[<-bh];exact Qb (Qb (Qb (Qb (Ql sM))))
 have b2:W1.heap[w.heap.size+1+1]? =some (.cells zR 27 (0,0)):=by rw[<-bh];exact Qb (Qb (Qb (Ql sM)))
 have b3:W1.heap[w.heap.size+1+1+1]? =some (.map #[] 0):=by rw[<-bh];exact Qb (Qb (Ql sM))
 have b4:W1.heap[w.heap.size+1+1+1+1]? =some (.cells #[.map (some (w.heap.size+1+1+1))] 71 (0,0)):=by rw[<-bh];exact Qb (Ql sM)
 have b5:Boxed W1 (w.heap.size+1+1+1+1+1) 25 (.slice la ln lc):=by rw[<-bh];exact Ql sM
 clear bh;rw[<-f9.out]at b5;have bg:Ad (fun b=>S b/\b≠w.heap.size+1+1) W1 l (.slice la l.length lc):=(hl.mono (S':=(fun b=>S b/\b≠w.heap.size+1+1)) fun b hb h=>⟨h,oM⟩).same a5;obtain⟨ps,gg⟩:=X0 ((Xa l).map (fun q=>(Rc q,q.2)));obtain⟨Sb,dc⟩:∃Sb:Nat->Obj->Prop,Sb=fun b o=>b=w.heap.size+1+1+1->o.isCells=true:=⟨_,rfl⟩
 refine Jt (gf:=122) (lb:=#[pt (w.heap.size+1+1+1+1+1)])
  rfl (X3 func122 kM rfl) (l.length/2) (DB (fun b=>S b/\b≠w.heap.size+1+1) l) Sb (fun _ _=>True)
  (fun _=>True) (fun _ _=>True) ?hit ?hSb (fun _ _ _ _ _=>trivial)
  (fun i A=>As (fun b=>S b/\b≠w.heap.size+1+1) A (w.heap.size+1+1+1) (ps.take i)/\Ac (fun b _=>b<W1.heap.size/\b≠w.heap.size+1+1+1) W1 A)
  (fun _ _ _=>False) ?hI (fun _ _ _ _ h _=>h) ?hE (fun _ _ _ _=>trivial) (fun _ _ _ _ _=>trivial) ?hEs ⟨As.new b3,Ac.refl _ _⟩
  (fun i v a' A=>∃(bx:Nat) (cs:Array Q0),v=#[.agg cs]/\A.heap[bx]? =some (.cells cs Z5 (0,0))/\W1.heap.size<=bx/\a'={tmps:=#[.agg #[i6 id],Qu B.hd (.slice ba B.l.length bc),.slice la ln lc,pt w.heap.size,pt (w.heap.size+1),undef,pt (w.heap.size+1+1),pt (w.heap.size+1+1+1+1),pt bx,undef,undef,undef,undef,undef,undef,undef,undef,undef,.map (some (w.heap.size+1+1+1)),.slice la ln lc,.func (.func 122) #[] #[pt (w.heap.size+1+1+1+1+1)],.agg cs,undef,undef,undef,undef,undef,undef,undef,undef,undef,undef,undef,undef,undef,undef,undef,undef,undef,undef,undef,undef,undef,undef,undef,undef,undef,undef,undef,undef,undef,undef,undef,undef,undef,undef,undef,undef,undef,undef,undef,undef,undef,undef,undef,undef,undef,undef,undef,undef,undef,undef,undef,undef,undef,undef,undef,undef],defers:=[]}) ?hAx ?hassign ?hbody ?hdone (fun _ _ _ _ _ _ h=>h.elim)
 case hit=>
  intro W2 c7 nf;subst dc;exact R9 _ l _ _ _ _ W2 (bg.same c7) (c7.boxed b5 trivial) (fun c f _=>rfl) (fun b c f _ _=>rfl)
 case hSb=>
  subst dc;intro b o hb ho e;omega
 case hI=>
  rintro i A B2 ⟨h1,h3⟩ hk;exact⟨h1.Af hk (fun _ _=>⟨.inl oM,trivial⟩) (fun _ _ _ _=>⟨.inr rfl,trivial⟩),⟨hk.os.trans h3.os,hk.tape.trans h3.tape,hk.output.trans h3.output,Qj h3.size hk.size,fun k o fb cc=>hk.same k o (h3.same k o fb cc) ⟨.inl cc.1,trivial⟩⟩⟩
 case hE=>
  exact WU
 case hEs=>
  exact Fs
 case hAx=>
  exact GW
 case hassign=>
  rintro lp i v A K hi ⟨p,y⟩ cb hK;have hE2:=cb;obtain⟨h0,h1,fe,d6,rfl,r0,r1,o0,o1⟩:=cb;refine RO ?_;intro k0 hk0 g0 hg0;obtain⟨ka,kc,rfl⟩:=r0.Ab;obtain⟨ga,gc,rfl⟩:=r1.Ab;rw[hk0,hg0]at hK hE2|-;refine pN ?_;intro kn hkn gn hgn;rw[hkn,hgn]at hK hE2|-;clear r0 r1 o0 o1 hk0 hg0 hkn hgn h0 h1 bg;refine mH ?_;refine hK _ _ ((Ac.refl _ _).alloc _) ⟨p.same ((Ac.refl _ _).alloc _),y.alloc _⟩ ?_ ⟨A.heap.size,_,rfl,Qt A _,y.size,rfl⟩;exact O0
 case hbody=>
  rintro lp i v a' A mh ⟨rr,pb⟩ m9 ⟨p,y⟩ ⟨h0,h1,fe,d6,hv,r0,r1,o0,o1⟩ ⟨b3x,cs,rfl,hb3,j5,rfl⟩;have d7:(Xa l)[i]? =some (l[2*i],l[2*i+1]):=F5 l i h1;have fg:ps.take (i+1)=ps.take i++[((l[2*i]).hd.s,l[2*i+1])]:=by
   rw[<-gg,<-Fo,<-Fo,List.take_succ,d7,Hg];rfl
  have fd:(l[2*i]).hd.s∉(ps.take i).map Prod.fst:=by
   have e1:ps.map Prod.fst=(Xa l).map Rc:=by rw[<-gg,Ka];rfl
   rw[Fo,e1];intro hm;obtain⟨j,hj,e⟩:=kE.1 hm;have r4:((Xa l).map Rc)[i]? =some (l[2*i]).hd.s:=by rw[CV,d7];rfl
   have q5:j< ((Xa l).map Rc).length:=oM;have qf:((Xa l).map Rc)[j]? =some (l[2*i]).hd.s:=by rw[Km q5,e]
   have:=(List.getElem?_inj q5 hn).1 (qf.trans r4.symm);omega
  refine kR ?_;intro kt hkt gt hgt;rw[hkt,hgt]at fg;rw[hkt]at fd r0 o0 hv;rw[hgt]at r1 o1 hv;obtain⟨ka,kc,rfl⟩:=r0.Ab;obtain⟨ga,gc,rfl⟩:=r1.Ab;refine ON ?_;intro hcs;subst hcs;obtain⟨A5,b9,j3,a2,ph⟩:=p.update fd o1 r1;have cf:=y.same _ _ b4 ⟨oM,oM⟩;refine Qcm ?_;intro hra k0 k1 k2 k3 k4 k5 k6 k7 k8;obtain⟨g0,g1,g2,g3,g4,g5,g6,g7,g8⟩:=Z0 (LI hra);have m0:=Q4 cf;rw[<-fg]at j3;clear hv hkt hgt fg d7 fd hra hb3 bg r0 r1 o0 o1 p h1 h0;gi_wp2;refine⟨⟨a2.os,a2.tape,a2.output,a2.size,fun b o hb hs=>?_⟩,j3,y.trans (a2.mono fun b o _ h=>h.2)⟩;subst dc;by_cases e:b=w.heap.size+1+1+1
  ·exact ph.same b o hb (hs e)
  ·exact a2.same b o hb e
 case hdone=>
  rintro D w4 hD ⟨p,y⟩ _ hk ke;have kh:ps.take (l.length/2)=ps:=by
   refine Nd ?_;rw[<-gg,Vq,N0];exact Q6 _
  rw[kh]at p;have m7:=y.same _ _ b0 ⟨oM,oM⟩;have n7:=y.same _ _ b1 ⟨oM,oM⟩;have pd:=y.same _ _ b2 ⟨oM,oM⟩;have n9:=y.same _ _ b4 ⟨oM,oM⟩;have nh:Qd w w4:=Ho a5 y fun b o hb=>(Ku hb)
  obtain⟨x0,x1,x2,x3,x4,x5,x6,x7,x8⟩:=Qi n7;have y8:∀x,(w4.alloc x).cell? (ad (w.heap.size+1) 8)=some (.slice ba B.l.length bc):=fun x=>X9 x8 x
  gi_wp2_with(gi_at_call 69;refine(Qr (Yq _ _ _ _)).mono ?_;rintro e w' ⟨rfl,rfl⟩);generalize f7:World.alloc (World.alloc w4 _) (.cells #[.slice ba B.l.length bc] 25)=W5;have tf:W5.heap.size=w4.heap.size+2:=by rw[<-f7];simp
  have bd:Qd w4 W5:=by rw[<-f7];exact((Ac.refl _ w4).alloc _).alloc _
  have bo:W5.heap[w4.heap.size]? =some (.cells #[.slice none 0 0] 100 (0,0)):=by rw[<-f7];exact Qb (Qt w4 _)
  have b6:Boxed W5 (w4.heap.size+1) 25 (.slice ba B.l.length bc):=by rw[<-f7];exact Ql sM
  clear f7;have d3:=nh.trans bd;have e0:=bd.s m7;have e2:=bd.s pd;have e4:=bd.s n9;have kb:=bd.s ke;have t1:D<w4.heap.size:=Qg ke;have t4:W1.heap.size<=D:=hD;have j3:As (fun b=>S b/\b≠w.heap.size+1+1) W5 (w.heap.size+1+1+1) ((Xa l).map fun q=>(Rc q,q.2)):=by rw[gg];exact p.same bd
  have j4:Ad (fun b=>S b/\b≠w.heap.size+1+1) W5 B.l (.slice ba B.l.length bc):=(hr.mono (S':=(fun b=>S b/\b≠w.heap.size+1+1)) fun b hb h=>⟨h,oM⟩).same d3;have td:W1.heap.size<=w4.heap.size:=y.size;clear x0 x1 x2 x3 x4 x5 x6 x7 x8 y8 m7 n7 pd n9 ke p hk y bg b0 b1 b2 b3 b4 b5;obtain⟨Sc,a7⟩:∃Sc:Nat->Obj->Prop,Sc=fun b o=>(b=w.heap.size+1+1+1->o.isCells=true)/\(b=w4.heap.size->∀c f,o≠ .cells c 100 f)/\(W5.heap.size<=b->∀c f,o≠ .cells c Z5 f):=⟨_,rfl⟩
  refine Jt (gf:=122) (lb:=#[pt (w4.heap.size+1)])
   rfl (X3 func122 kM rfl) (B.l.length/2) (DB (fun b=>S b/\b≠w.heap.size+1+1) B.l) Sc (fun _ _=>True)
   (fun _=>True) (fun _ _=>True) ?hit ?hSb (fun _ _ _ _ _=>trivial)
   (fun i A=>∃lv2 acc has,A.heap[w4.heap.size]? =some (.cells #[lv2] 100 (0,0))/\Av (fun b=>S b/\b≠w.heap.size+1+1) A W5.heap.size lv2 acc/\As (fun b=>S b/\b≠w.heap.size+1+1) A (w.heap.size+1+1+1) (has.map fun q=>(Rc q,q.2))/\AF B.l (Xa l) i acc has/\Ac (fun b _=>b<W5.heap.size/\b≠w4.heap.size/\b≠w.heap.size+1+1+1) W5 A)
   (fun _ _ _=>False) ?hI (fun _ _ _ _ h _=>h) ?hE (fun _ _ _ _=>trivial) (fun _ _ _ _ _=>trivial) ?hEs ⟨_,[],Xa l,bo,Av.nil _ _ _,j3,AF.start hn,Ac.refl _ _⟩
   (fun i v a' A=>∃(bx:Nat) (cs:Array Q0),v=#[.agg cs]/\A.heap[bx]? =some (.cells cs Z5 (0,0))/\W5.heap.size<=bx/\a'={tmps:=#[.agg #[i6 id],Qu B.hd (.slice ba B.l.length bc),.slice la ln lc,pt w.heap.size,pt (w.heap.size+1),undef,pt (w.heap.size+1+1),pt (w.heap.size+1+1+1+1),undef,pt w4.heap.size,pt bx,undef,undef,undef,undef,undef,undef,undef,.map (some (w.heap.size+1+1+1)),.slice la ln lc,.func (.func 122) #[] #[pt (w.heap.size+1+1+1+1+1)],undef,undef,undef,undef,undef,undef,undef,.pointer (some (ad (w.heap.size+1) 8)),.slice ba B.l.length bc,.func (.func 122) #[] #[pt (w4.heap.size+1)],.agg cs,undef,undef,undef,undef,undef,undef,undef,undef,undef,undef,undef,undef,undef,undef,undef,undef,undef,undef,undef,undef,undef,undef,undef,undef,undef,undef,undef,undef,undef,undef,undef,undef,undef,undef,undef,undef,undef,undef,undef,undef,undef,undef,undef,undef,undef,undef],defers:=[]}) ?hAx ?hassign ?hbody ?hdone (fun _ _ _ _ _ _ h=>h.elim)
  case hE=>
   exact WU
  case hEs=>
   exact Fs
  case hSb=>
   subst a7;intro b o hb ho;refine⟨fun e=>oM,?_,?_⟩
   ·exact HW
   ·exact HW
  case hit=>
   intro W2 c7 nf;subst a7;exact R9 _ B.l _ _ _ _ W2 (j4.same c7) (c7.boxed b6 trivial) (fun c f=>⟨fun _=>rfl,fun h=>oM,fun h=>oM⟩) (fun b c f _=>⟨fun _=>rfl,fun _ c2 f2 e=>by injection e with _ e _;exact absurd e dM,fun _ c2 f2 e=>by injection e with _ e _;exact absurd e dM⟩)
  case hI=>
   rintro i A B2 ⟨lv2,acc,has,h1,h2,h3,h4,h5⟩ hk;exact⟨lv2,acc,has,hk.same _ _ h1 ⟨.inr rfl,trivial⟩,h2.Af hk (fun _ _ _ _=>⟨.inr rfl,trivial⟩) (fun _ _ _ _=>⟨.inr rfl,trivial⟩),h3.Af hk (fun _ _=>⟨.inl oM,trivial⟩) (fun _ _ _ _=>⟨.inr rfl,trivial⟩),h4,
    ⟨hk.os.trans h5.os,hk.tape.trans h5.tape,hk.output.trans h5.output,Qj h5.size hk.size,fun k o fb cc=>hk.same k o (h5.same k o fb cc) ⟨.inl cc.1,trivial⟩⟩⟩
  case hAx=>
   exact GW
  case hassign=>
   rintro lp i v A K hi ⟨lv2,acc,has,p,a8,y,ac,m⟩ cb hK;have hE2:=cb;obtain⟨h0,h1,fe,d6,rfl,r0,r1,o0,o1⟩:=cb;obtain⟨k0,hk0⟩:=X0 ((B.l[2*i]).hd);obtain⟨g0,hg0⟩:=X0 ((B.l[2*i+1]).hd);obtain⟨ka,kc,rfl⟩:=r0.Ab;obtain⟨ga,gc,rfl⟩:=r1.Ab;rw[hk0,hg0]at hK hE2|-;obtain⟨kn,hkn⟩:∃n,(B.l[2*i]).l.length=n:=⟨_,rfl⟩;obtain⟨gn,hgn⟩:∃n,(B.l[2*i+1]).l.length=n:=⟨_,rfl⟩;rw[hkn,hgn]at hK hE2|-;clear r0 r1 o0 o1 hk0 hg0 hkn hgn h0 h1 j4;refine mH ?_;refine hK _ _ ((Ac.refl _ _).alloc _) ⟨lv2,acc,has,Qb p,a8.same ((Ac.refl _ _).alloc _),y.same ((Ac.refl _ _).alloc _),ac,m.alloc _⟩ ?_ ⟨A.heap.size,_,rfl,Qt A _,m.size,rfl⟩;exact O0
  case hbody=>
   rintro lp i v a' A mh ⟨rr,pb⟩ m9 ⟨lv2,acc,has,p,a8,y,ac,m⟩ ⟨h0,h1,fe,d6,hv,r0,r1,o0,o1⟩ ⟨b3x,cs,rfl,hb3,j5,rfl⟩;have q0:(B.l[2*i]).depth<=1000000:=hdB _ (Zp _);have d5:=fun j hr hj hk=>ac.hit (j:=j) h1 hr hj hk
   have ag:=fun hr=>ac.miss h1 hr
   have rh:=ac.2.2;have rd:=ac.2.1;obtain⟨kt,hkt⟩:∃t,B.l[2*i]=t:=⟨_,rfl⟩;obtain⟨gh,m8⟩:∃t,(B.l[2*i+1]).hd=t:=⟨_,rfl⟩;rw[hkt]at r0 o0 hv q0 d5 ag;rw[m8]at hv;have nd:=Qc hkt;obtain⟨ka,kc,rfl⟩:=r0.Ab;have hcs:cs=(Qn kt.hd (.slice ka kt.l.length kc)++Qn gh d6).toArray:=by
    exact Qbw
   subst hcs;have mf:Qd w A:=Ho d3 m fun b o hb=>⟨Ku hb,Ku hb,Ku hb⟩
   have ab:=Mo _ kt (.slice ka kt.l.length kc) A (hG.same mf) o0 r0 q0;obtain⟨⟨rs,p7⟩,fa⟩:∃r,Xe kt=r:=⟨_,rfl⟩;have q6:=Qc fa;rw[fa]at ab d5 ag;simp only at ab d5 ag;obtain⟨kn,hkn⟩:∃n,kt.l.length=n:=⟨_,rfl⟩;rw[hkn]at ab hb3;have rc:=Qc hkn;have hra:A.rangeAt b3x 0 (Qn kt.hd (.slice ka kn kc)):=fun j v hj=>by
    exact Qbx
   obtain⟨k0,k1,k2,k3,k4,k5,k6,k7,k8⟩:=Z0 hra;have cf:=m.same _ _ e4 ⟨Ku e4,oM,oM⟩;have m0:=Q4 cf;clear hkn fa hv hkt m8 ac j4 o1 r1;gi_wp2_with fail;refine(Qr ab).mono ?_;rintro e A1 ⟨rfl,a5⟩;have q1:=a5.s p;have q2:=a8.same a5;have q3:=y.same a5;have n5:=a5.s hb3;have f5:=a5.s cf;have dd:=Qy a5 hra;have d1:Ac (fun b _=>b<W5.heap.size/\b≠w4.heap.size/\b≠w.heap.size+1+1+1) W5 A1:=m.trans (Ac.of_same a5);have kg:=r0.same a5;clear ab hra k0 k1 k2 k3 k4 k5 k6 k7 k8 m0 p a8 y hb3 cf m r0;obtain⟨k0,k1,k2,k3,k4,k5,k6,k7,k8⟩:=Z0 dd;have m1:=Q4 f5;have cg:(has.map fun q=>(Rc q,q.2)).map Prod.fst=has.map Rc:=by rw[Ka];rfl
   by_cases b8:rs∈(has.map fun q=>(Rc q,q.2)).map Prod.fst
   ·obtain⟨j,hj,r9,bf,f6,cd,ah⟩:=q3.lookup b8;obtain⟨xa,xc,rfl⟩:=ah.Ab;have me:j<has.length:=by rwa [Vq]at hj
    have p9:(has.map fun q=>(Rc q,q.2))[j]=(Rc has[j],has[j].2):=by rw[Of]
    rw[p9]at bf f6 cd ah;simp only at bf f6 cd ah;obtain⟨xt,j1⟩:∃x,has[j].2=x:=⟨_,rfl⟩;rw[j1]at bf cd ah;obtain⟨xn,g9⟩:∃n,xt.l.length=n:=⟨_,rfl⟩;rw[g9]at bf;clear p9;cases p7 with
    |false=>
     gi_wp2;exact⟨(Ac.of_same a5).alloc _,lv2,acc,has,Qb q1,q2.same ((Ac.refl _ _).alloc _),q3.same ((Ac.refl _ _).alloc _),ag (.inl trivial),d1.alloc _⟩
    |true=>
     have bb:=LW A1 (.cells (nR xt.hd (.slice xa xn xc)) 27);have ch:Qd A1 ((A1.alloc (.cells (nR xt.hd (.slice xa xn xc)) 27)).alloc (.cells #[i6 kt.hd.kind,.bool kt.hd.b,.bool kt.hd.d.neg,.string kt.hd.d.digits,i6 kt.hd.d.exp,.int .u64 (kt.hd.u:Int),i6 kt.hd.w,.string kt.hd.s,.slice ka kn kc,i6 xt.hd.kind,.bool xt.hd.b,.bool xt.hd.d.neg,.string xt.hd.d.digits,i6 xt.hd.d.exp,.int .u64 (xt.hd.u:Int),i6 xt.hd.w,.string xt.hd.s,.slice xa xn xc] Z5)):=((Ac.refl _ _).alloc _).alloc _;obtain⟨x0,x1,x2,x3,x4,x5,x6,x7,x8⟩:=Qi (Qt A1 (.cells (nR xt.hd (.slice xa xn xc)) 27));have c0:=Q4 (bb.s q1);obtain⟨y0,y1,y2,y3,y4,y5,y6,y7,y8⟩:=Z0 (Qy bb dd);obtain⟨v5,A5,b9,a0,a2⟩:=Ra (b:=A1.heap.size+1) (w:=((A1.alloc (.cells (nR xt.hd (.slice xa xn xc)) 27)).alloc (.cells #[i6 kt.hd.kind,.bool kt.hd.b,.bool kt.hd.d.neg,.string kt.hd.d.digits,i6 kt.hd.d.exp,.int .u64 (kt.hd.u:Int),i6 kt.hd.w,.string kt.hd.s,.slice ka kn kc,i6 xt.hd.kind,.bool xt.hd.b,.bool xt.hd.d.neg,.string xt.hd.d.digits,i6 xt.hd.d.exp,.int .u64 (xt.hd.u:Int),i6 xt.hd.w,.string xt.hd.s,.slice xa xn xc] Z5))) (lk:=.slice ka kn kc) (lx:=.slice xa xn xc) (f:=(0,0)) 100 kt xt (q2.same ch) (by have:=Qt (A1.alloc (.cells (nR xt.hd (.slice xa xn xc)) 27)) (.cells #[i6 kt.hd.kind,.bool kt.hd.b,.bool kt.hd.d.neg,.string kt.hd.d.digits,i6 kt.hd.d.exp,.int .u64 (kt.hd.u:Int),i6 kt.hd.w,.string kt.hd.s,.slice ka kn kc,i6 xt.hd.kind,.bool xt.hd.b,.bool xt.hd.d.neg,.string xt.hd.d.digits,i6 xt.hd.d.exp,.int .u64 (xt.hd.u:Int),i6 xt.hd.w,.string xt.hd.s,.slice xa xn xc] Z5);rw[show((A1.alloc (.cells (nR xt.hd (.slice xa xn xc)) 27))).heap.size=A1.heap.size+1 by simp]at this;exact this) o0 (by rw[rc.out]at kg;exact kg.same ch) cd (by rw[g9]at ah;exact ah.same ch) oM (by have:=d1.size;have:=ch.size;omega);have db:=q2.same bb;have d8:Ac (fun b o=>(∀c f,o≠ .cells c Z5 f)) A1 A5:=(Ac.of_same bb).trans (BO db a2 fun b c f h1 h2=>h2 c f rfl);have m5:Ac (fun b _=>b<W5.heap.size) A1 A5:=(Ac.of_same bb).trans (BO db a2 fun b c f h1 h2=>oM);have jf:Ac Sc A1 A5:=(Ac.of_same bb).trans (BO db a2 fun b c f h1 h2=>by subst a7;exact h2.2.2 h1 c f rfl);obtain⟨t9,t8,rfl⟩:=q2.Ab;obtain⟨c3,c6,rfl⟩:=a0.Ab;obtain⟨an,n1⟩:∃n,acc.length=n:=⟨_,rfl⟩;obtain⟨bn,ge⟩:∃n,(acc++[(kt,xt)]).length=n:=⟨_,rfl⟩;rw[n1,ge]at b9;rw[ge]at a0;rw[n1]at c0 q1;have jc:=d8.same _ _ f5 fun c f e=>by injection e with _ e _;exact absurd e dM
     have aa:=d8.same _ _ q1 fun c f e=>by injection e with _ e _;exact absurd e dM
     have qa:=Jd aa;have c5:=Q4 aa;have rg:w4.heap.size<A5.heap.size:=Qg aa;have p6:Ac (fun b o=>b≠w4.heap.size) A5 (A5.setCell (ad w4.heap.size 0) (.slice c3 bn c6)):=(Ac.refl _ A5).setCell _ fun o _ hs _=>hs rfl
     have de:Ac (fun b o=>∀c f,o≠ .cells c 100 f) A5 (A5.setCell (ad w4.heap.size 0) (.slice c3 bn c6)):=(Ac.refl _ A5).setCell _ fun o ho hs hb=>by
      have af:A5.heap[w4.heap.size]? =some o:=ho;rw[aa]at af;cases af;exact hs _ _ rfl
     have ma:=p6.same _ _ jc oM;have m6:=Q4 ma;have p4:As (fun b=>S b/\b≠w.heap.size+1+1) (A5.setCell (ad w4.heap.size 0) (.slice c3 bn c6)) (w.heap.size+1+1+1) (has.map fun q=>(Rc q,q.2)):=
      (q3.Af d8 (fun _ _ c f e=>by cases e) fun b _ c f c2 f2 e=>by injection e with _ e _;exact absurd e dM).Af de (fun _ _ c f e=>by cases e) fun b _ c f c2 f2 e=>by injection e with _ e _;exact absurd e dM
     obtain⟨j2,nc,A7,pf,j9,p0,d9,df⟩:=p4.delete (0:TypeId) b8;have m2:=(a0.Af de (fun b _ c f c2 f2 e=>by injection e with _ e _;exact absurd e dM) fun b _ c f c2 f2 e=>by injection e with _ e _;exact absurd e dM).Af df (fun _ _ _ _=>rfl) fun _ _ _ _=>rfl
     clear ah cd q1 q2 q3 p4 a0 dd n5 f5 jc kg;gi_wp2_with(first| (gi_at_builtin;refine Hv _ rfl _ _ 100 rfl _ _ rfl rfl _ _ b9 ?_)| (gi_at_builtin;refine Lz _ rfl _ _ _ _ rfl _ _ rfl rfl _ _ pf ?_));have q4:j2<has.length:=by rwa [Vq]at nc
     have ng:Rc has[j2]=rs:=by rw[Of]at j9;exact j9
     obtain rfl:j2=j:=by
      have h1:(has.map Rc)[j2]? =some rs:=by rw[CV,Km q4,<-ng];rfl
      have h2:(has.map Rc)[j]? =some rs:=by rw[CV,Km me,<-f6];rfl
      exact(List.getElem?_inj (by rw[Vq];exact q4) rd).1 (h1.trans h2.symm)
     rw[VA]at p0;have na:=d5 j2 trivial me (by rw[nd.out,q6.out];exact f6);rw[j1,nd.out]at na;have ca:Ac Sc A (A5.setCell (ad w4.heap.size 0) (.slice c3 bn c6)):=((Ac.of_same a5).trans jf).setCell _ fun o ho a1 _=>by
      subst a7;have af:A5.heap[w4.heap.size]? =some o:=ho;rw[aa]at af;cases af;exact a1.2.1 rfl _ _ rfl
     refine⟨⟨d9.os.trans ca.os,d9.tape.trans ca.tape,d9.output.trans ca.output,Qj ca.size d9.size,fun b o hb hs=>?_⟩,.slice c3 bn c6,acc++[(kt,xt)],has.eraseIdx j2,df.same _ _ (Qk aa 0 _) rfl,m2,p0,na,?_⟩
     ·have h6:=ca.same b o hb hs;by_cases e:b=w.heap.size+1+1+1
      ·exact df.same b o h6 (by subst a7;exact hs.1 e)
      ·exact d9.same b o h6 e
     ·exact((d1.trans (m5.mono fun b o _ h=>h.1)).setCell _ fun o _ a1 _=>a1.2.1 rfl).trans (d9.mono fun b o _ h=>h.2.2)
   ·have bf:=q3.AJ b8;rw[cg]at b8;cases p7<;>gi_wp2<;>exact⟨(Ac.of_same a5).alloc _,lv2,acc,has,Qb q1,q2.same ((Ac.refl _ _).alloc _),q3.same ((Ac.refl _ _).alloc _),ag (.inr b8),d1.alloc _⟩
  case hdone=>
   rintro D2 w6 r2 ⟨lv2,acc,has,p,a8,y,ac,m⟩ _ qb fc;have dg:=ac.end;have r3:=ac.2.2;clear ac;have pc:Qd w w6:=Ho d3 m fun b o hb=>⟨Ku hb,Ku hb,Ku hb⟩
   have t2:w4.heap.size<W5.heap.size:=oM;have d0:=m.same _ _ e0 ⟨oM,oM,oM⟩;have d2:=m.same _ _ e2 ⟨oM,oM,oM⟩;have d4:=m.same _ _ e4 ⟨oM,oM,oM⟩;have nb:=m.same _ _ kb ⟨Ku kb,oM,oM⟩;obtain⟨P,hP⟩:∃P:Aa × Aa->Bool,P=fun q=>(has.map Rc).contains (Rc q):=⟨_,rfl⟩
   have c1:Vg id B l=Zg id (.node (Qh 8) (Qq (acc++(Xa l).filter P))):=by
    unfold Vg;simp only;have h2:=fS (L:=B.l) hn;rw[dg]at h2;rw[dg,hP,h2]
   clear hr j4 qb e0 e2 e4 kb m b6 bo;gi_wp2_with(gi_at_call 69;refine(Qr (Yq _ _ _ _)).mono ?_;rintro e w' ⟨rfl,rfl⟩);generalize gb:World.alloc w6 (.cells #[.slice la ln lc] 25)=W7;have ta:W7.heap.size=w6.heap.size+1:=by rw[<-gb];simp
   have a6:Qd w6 W7:=by rw[<-gb];exact(Ac.refl _ w6).alloc _
   have b7:Boxed W7 w6.heap.size 25 (.slice la ln lc):=by rw[<-gb];exact Qt w6 _
   clear gb;rw[<-f9.out]at b7;have dh:=pc.trans a6;have f1:=a6.s p;have f2:=a8.same a6;have f3:=y.same a6;have f0:=a6.s d0;have fr:=a6.s d2;have f4:=a6.s d4;have fD:=a6.s nb;have j0:=a6.s fc;have qh:D2<w6.heap.size:=Qg fc;have rf:W5.heap.size<=D2:=r2;have bg:Ad (fun b=>S b/\b≠w.heap.size+1+1) W7 l (.slice la l.length lc):=(hl.mono (S':=(fun b=>S b/\b≠w.heap.size+1+1)) fun b hb h=>⟨h,oM⟩).same dh;have t3:W5.heap.size<=w6.heap.size:=oM;clear p a8 y d0 d2 d4 nb fc;refine Jt (gf:=122) (lb:=#[pt w6.heap.size])
    rfl (X3 func122 kM rfl) (l.length/2) (DB (fun b=>S b/\b≠w.heap.size+1+1) l) Sc (fun _ _=>True)
    (fun _=>True) (fun _ _=>True) ?hit ?hSb (fun _ _ _ _ _=>trivial)
    (fun i A=>∃lv2,A.heap[w4.heap.size]? =some (.cells #[lv2] 100 (0,0))/\Av (fun b=>S b/\b≠w.heap.size+1+1) A W5.heap.size lv2 (acc++((Xa l).take i).filter P)/\As (fun b=>S b/\b≠w.heap.size+1+1) A (w.heap.size+1+1+1) (has.map fun q=>(Rc q,q.2))/\Ac (fun b _=>b<W7.heap.size/\b≠w4.heap.size/\(b<W5.heap.size∨b=w6.heap.size∨b=D2)) W7 A)
    (fun _ _ _=>False) ?hI (fun _ _ _ _ h _=>h) ?hE (fun _ _ _ _=>trivial) (fun _ _ _ _ _=>trivial) ?hEs ⟨_,f1,by simpa using f2,f3,Ac.refl _ _⟩
    (fun i v a' A=>∃(bx:Nat) (cs:Array Q0),v=#[.agg cs]/\A.heap[bx]? =some (.cells cs Z5 (0,0))/\W7.heap.size<=bx/\a'={tmps:=#[.agg #[i6 id],Qu B.hd (.slice ba B.l.length bc),.slice la ln lc,pt w.heap.size,pt (w.heap.size+1),undef,pt (w.heap.size+1+1),pt (w.heap.size+1+1+1+1),undef,pt w4.heap.size,undef,undef,undef,undef,undef,pt bx,undef,undef,.map (some (w.heap.size+1+1+1)),.slice la ln lc,.func (.func 122) #[] #[pt (w.heap.size+1+1+1+1+1)],undef,undef,undef,undef,undef,undef,undef,.pointer (some (ad (w.heap.size+1) 8)),.slice ba B.l.length bc,.func (.func 122) #[] #[pt (w4.heap.size+1)],undef,undef,undef,undef,undef,undef,undef,undef,undef,undef,undef,undef,undef,undef,undef,undef,undef,undef,undef,undef,undef,undef,undef,undef,undef,undef,.slice la ln lc,.func (.func 122) #[] #[pt w6.heap.size],.agg cs,undef,undef,undef,undef,undef,undef,undef,undef,undef,undef,undef,undef,undef,undef,undef,undef,undef,undef],defers:=[]}) ?hAx ?hassign ?hbody ?hdone (fun _ _ _ _ _ _ h=>h.elim)
   case hE=>
    exact WU
   case hEs=>
    exact Fs
   case hSb=>
    subst a7;intro b o hb ho;refine⟨fun e=>oM,?_,?_⟩
    ·exact HW
    ·exact HW
   case hit=>
    intro W2 c7 nf;subst a7;exact R9 _ l _ _ _ _ W2 (bg.same c7) (c7.boxed b7 trivial) (fun c f=>⟨fun _=>rfl,fun h=>oM,fun h c2 f2 e=>by injection e with _ e _;exact absurd e dM⟩) (fun b c f _=>⟨fun _=>rfl,fun _ c2 f2 e=>by injection e with _ e _;exact absurd e dM,fun _ c2 f2 e=>by injection e with _ e _;exact absurd e dM⟩)
   case hI=>
    rintro i A B2 ⟨lv2,h1,h2,h3,h4⟩ hk;exact⟨lv2,hk.same _ _ h1 ⟨.inr rfl,trivial⟩,h2.Af hk (fun _ _ _ _=>⟨.inr rfl,trivial⟩) (fun _ _ _ _=>⟨.inr rfl,trivial⟩),h3.Af hk (fun _ _=>⟨.inl oM,trivial⟩) (fun _ _ _ _=>⟨.inr rfl,trivial⟩),
     ⟨hk.os.trans h4.os,hk.tape.trans h4.tape,hk.output.trans h4.output,Qj h4.size hk.size,fun k o fb cc=>hk.same k o (h4.same k o fb cc) ⟨.inl cc.1,trivial⟩⟩⟩
   case hAx=>
    exact GW
   case hassign=>
    rintro lp i v A K hi ⟨lv2,p,a8,y,m⟩ cb hK;have hE2:=cb;obtain⟨h0,h1,fe,d6,rfl,r0,r1,o0,o1⟩:=cb;refine RO ?_;intro k0 hk0 g0 hg0;obtain⟨ka,kc,rfl⟩:=r0.Ab;obtain⟨ga,gc,rfl⟩:=r1.Ab;rw[hk0,hg0]at hK hE2|-;refine pN ?_;intro kn hkn gn hgn;rw[hkn,hgn]at hK hE2|-;clear r0 r1 o0 o1 hk0 hg0 hkn hgn h0 h1 bg;refine mH ?_;refine hK _ _ ((Ac.refl _ _).alloc _) ⟨lv2,Qb p,a8.same ((Ac.refl _ _).alloc _),y.same ((Ac.refl _ _).alloc _),m.alloc _⟩ ?_ ⟨A.heap.size,_,rfl,Qt A _,m.size,rfl⟩;exact O0
   case hbody=>
    rintro lp i v a' A mh ⟨rr,pb⟩ m9 ⟨lv2,p,a8,y,m⟩ ⟨h0,h1,fe,d6,hv,r0,r1,o0,o1⟩ ⟨b3x,cs,rfl,hb3,j5,rfl⟩;have d7:(Xa l)[i]? =some (l[2*i],l[2*i+1]):=F5 l i h1;have ae:((Xa l).take (i+1)).filter P=((Xa l).take i).filter P++(if P (l[2*i],l[2*i+1])then[(l[2*i],l[2*i+1])]else[]):=by
     rw[List.take_succ,d7,List.filter_append];congr 1;show List.filter P [(l[2*i],l[2*i+1])]=_;rw[Wk,List.filter_nil]
    have r6:(((Xa l).take i).filter P).length<=2000:=by
     refine Qj (List.length_filter_le _ _) ?_;rw[Ji];omega
    have tb:acc.length<=2000:=oM;refine kR ?_;intro kt hkt gt hgt;rw[hkt,hgt]at ae;rw[hkt]at r0 o0 hv;rw[hgt]at r1 o1 hv;obtain⟨ka,kc,rfl⟩:=r0.Ab;obtain⟨ga,gc,rfl⟩:=r1.Ab;refine ON ?_;intro hcs;subst hcs;have cf:=m.same _ _ f4 ⟨Ku f4,oM,.inl oM⟩;refine Qcm ?_;intro hra k0 k1 k2 k3 k4 k5 k6 k7 k8;have m0:=Q4 cf;have cg:(has.map fun q=>(Rc q,q.2)).map Prod.fst=has.map Rc:=by rw[Ka];rfl
    clear hv hkt hgt d7 bg;by_cases b8:kt.hd.s∈(has.map fun q=>(Rc q,q.2)).map Prod.fst
    ·obtain⟨j,hj,r9,bf,f6,cd,ah⟩:=y.lookup b8;obtain⟨xa,xc,rfl⟩:=ah.Ab;obtain⟨xt,j1⟩:∃x,(has.map fun q=>(Rc q,q.2))[j].2=x:=⟨_,rfl⟩;rw[j1]at bf cd ah;obtain⟨xn,g9⟩:∃n,xt.l.length=n:=⟨_,rfl⟩;rw[g9]at bf;have qd:P (kt,gt)=true:=by rw[hP];exact(QF _ _).2 (by rw[<-cg];exact b8)
     rw[qd,Qe rfl]at ae;have a1:=LW A (.cells (nR xt.hd (.slice xa xn xc)) 27);have c0:=Q4 (a1.s p);have j7:=Qy a1 hra;gi_upto_region 17 with fail;generalize t5:(A.alloc (.cells (nR xt.hd (.slice xa xn xc)) 27))=A2 at a1 c0 j7|-;have t0:=a1.s hb3;refine zU ?_;refine Gi rfl Z5 _ rfl b3x 0 rfl _ _ j7 underlying99 rfl kM ?_;refine LZ rfl fun K2 hK2=>?_
     go_simp;refine hK2 _ _ ?_;clear hK2 K2;show wpListIn _ _ _ _ _ _ _ (A2.alloc (.cells (Qn kt.hd (.slice ka kt.l.length kc)++Qn gt.hd (.slice ga gt.l.length gc)).toArray Z5));have gd:Qd A (A2.alloc (.cells (Qn kt.hd (.slice ka kt.l.length kc)++Qn gt.hd (.slice ga gt.l.length gc)).toArray Z5)):=a1.alloc _;have fh:=a8.same a1;obtain⟨v5,A5,b9,a0,a2⟩:=Ra (b:=A2.heap.size) (lk:=.slice ka kt.l.length kc) (lx:=.slice ga gt.l.length gc) (f:=(0,0)) 100 kt gt (a8.same gd) (Qt A2 _) o0 (r0.same gd) o1 (r1.same gd) (by rw[Zv];omega) (by have:=m.size;have:=gd.size;omega);rw[Y1,<-ae]at a0;have d8:Ac (fun b o=>(∀c f,o≠ .cells c Z5 f)) A A5:=(Ac.of_same a1).trans (BO fh a2 fun b c f h1 h2=>h2 c f rfl);have m5:Ac (fun b _=>b<W5.heap.size∨b=w6.heap.size∨b=D2) A A5:=(Ac.of_same a1).trans ⟨a2.os,a2.tape,a2.output,Qj sM a2.size,fun b o hb re=>a2.same b o (Qb hb) fun e=>by
      obtain⟨h1,c,f,rfl⟩:=fh.blk hb e;rcases re with h|h|h
      ·omega
      ·subst h
       have:=a1.s (m.same _ _ b7 ⟨oM,oM,.inr (.inl rfl)⟩);rw[hb]at this;injection this with this;injection this with _ this _;exact absurd this dM
      ·subst h
       have:=a1.s (m.same _ _ j0 ⟨oM,oM,.inr (.inr rfl)⟩);rw[hb]at this;cases this⟩
     have jf:Ac Sc A A5:=(Ac.of_same a1).trans (BO fh a2 fun b c f h1 h2=>by subst a7;exact h2.2.2 h1 c f rfl);obtain⟨c3,c6,rfl⟩:=a0.Ab;obtain⟨bn,ge⟩:∃n,(acc++((Xa l).take (i+1)).filter P).length=n:=⟨_,rfl⟩;rw[ge]at b9 a0;have aa:=d8.same _ _ p fun c f e=>by injection e with _ e _;exact absurd e dM
     have qa:=Jd aa;have c5:=Q4 aa;have de:Ac (fun b o=>∀c f,o≠ .cells c 100 f) A5 (A5.setCell (ad w4.heap.size 0) (.slice c3 bn c6)):=(Ac.refl _ A5).setCell _ fun o ho hs _=>by
      have af:A5.heap[w4.heap.size]? =some o:=ho;rw[aa]at af;cases af;exact hs _ _ rfl
     refine Hv _ rfl _ _ 100 rfl _ _ rfl rfl _ _ b9 ?_;refine LZ rfl fun K2 hK2=>?_
     go_simp;refine hK2 _ _ ?_;clear hK2 K2;refine wpListIn_nil ?_;gi_wp2;refine⟨jf.setCell _ fun o ho a1 _=>?_,.slice c3 bn c6,Qk aa 0 _,a0.Af de (fun b _ c f c2 f2 e=>by injection e with _ e _;exact absurd e dM) (fun b _ c f c2 f2 e=>by injection e with _ e _;exact absurd e dM),?_,?_⟩
     ·subst a7;have af:A5.heap[w4.heap.size]? =some o:=ho;rw[aa]at af;cases af;exact a1.2.1 rfl _ _ rfl
     ·exact(y.Af d8 (fun _ _ c f e=>by cases e) fun b _ c f c2 f2 e=>by injection e with _ e _;exact absurd e dM).Af de (fun _ _ c f e=>by cases e) fun b _ c f c2 f2 e=>by injection e with _ e _;exact absurd e dM
     ·exact(m.trans (m5.mono fun b o _ h=>h.2.2)).setCell _ fun o _ a1 _=>a1.2.1 rfl
    ·have bf:=y.AJ b8;have ra:P (kt,gt)=false:=by rw[hP];exact Bool.eq_false_iff.2 fun e=>b8 (by rw[cg];exact(QF _ _).1 e)
     rw[ra,Qa dM,Hy]at ae;rw[<-ae]at a8;gi_wp2;exact⟨(Ac.refl _ _).alloc _,lv2,Qb p,a8.same ((Ac.refl _ _).alloc _),y.same ((Ac.refl _ _).alloc _),m.alloc _⟩
   case hdone=>
    rintro D3 w8 r7 ⟨lv2,ce,c8,q7,da⟩ _ hk jb;have q8:(Xa l).take (l.length/2)=Xa l:=Nd (by rw[N0];exact Q6 _);rw[q8]at c8;have c4:Qd w w8:=Ho dh da fun b o hb=>⟨Ku hb,Ku hb,.inl (Ku hb)⟩
    obtain⟨oa,oc,rfl⟩:=c8.Ab;obtain⟨fl,jg⟩:∃x,acc++(Xa l).filter P=x:=⟨_,rfl⟩;have ne:fl.length<=900:=by
     rw[<-jg,Zv]
     have:=List.length_filter_le P (Xa l);rw[N0]at this;omega
    rw[jg]at c8 c1 ce;obtain⟨pn,qc⟩:∃n,fl.length=n:=⟨_,rfl⟩;rw[qc]at c8 ce ne;rw[hR.out]at c1;have HL:=Qc c1;have g0:=da.same _ _ f0 ⟨Ku f0,oM,.inl oM⟩;have g6:=da.same _ _ fr ⟨Ku fr,oM,.inl oM⟩;have gD:=da.same _ _ fD ⟨Ku fD,oM,.inl oM⟩;have r8:=da.same _ _ j0 ⟨Ku j0,oM,.inr (.inr rfl)⟩;have qg:∀x∈Qq fl,x.depth<=1000000:=fun x hx=>by
     have n2:∀q∈Xa l,q.1.depth<=1000000/\q.2.depth<=1000000:=fun q hq=>⟨hdl _ (N1 l q hq).1,hdl _ (N1 l q hq).2⟩
     obtain⟨q,hq,hx⟩:=J6.1 hx;rw[<-jg]at hq;have db:q.1.depth<=1000000/\q.2.depth<=1000000:=by
      rcases Kn.1 hq with hq|hq
      ·have h1:=(ES B.l.length B.l (Xa l) (Q6 _)).1 q (by rw[dg];exact hq);obtain⟨z,hz,ez⟩:=h1.2;exact⟨hdB _ h1.1,by rw[<-ez];exact(n2 z hz).2⟩
      ·exact n2 q (Pz.1 hq).1
     rcases hx with rfl|rfl
     ·exact db.1
     ·exact db.2
    clear c1 bg hk da f0 f1 f2 f3 f4 fr fD j0 b7 q7;gi_wp2;have n0:=Q4 g0;have l0:=Q4 ce;refine KC (And.intro g0 ce) ?_;simp only[Vz];repeat refine sX ?_
    refine Vr ?_;intro K hK;refine(Qr (DO (fun b=>S b/\b≠w.heap.size+1+1) fl (.slice oa pn oc) W5.heap.size w8.drew (c8.same ((Ac.refl _ _).drew)) oM fun k hk=>⟨hS k (by have:=c4.size;exact Qj this hk),by have tg:w8.heap.size<=k:=hk;have:=Qg g6;omega⟩)).mono ?_;rintro e w9 ⟨v9,rfl,md,th⟩;obtain⟨a9,c9,rfl⟩:=md.Ab;have ff:Qd w8 w9:=Xd;refine hK _ _ ⟨ff.s g0,ff.s ce⟩ ?_;clear hK K;refine Vr ?_;intro K hK;refine(Qr (DM 8 _ _ _ w9)).mono ?_;rintro e rb ⟨rfl,j8⟩;have a3:=ff.trans j8;refine hK _ _ ⟨a3.s g0,a3.s ce⟩ ?_;clear hK K;refine Vr ?_;intro K hK;have m4:=DR (fun b=>S b/\b≠w.heap.size+1+1) id (.node (Qh 8) (Qq fl)) (.slice a9 (Qq fl).length c9) rb (hG.same (c4.trans a3)) (Qj hN (c4.trans a3).size) (K1 8 dM) (md.same j8) qg (fun k hk=>⟨hS k (Qj (c4.trans a3).size hk),by have:=Qg (a3.s g6);omega⟩) (by rw[Aa.Ag,Z6];omega);rw[<-HL.out]at m4;refine(Qr m4).mono ?_;rintro e t6 ⟨tc,rfl,ja,n3,p8⟩;obtain⟨n4,mb,rfl⟩:=ja.Ab;have a4:=a3.trans p8;refine hK _ _ ⟨a4.s g0,a4.s ce⟩ ?_;clear hK K m4;refine DA ?_;have k9:=a4.s g6;have t7:=Jd k9;have z0:=Qi k9;go_simp;have m3:=a4.s jb;have jh:=a4.s r8;have je:=a4.s gD;have kd:=c4.trans a4;obtain⟨h9,be⟩:=Yw k9 R.hd (.slice n4 R.l.length mb);generalize World.setCell (World.setCell _ _ _) _ (.slice n4 R.l.length mb)=w12 at h9 be|-;have r5:=Qg jb;have q9:W7.heap.size<=D3:=r7;have q3:=be.same _ _ m3 oM;have q2:=be.same _ _ jh oM;have q1:=be.same _ _ je oM;have kf:=Xt kd be oM;have p3:=(ja.Af be fun b hb _ _=>hb.2).mono (S':=S) fun b _ hb=>hb.1
    gi_wp2;refine⟨sM,.inl ⟨_,_,rfl,Vx (w:=w12) q3,?_⟩⟩;have pa:Ac (fun b _=>b≠D3) w12 (w12.putObj D3 (.deferred none)):=(Ac.refl _ w12).putObj _ fun o _ h _=>h rfl
    have p5:Ac (fun _ o=>o.isCells=true) w12 (w12.putObj D3 (.deferred none)):=(Ac.refl _ w12).putObj _ fun o ho hs _=>by
     rw[q3]at ho;cases ho;cases hs
    have mg:Qd w (w12.putObj D3 (.deferred none)):=kf.putObj _ fun o _ _ h=>by have:=dh.size;omega
    have p2:=pa.same _ _ q2 oM;have p1:=pa.same _ _ q1 oM;have pe:=p5.same _ _ h9 rfl;have j6:=p3.Af p5 fun _ _ _ _=>rfl
    generalize w12.putObj D3 (.deferred none)=w13 at mg p2 p1 pe j6|-;refine⟨sM,.inl ⟨_,_,rfl,Vx (w:=w13) p2,?_⟩⟩;have qe:Ac (fun b _=>b≠D2) w13 (w13.putObj D2 (.deferred none)):=(Ac.refl _ w13).putObj _ fun o _ h _=>h rfl
    have pg:Ac (fun _ o=>o.isCells=true) w13 (w13.putObj D2 (.deferred none)):=(Ac.refl _ w13).putObj _ fun o ho hs _=>by
     rw[p2]at ho;cases ho;cases hs
    have mc:Qd w (w13.putObj D2 (.deferred none)):=mg.putObj _ fun o _ _ h=>by have:=d3.size;omega
    have o1:=qe.same _ _ p1 oM;have n6:=pg.same _ _ pe rfl;have jd:=j6.Af pg fun _ _ _ _=>rfl
    generalize w13.putObj D2 (.deferred none)=w14 at mc o1 n6 jd|-;refine⟨sM,.inl ⟨_,_,rfl,Vx (w:=w14) o1,?_⟩⟩;have n8:Ac (fun _ o=>o.isCells=true) w14 (w14.putObj D (.deferred none)):=(Ac.refl _ w14).putObj _ fun o ho hs _=>by
     rw[o1]at ho;cases ho;cases hs
    refine⟨_,rcK rfl rfl (n8.same _ _ n6 rfl),_,rfl,jd.Af n8 fun _ _ _ _=>rfl,n3,mc.putObj _ fun o _ _ h=>by have:=a5.size;omega⟩
def Kr:Array MapEntry:=#[{key:=.int .u8 34,val:=.int .i32 34,born:=0},{key:=.int .u8 92,val:=.int .i32 92,born:=1},{key:=.int .u8 47,val:=.int .i32 47,born:=2},{key:=.int .u8 98,val:=.int .i32 8,born:=3},{key:=.int .u8 102,val:=.int .i32 12,born:=4},{key:=.int .u8 110,val:=.int .i32 10,born:=5},{key:=.int .u8 114,val:=.int .i32 13,born:=6},{key:=.int .u8 116,val:=.int .i32 9,born:=7}]
def vD(w:Qm):Calls prog 240 #[] w fun e w'=>∃b,e=.returned (.map (some b))/\w'.heap[b]? =some (.map Kr 8)/\Qd w w':=by
 go_in;go_wp2;refine YN ?_;intro X hX;have hs:Qd w X:=by rw[<-hX];exact Xd
 have hm:X.heap[w.heap.size]? =some (.map (Kr.extract 0 0) 0):=by rw[<-hX];exact Qt w _
 rw[hX];clear hX;go_wp2;rw[Qs (d:=.int .u8) (.int .u8 34) (.int .i32 34) underlying247 underlying5 rfl hm (by rfl)];generalize hX:World.putObj _ _ _=X;obtain⟨hs,hm⟩:=L6 (o':=.map (Kr.extract 0 1) 1) hX hs hm;clear hX;go_wp2;rw[Qs (d:=.int .u8) (.int .u8 92) (.int .i32 92) underlying247 underlying5 rfl hm (by rfl)];generalize hX:World.putObj _ _ _=X;obtain⟨hs,hm⟩:=L6 (o':=.map (Kr.extract 0 2) 2) hX hs hm;clear hX;go_wp2;rw[Qs (d:=.int .u8) (.int .u8 47) (.int .i32 47) underlying247 underlying5 rfl hm (by rfl)];generalize hX:World.putObj _ _ _=X;obtain⟨hs,hm⟩:=L6 (o':=.map (Kr.extract 0 3) 3) hX hs hm;clear hX;go_wp2;rw[Qs (d:=.int .u8) (.int .u8 98) (.int .i32 8) underlying247 underlying5 rfl hm (by rfl)];generalize hX:World.putObj _ _ _=X;obtain⟨hs,hm⟩:=L6 (o':=.map (Kr.extract 0 4) 4) hX hs hm;clear hX;go_wp2;rw[Qs (d:=.int .u8) (.int .u8 102) (.int .i32 12) underlying247 underlying5 rfl hm (by rfl)];generalize hX:World.putObj _ _ _=X;obtain⟨hs,hm⟩:=L6 (o':=.map (Kr.extract 0 5) 5) hX hs hm;clear hX;go_wp2;rw[Qs (d:=.int .u8) (.int .u8 110) (.int .i32 10) underlying247 underlying5 rfl hm (by rfl)];generalize hX:World.putObj _ _ _=X;obtain⟨hs,hm⟩:=L6 (o':=.map (Kr.extract 0 6) 6) hX hs hm;clear hX;go_wp2;rw[Qs (d:=.int .u8) (.int .u8 114) (.int .i32 13) underlying247 underlying5 rfl hm (by rfl)];generalize hX:World.putObj _ _ _=X;obtain⟨hs,hm⟩:=L6 (o':=.map (Kr.extract 0 7) 7) hX hs hm;clear hX;go_wp2;rw[Qs (d:=.int .u8) (.int .u8 116) (.int .i32 9) underlying247 underlying5 rfl hm (by rfl)];generalize hX:World.putObj _ _ _=X;replace hs:Qd w X:=by rw[<-hX];exact hs.putObj _ fun o _ _ h=>oM
 replace hm:X.heap[w.heap.size]? =some (.map (Kr.extract 0 8) 8):=by rw[<-hX];exact CI (Qg hm)
 exact YO
def CZ(r:Int):Nat × Bool:=if r=34 then(34,true)else if r=92 then(92,true)else if r=8 then(98,true)else if r=12 then(102,true)else if r=10 then(110,true)else if r=13 then(114,true)else if r=9 then(116,true)else(0,false)
def Ve:List (Nat × Int):=[(34,34),(92,92),(47,47),(98,8),(102,12),(110,10),(114,13),(116,9)]
def vE{e:MapEntry}(h:e∈Kr.toList):∃p∈Ve,e.key=.int .u8 (p.1:Int)/\e.val=.int .i32 p.2:=by
 simp only[Kr,Xg,CS,CT]at h;rcases h with rfl|rfl|rfl|rfl|rfl|rfl|rfl|rfl
 ·exact⟨(34,34),by simp[Ve],rfl,rfl⟩
 ·exact⟨(92,92),by simp[Ve],rfl,rfl⟩
 ·exact⟨(47,47),by simp[Ve],rfl,rfl⟩
 ·exact⟨(98,8),by simp[Ve],rfl,rfl⟩
 ·exact⟨(102,12),by simp[Ve],rfl,rfl⟩
 ·exact⟨(110,10),by simp[Ve],rfl,rfl⟩
 ·exact⟨(114,13),by simp[Ve],rfl,rfl⟩
 ·exact⟨(116,9),by simp[Ve],rfl,rfl⟩
def vF{p:Nat × Int}(h:p∈Ve):∃e∈Kr.toList,e.key=.int .u8 (p.1:Int)/\e.val=.int .i32 p.2:=by
 simp only[Ve,Xg,CS,CT]at h;rcases h with rfl|rfl|rfl|rfl|rfl|rfl|rfl|rfl
 ·exact⟨{key:=.int .u8 34,val:=.int .i32 34,born:=0},by simp[Kr],rfl,rfl⟩
 ·exact⟨{key:=.int .u8 92,val:=.int .i32 92,born:=1},by simp[Kr],rfl,rfl⟩
 ·exact⟨{key:=.int .u8 47,val:=.int .i32 47,born:=2},by simp[Kr],rfl,rfl⟩
 ·exact⟨{key:=.int .u8 98,val:=.int .i32 8,born:=3},by simp[Kr],rfl,rfl⟩
 ·exact⟨{key:=.int .u8 102,val:=.int .i32 12,born:=4},by simp[Kr],rfl,rfl⟩
 ·exact⟨{key:=.int .u8 110,val:=.int .i32 10,born:=5},by simp[Kr],rfl,rfl⟩
 ·exact⟨{key:=.int .u8 114,val:=.int .i32 13,born:=6},by simp[Kr],rfl,rfl⟩
 ·exact⟨{key:=.int .u8 116,val:=.int .i32 9,born:=7},by simp[Kr],rfl,rfl⟩
def Qco{p:Nat × Int}(h:p∈Ve)(h47:p.1≠47):CZ p.2=(p.1,true):=by
 simp only[Ve,Xg,CS,CT]at h;rcases h with rfl|rfl|rfl|rfl|rfl|rfl|rfl|rfl<;>first|rfl|exact absurd rfl h47
def vG{r:Int}(h:∀p∈Ve,p.2=r->p.1=47):CZ r=(0,false):=by
 have v:=h (34,34) (by simp[Ve]);have y:=h (92,92) (by simp[Ve]);have j:=h (98,8) (by simp[Ve]);have z:=h (102,12) (by simp[Ve]);have n:=h (110,10) (by simp[Ve]);have q:=h (114,13) (by simp[Ve]);have m:=h (116,9) (by simp[Ve]);simp only at v y j z n q m;unfold CZ;rw[Qa oM,Qa oM,Qa oM,Qa oM,Qa oM,Qa oM,Qa oM]
def Tp{α:Type}(s:Sem α):Prop:=∀W r W',s.run prog W=.ok r W'->W'.tape=W.tape
def Tp.pure{α:Type}(a:α):Tp (pure a:Sem α):=fun W r W' h=>by
 simp only[N4]at h;cases h;rfl
def Tp.bind{α β:Type}{x:Sem α}{f:α->Sem β}(hx:Tp x)(hf:∀a,Tp (f a)):Tp (x>>=f):=fun W r W' h=>by
 rw[Vv]at h;cases hr:x.run prog W with
 |ok a w1=>
  rw[hr]at h;exact(hf a w1 r W' h).trans (hx W a w1 hr)
 |halt e w1=>rw[hr]at h;cases h
def Tp.stuck{α:Type}(s:String):Tp (stuck s:Sem α):=fun W r W' h=>by
 simp[stuck,Sem.run]at h
def Tp.unsupported{α:Type}(s:Unsupported):Tp (unsupported s:Sem α):=fun W r W' h=>by
 simp[unsupported,Sem.run]at h
def Tp.choose(q:Question):Tp (choose q):=fun W r W' h=>by
 simp only[Go.choose,Sem.run]at h;split at h
 ·cases h;rfl
 ·cases h;rfl
def Tp.getObj(b:Nat):Tp (getObj b):=fun W r W' h=>by
 simp only[Go.getObj,Sem.run]at h;split at h<;>first| (cases h;rfl)|cases h
def Tp.setObj(b:Nat)(o:Obj):Tp (setObj b o):=fun W r W' h=>by
 simp only[Go.setObj,Sem.run]at h;split at h<;>first| (cases h;rfl)|cases h
def vH(it:Q0)(b:Bool)(ty:TypeId):Tp (Instr.next it b ty):=by
 unfold Instr.next;dsimp only;repeat' first
  |exact Tp.pure _
  |exact Tp.stuck _
  |exact Tp.unsupported _
  |exact Tp.getObj _
  |exact Tp.setObj _ _
  |exact Tp.choose _
  | (refine Tp.bind ?_ fun _=>?_)
  |split
def Qcp(r:Int)(w:Qm):Calls prog 160 #[.int .i32 r] w fun e w'=>e=.returned (.tuple #[.int .u8 ((CZ r).1:Int),.bool (CZ r).2])/\Qd w w':=by
 obtain⟨R,hR⟩:=X0 (CZ r);have v:∀p∈Ve,p.1≠47->p.2=r->R=(p.1,true):=fun p h a2 e=>by rw[<-hR,<-e];exact Qco h a2
 have u:(∀p∈Ve,p.2=r->p.1=47)->R=(0,false):=fun h=>by rw[<-hR];exact vG h
 rw[hR];clear hR;go_in;go_wp2_with(go_at_call 240;refine(vD _).mono ?_;rintro e m ⟨t,rfl,hb,b0⟩;have b2:=run_range_map (P:=prog) m 247 5 21 t Kr 8 underlying247 hb);have a6:(∀x∈Kr.toList,x.born<8)/\(Kr.toList.map (·.born)).Nodup:=by decide+kernel
 go_loopw [] (fun w'=>∃(w2:Qm) (seen:Array Nat),w2.Alike m/\w2.tape=m.tape/\w'=w2.alloc (.mapIter (some t) 8 seen 8)/\∀x∈Kr.toList,seen.contains x.born=true->∀p∈Ve,x.key=.int .u8 (p.1:Int)->x.val=.int .i32 p.2->p.2=r->p.1=47) (fun w'=>(leftOf Kr (w'.iterSeen m.heap.size)).size)
 case atStart=>exact⟨m,#[],⟨rfl,rfl,rfl⟩,rfl,rfl,fun x _ h=>by simp at h⟩
 case round=>
  obtain⟨w2,seen,n,a8,rfl,a9⟩:=hrel;have af:w2.heap.size=m.heap.size:=by rw[n.1]
  have ac:w2.heap[t]? =some (.map Kr 8):=by rw[n.1];exact hb
  have ad:=run_next_map (P:=prog) w2 0 t 8 8 seen Kr 8 ac a6.1 (Q6 _);rw[af]at ad;have a1:∀(w3:Qm) (o:Obj),w3.Alike m->w3.tape=m.tape->Qd w (w3.alloc o):=fun w3 o h1 h2=>b0.trans (Ac.alloc ⟨h1.2.1,h2,h1.2.2,by rw[h1.1];exact Q6 _,fun b o hb _=>by rw[h1.1];exact hb⟩ _)
  rcases ad with⟨h0,j⟩| ⟨e,he,w3,z,j⟩
  ·have ae:∀ty,(Instr.next (pt m.heap.size) false ty).run prog (w2.alloc (.mapIter (some t) 8 seen 8))=_:=fun _=>j
   have hf:R=(0,false):=u fun p hp e=>by
    obtain⟨x,hx,f,d⟩:=vF hp;exact a9 x hx (all_seen Kr seen h0 x hx) p hp f d e
   have HF:=Qc hf;clear hf u v;go_wp2;go_ret2;exact⟨by rw[HF.out];rfl,a1 _ _ n a8⟩
  ·obtain⟨p,hp,f,d⟩:=vE (mem_left he).1;rw[f,d]at j;have a5:=vH _ _ _ _ _ _ j;have a4:w3.tape=w2.tape:=a5;clear a5;have ae:∀ty,(Instr.next (pt m.heap.size) false ty).run prog (w2.alloc (.mapIter (some t) 8 seen 8))=_:=fun _=>j
   have a0:w3.heap.size=m.heap.size:=by rw[z.1,n.1]
   have ah:w3.heap[t]? =some (.map Kr 8):=by rw[z.1];exact ac
   have ag:=run_entry_map (P:=prog) w3 t 8 seen Kr 8 e ah (mem_left he).1 a6.2;rw[a0,f,d]at ag;have a3:w3.Alike m:=⟨z.1.trans n.1,z.2.1.trans n.2.1,z.2.2.trans n.2.2⟩;obtain⟨c,x⟩:=p;simp only at f d j ae ag;have k:(x=r->c=47)->(∃(w2_1:Qm) (seen_1:Array Nat),w2_1.Alike m/\w2_1.tape=m.tape/\w3.alloc (.mapIter (some t) 8 (seen.push e.born) 8)=w2_1.alloc (.mapIter (some t) 8 seen_1 8)/\∀x∈Kr.toList,seen_1.contains x.born=true->∀p∈Ve,x.key=.int .u8 (p.1:Int)->x.val=.int .i32 p.2->p.2=r->p.1=47)/\
     (leftOf Kr ((w3.alloc (.mapIter (some t) 8 (seen.push e.born) 8)).iterSeen m.heap.size)).size< (leftOf Kr ((w2.alloc (.mapIter (some t) 8 seen 8)).iterSeen m.heap.size)).size:=fun hc=>by
    refine⟨⟨w3,seen.push e.born,a3,a4.trans a8,rfl,fun y hy ab q hq hk hv aa=>?_⟩,?_⟩
    ·rw[contains_push]at ab;rcases Y2 _ _▸ab with h1|h1
     ·exact a9 y hy h1 q hq hk hv aa
     ·have:y=e:=born_inj a6.2 hy (mem_left he).1 (beq_iff_eq.1 h1);subst this;rw[f]at hk;rw[d]at hv;have e1:(c:Int)=(q.1:Int):=by injection hk
      have e2:x=q.2:=by injection hv
      have:=hc (e2.trans aa);omega
    ·rw[<-a0,World.iterSeen_alloc,a0,<-af,World.iterSeen_alloc];exact left_shrinks Kr seen e he
   clear u a9;by_cases a7:x=r
   ·by_cases a2:c=47
    ·have hg:=k fun _=>a2
     clear k v;go_wp2;exact hg
    ·have hf:=v (c,x) hp a2 a7;have HF:=Qc hf;have b1:((c:Int)==47)=false:=X6.2 oM;clear hf v k;go_wp2;go_ret2;exact⟨by rw[HF.out];rfl,a1 _ _ a3 (a4.trans a8)⟩
   ·have hg:=k fun e=>absurd e a7
    clear k v;have b3:(x==r)=false:=X6.2 a7;go_wp2;exact hg
def fW(s:Qo)(k:Nat):Utf8.decode s k=Lib.decodeL (s.data.toList.drop k):=by
 unfold Lib.decodeL;rw[Lib.decode_N,Lib.decode_N];simp[K9]
def Qcq{P:Prop}(h:P:=by
 simp only[Xg,CS,CT]at hx;rcases hx with rfl|rfl|rfl<;>omega):P:=h
def PW{r:Int}(h0:0<=r)(h1:r<=1114111):∀x∈Lib.encodeRuneZ r,0<=x/\x<256/\(128<=r->128<=x):=by
 intro x hx;unfold Lib.encodeRuneZ at hx;split at hx
 ·simp only[Zm]at hx;omega
 ·split at hx
  ·simp only[Xg,CS,CT]at hx;rcases hx with rfl|rfl<;>omega
  ·split at hx
   ·exact Qcq
   ·split at hx
    ·simp only[Xg,CS,CT]at hx;rcases hx with rfl|rfl|rfl|rfl<;>omega
    ·exact Qcq
def OQ(r:Int):Qv:=(Lib.encodeRuneZ r).map Int.toNat
def VB{r:Int}(h0:0<=r)(h1:r<=1114111):Lib.runeCells r=Xl (OQ r):=by
 unfold Lib.runeCells Xl OQ;rw[Ka];refine EW fun x hx=>?_
 have:=(PW h0 h1 x hx).1;show Value.int .u8 x=Value.int .u8 ((x.toNat:Nat):Int);rw[Int.toNat_of_nonneg this]
def vI{r:Int}(h0:0<=r)(h1:r<=1114111):(Lib.encodeRune r).map (·.toNat)=OQ r:=by
 unfold Lib.encodeRune OQ;rw[Ka];refine EW fun x hx=>?_
 have:=PW h0 h1 x hx;show(x.toNat.toUInt8).toNat=x.toNat;rw[Nat.toUInt8,CN,Ye oM]
def vJ(s:Qo)(k:Nat)(hk:k<s.size)(hv:Lib.validD (s.data.toList.drop k)=true):
  1<=(Utf8.decode s k).2/\k+(Utf8.decode s k).2<=s.size/\Lib.validD (s.data.toList.drop (k+(Utf8.decode s k).2))=true/\(Utf8.decode s k).1<=1114111/\
   ((Qf s).drop k).take (Utf8.decode s k).2=OQ ((Utf8.decode s k).1:Int):=by
 rw[fW]
 obtain⟨L,y⟩:=X0 (s.data.toList.drop k)
 have j:L.length=s.size-k:=by
  rw[<-y,CB];rfl
 have v:L≠[]:=by
  intro e;rw[e]at j;simp at j;omega
 rw[y]at hv|-
 rw[Lib.validD_step L v]at hv
 have q:¬((Lib.decodeL L).1=65533/\(Lib.decodeL L).2=1):=fun h=>by rw[Qe h]at hv;cases hv
 rw[Qa q]at hv
 have m:=Lib.decodeL_width L
 have u:=Lib.decodeL_le L v
 have z:=Lib.decodeL_rune L
 have n:=Lib.encode_decode L v q
 refine⟨m,oM,?_,z,?_⟩
 ·rw[<-List.drop_drop,y];exact hv
 ·rw[<-vI oM oM,n];unfold Qf;rw[<-List.map_drop,<-Fo,y]
def Qcr{l:Qv}(h:∀c∈l,128<=c):l.flatMap Vn=l:=by
 induction l with
 |nil=>rfl
 |cons c l ih=>
  rw[Ox,ih fun x hx=>h x (Kk _ hx)]
  have:=h c sM;unfold Vn;rw[Qa oM,Qa oM,Qa oM,Qa oM,Qa oM,Qa oM,Qa oM];rfl
def QL(r:Nat):Qv:=if(CZ r).2 then[92,(CZ r).1]else if r<32 then[92,117,48,48,Gy (r/16),Gy (r % 16)]else OQ r
def mP{r:Nat}(h1:r<=1114111):QL r=(OQ (r:Int)).flatMap Vn:=by
 by_cases h:r<128
 ·have e:OQ (r:Int)=[r]:=by
   unfold OQ;rw[Lib.encodeRuneZ_one oM oM];simp
  rw[e];show QL r=Vn r++[];rw[Hy];unfold QL CZ Vn;by_cases u:r=34
  ·subst u;rfl
  by_cases n:r=92
  ·subst n;rfl
  by_cases z:r=8
  ·subst z;rfl
  by_cases y:r=12
  ·subst y;rfl
  by_cases j:r=10
  ·subst j;rfl
  by_cases m:r=13
  ·subst m;rfl
  by_cases q:r=9
  ·subst q;rfl
  rw[Qa (show¬(r:Int)=34 by omega),Qa (show¬(r:Int)=92 by omega),Qa (show¬(r:Int)=8 by omega),Qa (show¬(r:Int)=12 by omega),Qa (show¬(r:Int)=10 by omega),Qa (show¬(r:Int)=13 by omega),Qa (show¬(r:Int)=9 by omega)];rw[Qa (show¬(r=34∨r=92) by omega),Qa z,Qa y,Qa j,Qa m,Qa q];simp only[I7,Nk,e]
 ·have b:CZ r=(0,false):=by
   unfold CZ;rw[Qa oM,Qa oM,Qa oM,Qa oM,Qa oM,Qa oM,Qa oM]
  unfold QL;rw[b,Qa (show¬(false=true) by decide),Qa (show¬r<32 by omega),Qcr];intro c v;unfold OQ at v;obtain⟨x,hx,rfl⟩:=Xq.1 v
  have:=PW (r:=(r:Int)) oM oM x hx
  have:=this.2.2 oM;omega
def XX(B b:Nat)(r:Int)(xs:Qv)(w:Qm)(h:EU B b xs w)(h0:0<=r)(h1:r<=1114111)(hlen:xs.length<=1000000000)(hBw:B<=w.heap.size):
  Calls prog 162 #[.pointer (some ⟨b,0,none⟩),.int .i32 r] w fun e w'=>(∃v,e=.returned v)/\EU B b (xs++OQ r) w'/\Ac (N2 B b) w w':=by
 have m:=K5 xs
 go_in
 go_wp2_with(go_at_call 163;refine(Er B b xs _ h).mono ?_)
 rintro e d ⟨rfl,h1,u⟩
 obtain⟨hB,v,z,q,f⟩:=h1
 have c0:d.cell? (ad b 0)=some (pt b):=by rw[Rd z];rfl
 have c1:d.cell? (ad b 1)=some v:=by rw[Rd z];rfl
 rw[m]at q
 obtain⟨t,k,rfl⟩:=Vt q
 have hz:=u.size
 have c:=utf8_AppendRune_plain B _ _ _ r oM oM d q oM oM
 go_wp2_with fail
 refine Calls.mono c ?_
 intro e w2 h
 obtain⟨v',he,j,o,y⟩:=h
 subst he
 have p:b<d.heap.size:=Qg z
 have hb2:w2.heap[b]? =some (.cells #[pt b,.slice t xs.length k] 118 (0,0)):=by
  rw[y.block b (by simp;omega) (fun e=>f e.symm)];exact Qb z
 have x:=j.1
 have n:(Lib.runeCells r).length=(OQ r).length:=by rw[VB h0 oM];simp[Xl]
 have d0:w2.cell? (ad b 0)=some (pt b):=by rw[Rd hb2];rfl
 have d1:w2.cell? (ad b 1)=some (.slice t xs.length k):=by rw[Rd hb2];rfl
 refine TT ?_
 intro f1
 obtain⟨ao,a0,rfl⟩:=Vt j
 replace n:=Qc n
 clear c
 go_wp2
 go_ret2
 refine⟨⟨_,rfl⟩,.inr ?_,?_⟩
 ·rw[CL,<-VB h0 oM];exact NJ (T:=118) (e:=5) hB hb2 (bs':=Xl xs++Lib.runeCells r) (by rw[Zv,m];exact j) dM
 ·exact Pk (u.alloc _) y (q.alloc _)
def Qcs:∀(v:Nat) (h:v< (⟨#[48,49,50,51,52,53,54,55,56,57,97,98,99,100,101,102]⟩:Qo).size),((⟨#[48,49,50,51,52,53,54,55,56,57,97,98,99,100,101,102]⟩:Qo)[v]).toNat=Gy v:=by
 have:∀v:Fin 16,((⟨#[48,49,50,51,52,53,54,55,56,57,97,98,99,100,101,102]⟩:Qo)[v.val]'v.isLt).toNat=Gy v.val:=dM;exact fun v h=>this ⟨v,h⟩
def XY(n:Nat)(w:Qm)(hn:n<32):
  Calls prog 161 #[.int .i32 (n:Int)] w fun e w'=>e=.returned (.string (Xh [48,48,Gy (n/16),Gy (n % 16)]))/\Qd w w':=by
 have a2:EU w.heap.size w.heap.size [] (w.alloc (.cells #[.pointer none,.slice none 0 0] 118)):=.inl ⟨Q6 _,.slice none 0 0,Qt _ _,Yz _ _ _ _,by simp[Value.ownBlock]⟩
 have e3:(n:Int)/4096=0:=oM
 have e2:(n:Int)/256=0:=oM
 have e1:(n:Int)/16=((n/16:Nat):Int):=oM
 have a6:(n:Int)/1=(n:Int):=oM
 have q0:bits .and .i32 0 15=0:=rfl
 have q1:bits .and .i32 ((n/16:Nat):Int) 15=((n/16:Nat):Int):=by
  have:∀m:Fin 2,bits .and .i32 ((m.val:Nat):Int) 15=((m.val:Nat):Int):=dM;exact this ⟨n/16,oM⟩
 have q2:bits .and .i32 (n:Int) 15=((n % 16:Nat):Int):=by
  have:∀m:Fin 32,bits .and .i32 ((m.val:Nat):Int) 15=((m.val % 16:Nat):Int):=by decide+kernel
  exact this ⟨n,hn⟩
 have b1:n/16<16:=oM
 have b2:n % 16<16:=oM
 obtain⟨m1,z⟩:∃m,n/16=m:=⟨_,rfl⟩
 obtain⟨m2,y⟩:∃m,n % 16=m:=⟨_,rfl⟩
 rw[z]at e1 q1 b1
 rw[y]at q2 b2
 replace z:=Qc z
 replace y:=Qc y
 have x0:=Qcs 0 dM
 have x1:=Qcs m1 b1
 have x2:=Qcs m2 b2
 go_in
 go_wp2
 refine Ik 5 ?_
 rw[Yg]
 go_wp2_with fail
 refine(Ks w.heap.size w.heap.size _ _ _ a2 sM sM).mono ?_
 rintro e W1 ⟨rfl,a3,c⟩
 have p:=c.size
 simp only[T5]at p
 go_wp2
 rw[Yg]
 go_wp2_with fail
 refine(Ks w.heap.size w.heap.size _ _ _ a3 sM oM).mono ?_
 rintro e W2 ⟨rfl,a1,d⟩
 have a4:=d.size
 go_wp2
 rw[Yg]
 go_wp2_with fail
 refine(Ks w.heap.size w.heap.size _ _ _ a1 sM oM).mono ?_
 rintro e W3 ⟨rfl,a0,u⟩
 have a7:=u.size
 go_wp2
 rw[Yg]
 go_wp2_with fail
 refine(Ks w.heap.size w.heap.size _ _ _ a0 sM oM).mono ?_
 rintro e W4 ⟨rfl,r,b⟩
 have a5:=b.size
 go_wp2
 rw[Yg]
 go_wp2_with fail
 refine(J4 _ _ _ W4 r ?_ oM).mono ?_
 ·intro x hx;simp only[Ri,Y0,Xg,CS,CT]at hx;have q:∀v,v<16->Gy v<256:=fun v hv=>by unfold Gy;split<;>omega
  rcases hx with rfl|rfl|rfl|rfl
  ·exact q 0 dM
  ·exact q 0 dM
  ·exact q _ b1
  ·exact q _ b2
 rintro e W5 ⟨rfl,j⟩
 have t:=((c.trans d).trans u).trans b
 have hS:Qd w W5:=⟨j.os.trans t.os,j.tape.trans t.tape,j.output.trans t.output,by have:=j.size;omega,fun k o f _=>j.same k o (t.same k o (Qb f) ⟨Ku f,.inl (Qg f)⟩) (.inl (Qg f))⟩
 go_wp2
 go_ret
 exact⟨by rw[z.out,y.out];rfl,hS⟩
def PX(s:Qo):Qo × Int:=if Gm s then(Xh (Gc s),0)else(⟨#[]⟩,20)
def QM{s:Qo}:∀x∈Gc s,x<256:=by
 intro x hx;unfold Gc at hx;rcases Xg.1 hx with rfl|hx
 ·decide
 rcases Kn.1 hx with hx|hx
 ·obtain⟨c,q,hx⟩:=Nm.1 hx;have y:=Yj s c q;rcases BH c with⟨_,_,_,e⟩| ⟨d,e,_,h⟩| ⟨m,e⟩
  ·rw[e,Zm]at hx;omega
  ·rw[e]at hx;simp only[Xg,CS,CT]at hx;omega
  ·rw[e]at hx;have j:∀v,v<16->Gy v<256:=fun v z=>by unfold Gy;split<;>omega
   simp only[Xg,CS,CT]at hx;rcases hx with rfl|rfl|rfl|rfl|rfl|rfl
   ·decide
   ·decide
   ·decide
   ·decide
   ·exact j _ oM
   ·exact j _ oM
 ·rw[Zm]at hx;omega
def mQ(c:Nat):(Vn c).length<=6:=by
 rcases BH c with⟨_,_,_,e⟩| ⟨d,e,_,h⟩| ⟨j,e⟩<;>rw[e]<;>simp
def MG(l:Qv):(l.flatMap Vn).length<=6*l.length:=by
 induction l with
 |nil=>simp
 |cons c l ih=>
  rw[Ox,Zv,Xf]
  have:=mQ c;omega
def Qct(W:Qm)(g c:Nat)(hc:c<256)(hg:W.heap[g]? =some (.cells #[.int .u8 (c:Int)] 5 (0,0))):
  (convert 116 9 (.slice (some ⟨g,0,none⟩) 1 1)).run prog W=.ok (.string (Xh [c])) W:=by
 have h:=T8 (P:=prog) W 116 9 5 (ad g 0) 1 [UInt8.ofNat c] underlying116 underlying5 underlying9 (fun j q=>by
  have:j=0:=by simpa using q
  subst this;rw[Ea];unfold World.cell?;rw[hg];simp;omega)
 exact h
def F6(l:Qv)(t:Qo)(h:Qf t=l)(x:Qv)(hx:∀y∈x,y<256):Qf (Xh x++t)=x++l:=by
 have e:Xh x++t=Xh (x++l):=by rw[<-Ym t,h,U2]
 rw[e,Yl];intro y j;rcases Kn.1 j with j|j
 ·exact hx y j
 ·rw[<-h]at j;exact Yj t y j
def vK{N:Nat}{E:Am}(s:Qo)(w:Qm)(hG:Ah N E w)(hs:s.size<=1000000):
  Calls prog 93 #[.string s] w fun e w'=>e=.returned (.tuple #[.string (PX s).1,.int .i64 (PX s).2])/\Qd w w':=by
 have b9:=fun W (hk:Qd w W)=>Fh s W (hG.same hk) oM
 obtain⟨u,hu⟩:=X0 (Gm s)
 have a4:PX s=if u then(Xh (Gc s),0)else(⟨#[]⟩,20):=by unfold PX;rw[hu]
 simp only[hu]at b9
 replace a4:=Qc a4
 cases u with
 |false=>
  go_in;go_wp2;refine IN ?_;go_wp2_with(go_at_call 158;refine(b9 _ Xd).mono ?_;rintro e w1 ⟨rfl,af⟩)
  (try simp only[Exit.noGoto]);go_ret2;exact⟨by rw[a4.out];rfl,Xd⟩
 |true=>
  have c8:Lib.validD s.data.toList=true:=hu;go_in;go_wp2;refine IN ?_;go_wp2_with(go_at_call 158;refine(b9 _ Xd).mono ?_;rintro e w1 ⟨rfl,af⟩);have cd:EU w1.heap.size w1.heap.size [] (w1.alloc (.cells #[.pointer none,.slice none 0 0] 118)):=.inl ⟨Q6 _,.slice none 0 0,Qt _ _,Yz _ _ _ _,by simp[Value.ownBlock]⟩;refine(Ks w1.heap.size w1.heap.size 34 _ _ cd sM sM).mono ?_;rintro e y ⟨rfl,c4,a7⟩;have bd:=a7.size;simp only[T5]at bd;go_wp2;refine wp_label ?_;go_wp2;have ch:Qd w (y.iter s 0)->True:=fun _=>trivial
  generalize hB:w1.heap.size=B at c4 a7 bd|-;have d0:w.heap.size<=B:=by rw[<-hB];exact(show Qd w w1 from Xd).size
  have a5:Ac (fun k _=>k<B) w1 y:=⟨a7.os,a7.tape,a7.output,oM,fun k o hk a1=>a7.same k o (Qb hk) ⟨oM,.inl a1⟩⟩;have bh:Qd w y:=⟨a5.os.trans af.os,a5.tape.trans af.tape,a5.output.trans af.output,oM,fun k o hk _=>a5.same k o (af.same k o hk trivial) (Ku hk)⟩;go_loopw [] (fun wr=>∃k:Nat,k<=s.size/\Lib.validD (s.data.toList.drop k)=true/\wr.heap[y.heap.size]? =some (.stringIter s k)/\EU B B (34::((Qf s).take k).flatMap Vn) wr/\Qd w wr/\y.heap.size<=wr.heap.size)
   (fun wr=>s.size-wr.iterPos y.heap.size)
  case atStart=>
   have ba:Qd y (y.iter s 0):=(Ac.refl _ y).alloc _;exact⟨0,Xi _,c8,World.iter_heap y s 0,V1 c4 ba (fun c f=>trivial) (fun g c f _ _=>trivial),bh.trans ba,ba.size⟩
  case round=>
   obtain⟨k,hk,hv,aa,hb,a2,cf⟩:=hrel;have ab:wr.iterPos y.heap.size=k:=by simp[World.iterPos,aa]
   replace ab:=Qc ab;by_cases a1:k<s.size
   ·obtain⟨cb,c3,bc,bg,b1⟩:=vJ s k a1 hv;obtain⟨W1,b2⟩:=X0 (wr.iterAt y.heap.size s (k+(Utf8.decode s k).2));have b7:=fun ty=>Lib.run_next_any_at (P:=prog) wr y.heap.size s k ty aa a1
    rw[b2]at b7;have b5:Ac (fun b _=>b≠y.heap.size) wr W1:=by rw[<-b2];exact OC wr _ s _
    have ag:W1.heap[y.heap.size]? =some (.stringIter s (k+(Utf8.decode s k).2)):=by rw[<-b2];exact Lib.iterAt_heap wr _ s k _ aa
    obtain⟨r,hr⟩:=X0 ((Utf8.decode s k).1);obtain⟨n,hn⟩:=X0 ((Utf8.decode s k).2);rw[hr]at bg b1 b7;rw[hn]at cb c3 bc b1 ag;have c0:=fun W=>Qcp (r:Int) W
    have hq:=mP bg;have ae:(Qf s).take (k+n)=(Qf s).take k++OQ (r:Int):=by rw[List.take_add,b1]
    have b6:34::((Qf s).take (k+n)).flatMap Vn=(34::((Qf s).take k).flatMap Vn)++QL r:=by
     rw[ae,cV,hq];rfl
    obtain⟨xs,a8⟩:=X0 (34::((Qf s).take k).flatMap Vn);have ca:xs.length<=6*k+1:=by
     rw[<-a8,Xf];have h1:=MG ((Qf s).take k);rw[Ji,Q9]at h1;omega
    rw[a8]at hb b6;have HV:=Qc bc;have HF:=Qc b6;have c5:EU B B xs W1:=V1 hb b5 (fun c f=>oM) (fun g c f hg he=>by
     rintro rfl;rw[aa]at he;cases he)
    have cc:Qd w W1:=Ho a2 b5 fun b o hb=>(Ku hb)
    clear hv bc b6 a8 ae hq hr hn b1 b2 b5 hb a2;have cg:y.heap.size<W1.heap.size:=Qg ag;have b4:∀(W3:Qm) (ys:Qv),EU B B (xs++ys) W3->QL r=ys->Ac (N2 B B) W1 W3->(∃k':Nat,k'<=s.size/\Lib.validD (s.data.toList.drop k')=true/\W3.heap[y.heap.size]? =some (.stringIter s k')/\EU B B (34::((Qf s).take k').flatMap Vn) W3/\Qd w W3/\y.heap.size<=W3.heap.size)/\s.size-W3.iterPos y.heap.size<s.size-wr.iterPos y.heap.size:=by
     intro W3 ys m hy j;have be:W3.heap[y.heap.size]? =some (.stringIter s (k+n)):=j.same _ _ ag ⟨oM,.inr sM⟩;refine⟨⟨k+n,c3,HV.out,be,by rw[HF.out,hy];exact m,(Ho cc j fun b o hb=>⟨Ku hb,.inl (Ku hb)⟩),by have:=j.size;omega⟩,?_⟩;have c6:W3.iterPos y.heap.size=k+n:=by simp[World.iterPos,be]
     rw[ab.out,c6];omega
    have ad:=Qc b4;have z:QL r=if(CZ r).2 then[92,(CZ r).1]else if r<32 then[92,117,48,48,Gy (r/16),Gy (r % 16)]else OQ r:=rfl;have ah:(CZ r).1<256:=by
     unfold CZ;repeat' split
     all_goals decide
    obtain⟨⟨c,t⟩,c1⟩:∃p,CZ r=p:=⟨_,rfl⟩;rw[c1]at c0 z ah;replace z:=Qc z;clear b4 c1;go_wp2_with fail;refine(c0 _).mono ?_;rintro e W2 ⟨rfl,a0⟩;have b8:=V1 c5 a0 (fun c f=>trivial) (fun g c f _ _=>trivial);have ce:=a0.size;cases t with
    |true=>
     have bf:=fun(W:Qm) (g:Nat) (hg:W.heap[g]? =some (.cells #[.int .u8 (c:Int)] 5 (0,0)))=>Qct W g c ah hg
     have a3:Qf ((⟨#[92]⟩:Qo)++Xh [c])=[92,c]:=by
      have h1:=F6 [c] (Xh [c]) (Yl _ (by intro x hx;rw[Zm]at hx;omega)) [92] (by intro x hx;rw[Zm]at hx;omega);exact h1
     have ac:((⟨#[92]⟩:Qo)++Xh [c]).size=2:=by rw[<-Q9,a3];rfl
     generalize hq:(⟨#[92]⟩:Qo)++Xh [c]=q at a3 ac;go_wp2_with fail;rw[bf _ _ (Qt _ _)];go_wp2_with fail;refine(Ke B B q xs _ (V1 b8 ((Ac.refl (fun _ _=>True) _).alloc _) (fun c f=>trivial) (fun g c f _ _=>trivial)) oM (by simp;omega)).mono ?_;rintro e W3 ⟨⟨rv,rfl⟩,m,j⟩;rw[a3]at m;have hg:=ad.out W3 [92,c] m (by rw[z.out];rfl) ((Ac.of_same (a0.alloc _)).trans j);clear bf;go_wp2;exact hg
    |false=>
     by_cases bb:r<32
     ·have c2:decide ((r:Int)<32)=true:=by simp;omega
      have a1:∀v,v<16->Gy v<256:=fun v hv=>by unfold Gy;split<;>omega
      have hh:∀x∈[48,48,Gy (r/16),Gy (r % 16)],x<256:=by
       intro x hx;simp only[Xg,CS,CT]at hx;have h1:=a1 (r/16) oM;have h2:=a1 (r % 16) oM;rcases hx with rfl|rfl|rfl|rfl
       ·decide
       ·decide
       ·exact h1
       ·exact h2
      have a3:Qf ((⟨#[92,117]⟩:Qo)++Xh [48,48,Gy (r/16),Gy (r % 16)])=[92,117,48,48,Gy (r/16),Gy (r % 16)]:=
       F6 [48,48,Gy (r/16),Gy (r % 16)] (Xh [48,48,Gy (r/16),Gy (r % 16)]) (Yl _ hh) [92,117] (by intro x hx;simp only[Xg,CS,CT]at hx;omega)
      have ac:((⟨#[92,117]⟩:Qo)++Xh [48,48,Gy (r/16),Gy (r % 16)]).size=6:=by rw[<-Q9,a3];rfl
      generalize hq:(⟨#[92,117]⟩:Qo)++Xh [48,48,Gy (r/16),Gy (r % 16)]=q at a3 ac;go_wp2_with(go_at_call 161;refine(XY r _ bb).mono ?_;rintro e W3 ⟨rfl,a9⟩);have m:=V1 b8 a9 (fun c f=>trivial) (fun g c f _ _=>trivial);have c9:=a9.size;refine(Ke B B q xs _ m oM oM).mono ?_;rintro e W4 ⟨⟨rv,rfl⟩,b0,d⟩;rw[a3]at b0;have hg:=ad.out W4 _ b0 (by rw[z.out,Qa dM,Qe bb]) ((Ac.of_same (a0.trans a9)).trans d);go_wp2;exact hg
     ·have c2:decide ((r:Int)<32)=false:=by simp;omega
      go_wp2_with fail;refine(XX B B r xs _ b8 oM oM oM oM).mono ?_;rintro e W4 ⟨⟨rv,rfl⟩,b0,d⟩;have hg:=ad.out W4 _ b0 (by rw[z.out,Qa dM,Qa bb]) ((Ac.of_same a0).trans d);go_wp2;exact hg
   ·obtain rfl:k=s.size:=oM;have b7:=fun ty=>Lib.run_next_end_at (P:=prog) wr y.heap.size s s.size ty aa (J0 _)
    have ae:(Qf s).take s.size=Qf s:=by rw[<-Q9,Vc]
    rw[ae]at hb;have c7:(Gc s).length<=6*s.size+2:=by
     unfold Gc;have h1:=MG (Qf s);rw[Q9]at h1;simp only[Xf,Zv,Vp];omega
    have a6:Gc s=(34::(Qf s).flatMap Vn)++[34]:=rfl;have b3:∀x∈Gc s,x<256:=QM;generalize hQ:Gc s=Q at c7 a6 b3;generalize a8:34::(Qf s).flatMap Vn=xs at hb a6;have ca:xs.length<=Q.length:=by rw[a6,Zv];omega
    replace hQ:=Qc hQ;replace a6:=Qc a6;clear hv ae a8;go_wp2_with fail;refine(Ks B B 34 xs _ hb oM oM).mono ?_;rintro e W3 ⟨rfl,m,j⟩;rw[<-a6.out]at m;have c9:=j.size;go_wp2_with fail;refine(J4 B B Q W3 m b3 oM).mono ?_;rintro e W4 ⟨rfl,d⟩;have hS:Qd w W4:=⟨d.os.trans (j.os.trans a2.os),d.tape.trans (j.tape.trans a2.tape),d.output.trans (j.output.trans a2.output),by have:=d.size;have:=a2.size;omega,fun b o hb _=>d.same b o (j.same b o (a2.same b o hb trivial) ⟨Ku hb,.inl (Ku hb)⟩) (.inl (Ku hb))⟩;go_wp2
    (try simp only[Exit.noGoto]);go_ret2;exact⟨by rw[a4.out,hQ.out];rfl,hS⟩
def Da(p:List Aj):Qo × Int:=if Xv p then(Xh (Z1 p),0)else(⟨#[]⟩,70)
def VC{s:Aj}(hs:X5 s=true)(hi:s.index<=9223372036854775807):(BZ s).length<=2402:=by
 unfold BZ;unfold X5 at hs;simp only[Y2,X1,Zz]at hs;split
 ·rename_i h;have j:=MG (Qf s.key);rw[Q9]at j;have q:s.key.size<=400:=by
   rcases hs with hs|hs
   ·omega
   ·exact hs.1.2
  unfold Gc;simp only[Xf,Zv,Vp];omega
 ·rename_i h;rw[Dk,Vq]
  have:=Lib.itoa_length_le s.index oM oM;have e:Lib.itoa s.index=Lib.decDigits s.index.toNat:=by unfold Lib.itoa;rw[Qa h]
  rw[e]at this;omega
def VD:∀{p:List Aj},(∀s∈p,X5 s=true/\s.index<=9223372036854775807)->(Z1 p).length<=2403*p.length
 | [],_=>by simp[Z1]
 |s::p,h=>by
  have h1:=VC (h s sM).1 (h s sM).2;have j:=VD (p:=p) fun x hx=>h x (Kk _ hx)
  have e:Z1 (s::p)=47::BZ s++Z1 p:=rfl;rw[e,Zv,Xf,Xf];omega
def Qcu(s:Aj):∀x∈BZ s,x<256:=by
 unfold BZ;split
 ·exact QM
 ·exact Yj _
def QN(p:List Aj):∀x∈Z1 p,x<256:=by
 intro x hx;unfold Z1 at hx;obtain⟨s,_,hx⟩:=Nm.1 hx;rcases Xg.1 hx with rfl|hx
 ·decide
 ·exact Qcu s x hx
def mS(p:List Aj)(k:Nat)(h:k<p.length):Z1 (p.take (k+1))=Z1 (p.take k)++47::BZ p[k]:=by
 unfold Z1;rw[Gl h,cV];simp
def HY(w:Qm)(k:Nat)(os:Array Obj):Qd w (Go.Sort.grow (w.drewN k) os):=
 ⟨rfl,rfl,rfl,by simp[Go.Sort.grow,World.drewN],fun b o j _=>by
  show(w.heap++os)[b]? =some o;rw[Qgz (Qg j)];exact j⟩
def OR{N:Nat}{E:Am}(S:Qz)(p:List Aj)(lv:Q0)(w:Qm)(hG:Ah N E w)(hp:At S w lv p)(hk:∀s∈p,s.key.size<=1000000/\ -9223372036854775808<=s.index/\s.index<=9223372036854775807)(hlen:p.length<=1000000):
  Calls prog 49 #[lv] w fun e w'=>e=.returned (.tuple #[.string (Da p).1,.int .i64 (Da p).2])/\Qd w w':=by
 obtain⟨a,c2,rfl,bg⟩:=hp.Ab
 have b1:=LG S p _ w hG hp (fun s hs=>by have:=hk s hs;omega) hlen
 obtain⟨u,hu⟩:=X0 (Xv p)
 have m:Da p=if u then(Xh (Z1 p),0)else(⟨#[]⟩,70):=by unfold Da;rw[hu]
 rw[hu]at b1
 replace m:=Qc m
 cases u with
 |false=>
  go_in;go_wp2_with(go_at_call 71;refine b1.mono ?_;rintro e d ⟨rfl,b3⟩);go_ret2;exact⟨by rw[m.out];rfl,Xd⟩
 |true=>
  have b4:p.length<=16/\∀s∈p,X5 s=true:=by
   unfold Xv at hu;rw[X1,Zz,Vf]at hu;exact hu
  clear hu;go_in;go_wp2_with(go_at_call 71;refine b1.mono ?_;rintro e d ⟨rfl,b3⟩);have bf:EU d.heap.size d.heap.size [] (d.alloc (.cells #[.pointer none,.slice none 0 0] 118)):=.inl ⟨Q6 _,.slice none 0 0,Qt _ _,Yz _ _ _ _,by simp[Value.ownBlock]⟩;go_loopw [13] (fun iv wr=>∃k:Nat,k<=p.length/\iv=i6 (k:Int)/\EU d.heap.size d.heap.size (Z1 (p.take k)) wr/\Qd d wr) (fun iv _=>p.length-(RowKit.intOf iv).toNat)
  case atStart=>exact⟨0,Xi _,rfl,bf,(Ac.refl _ _).alloc _⟩
  case round=>
   obtain⟨k,a6,rfl,hb,a7⟩:=hrel;have hz:=a7.size;by_cases r:k<p.length
   ·obtain⟨b,bb,rfl,c7,c5,bc⟩:=hp.get k r;have a1:=Qy a7 (Qy b3 bc);have j:=mS p k r;have af:=hk p[k] (Zp r);have b2:=b4.2 p[k] (Zp r);have b6:=VC b2 af.2.2;have b7:=VD (p:=p.take k) fun s hs=>⟨b4.2 s (LY hs),(hk s (LY hs)).2.2⟩
    rw[Ji]at b7;have a0:=fun W (hw:Qd w W)=>vK p[k].key W (hG.same hw) oM
    have bd:=fun W (hw:Qd w W)=>(hG.same hw).pow
    have ac:X5 p[k]=true->p[k].index<0->PX p[k].key=(Xh (Gc p[k].key),0):=fun h1 h2=>by
     unfold X5 at h1;simp only[Y2,X1,Zz]at h1;unfold PX;rw[Qe];rcases h1 with h1|h1
     ·omega
     ·exact h1.2
    have v:=ac b2;generalize hs:p[k]=s at a1 j af b6 a0 v;obtain⟨i,n⟩:=s;simp only at af a0 v;have aa:=fun W (hw:Qd w W)=>strconv_Itoa i oM oM W (bd W hw)
    have b5:=Lib.itoa_length_le i oM oM;obtain⟨c0,c1⟩:wr.cell? (ad b (bb+k*2))=some (i6 i)/\wr.cell? (ad b (bb+k*2+1))=some (.string n):=⟨a1 0 _ rfl,a1 1 _ rfl⟩;clear ac bc a1 hs b2;have b8:=V1 hb ((Ac.refl (fun _ _=>True) _).alloc (.cells #[i6 i,.string n] 62)) (fun c f=>trivial) (fun g c f _ _=>trivial);have ab:Qd w wr:=(show Qd w d from Xd).trans a7;generalize ae:Z1 (p.take k)=xs at b7 j b8;obtain⟨it,a4⟩:∃it:Qo,(⟨(Lib.itoa i).toArray⟩:Qo)=it:=⟨_,rfl⟩;rw[a4]at aa;have bh:it.size<=21:=by
     rw[<-a4];show(Lib.itoa i).toArray.size<=21;simpa using b5
    replace j:=Qc j;replace a4:=Qc a4;clear ae hb b5;go_wp2_with fail;refine(aa _ (ab.alloc _)).mono ?_;rintro e w2 ⟨rfl,kd,os,rfl⟩;have a6:Qd (wr.alloc (.cells #[i6 i,.string n] 62)) (Go.Sort.grow ((wr.alloc (.cells #[i6 i,.string n] 62)).drewN kd) os):=HY _ kd os;have ba:=a6.s (Qt wr (.cells #[i6 i,.string n] 62));have b0:=V1 b8 a6 (fun c f=>trivial) (fun g c f _ _=>trivial);have a9:Qd wr (Go.Sort.grow ((wr.alloc (.cells #[i6 i,.string n] 62)).drewN kd) os):=((Ac.refl _ wr).alloc _).trans a6;generalize(Go.Sort.grow ((wr.alloc (.cells #[i6 i,.string n] 62)).drewN kd) os)=w2 at ba b0 a9|-;have d0:=Ys ba;have c3:=a9.size;have z:∀(W3 W4:Qm) (t:Qo),Qf t=47::BZ ⟨i,n⟩->Qd w2 W3->EU d.heap.size d.heap.size (xs++Qf t) W4->Ac (N2 d.heap.size d.heap.size) W3 W4->EU d.heap.size d.heap.size (Z1 (p.take (k+1))) W4/\Qd d W4:=fun W3 W4 t ht h3 a3 h4=>by
     refine⟨by rw[j.out,<-ht];exact a3,?_⟩;have h5:=(a7.trans a9).trans h3;exact Ho h5 h4 fun b o hb=>⟨Ku hb,.inl (Qg hb)⟩
    replace z:=Qc z;clear a6;by_cases y:i<0
    ·have hd:decide (i<0)=true:=Kp y;have b9:=v y;have hw:BZ ⟨i,n⟩=Gc n:=Qe y;rw[b9]at a0;obtain⟨q,hq⟩:=X0 (Xh (Gc n));have a2:Qf q=Gc n:=by rw[<-hq,Yl _ QM]
     have c6:q.size<=2402:=by rw[<-Q9,a2,<-hw];exact b6
     rw[hq]at a0;have ht:Qf ((⟨#[47]⟩:Qo)++q)=47::BZ ⟨i,n⟩:=by rw[hw];exact F6 _ q a2 [47] (by intro x hx;rw[Zm]at hx;omega)
     have ag:((⟨#[47]⟩:Qo)++q).size=q.size+1:=by rw[Nw];show 1+q.size=_;omega
     have HT:=Qc ht;clear hq a2 hw ht v b9;go_wp2_with(go_at_call 93;refine(a0 _ (ab.trans a9)).mono ?_;rintro e W3 ⟨rfl,a5⟩);generalize ah:(⟨#[47]⟩:Qo)++q=t at ag HT|-;have be:=V1 b0 a5 (fun c f=>trivial) (fun g c f _ _=>trivial);have c4:=a5.size;refine(Ke _ _ t xs W3 be oM oM).mono ?_;rintro e W4 ⟨⟨rv,rfl⟩,a3,a8⟩;obtain⟨g1,g2⟩:=z.out W3 W4 t HT.out a5 a3 a8;clear z ah a0 aa;go_wp2;go_roundw
     case rel=>exact⟨k+1,oM,by go_num,g1,g2⟩
     case measure=>simp[RowKit.intOf];omega
    ·have hd:decide (i<0)=false:=Z4 y;have hw:BZ ⟨i,n⟩=Qf (Xw i.toNat):=Qa y;have hid:it=Xw i.toNat:=by
      rw[<-a4.out];unfold Lib.itoa Xw;rw[Qa y]
     have a2:Qf it=BZ ⟨i,n⟩:=by rw[hw,hid]
     have ht:Qf ((⟨#[47]⟩:Qo)++it)=47::BZ ⟨i,n⟩:=F6 _ it a2 [47] (by intro x hx;rw[Zm]at hx;omega);have ag:((⟨#[47]⟩:Qo)++it).size=it.size+1:=by rw[Nw];show 1+it.size=_;omega
     replace ht:=Qc ht;clear hw hid a2 v;go_wp2_with fail;generalize ah:(⟨#[47]⟩:Qo)++it=t at ag ht|-;refine(Ke _ _ t xs w2 b0 oM oM).mono ?_;rintro e W4 ⟨⟨rv,rfl⟩,a3,a8⟩;obtain⟨g1,g2⟩:=z.out w2 W4 t ht.out (Ac.refl _ _) a3 a8;clear z ah a0 aa;go_wp2;go_roundw
     case rel=>exact⟨k+1,oM,by go_num,g1,g2⟩
     case measure=>simp[RowKit.intOf];omega
   ·obtain rfl:k=p.length:=oM;rw[Vc]at hb;have r:=QN p;generalize ae:Z1 p=xs at hb r m;clear ae;go_wp2_with fail;refine(J4 _ _ xs wr hb r hz).mono ?_;rintro e W4 ⟨rfl,a8⟩;have ab:Qd w wr:=(show Qd w d from Xd).trans a7;have hS:Qd w W4:=Ho ab a8 fun b o hb=>(.inl (by have:=Qg hb;have:=b3.size;omega))
    go_wp2;go_ret2;exact⟨by rw[m.out];rfl,hS⟩
abbrev PY:TypeId:=46
def Qcv:(prog.info? PY).map (fun i=>(i.zero,i.size,i.bytes))=some (some (.slice none 0 0),1,24):=by kernel_rfl
def Al(S:Qz)(w:Qm):List (List Aj)->Kb->Prop
 | [],xs=>xs=[]
 |p::ps,xs=>∃x rest,xs=x::rest/\At S w x p/\Al S w ps rest
def Al.length{S:Qz}{w:Qm}:∀{ps:List (List Aj)} {xs:Kb},Al S w ps xs->xs.length=ps.length
 | [],xs,h=>by rw[Al]at h;subst h;rfl
 |p::ps,xs,h=>by
  rw[Al]at h;obtain⟨x,rest,rfl,_,h⟩:=h;rw[Xf,Xf,h.length]
def Al.Af{S:Qz}{K:Nat->Obj->Prop}{w w':Qm}(hk:Ac K w w')(hK:∀b,S b->∀c f,K b (.cells c PM f)):∀{ps:List (List Aj)} {xs:Kb},Al S w ps xs->Al S w' ps xs
 | [],xs,h=>by rw[Al]at h|-;exact h
 |p::ps,xs,h=>by
  rw[Al]at h|-;obtain⟨x,rest,e,h1,h2⟩:=h;exact⟨x,rest,e,Aw.Af h1 hk hK,Al.Af hk hK h2⟩
def Al.same{S:Qz}{w w':Qm}{ps:List (List Aj)}{xs:Kb}(h:Al S w ps xs)(hk:Qd w w'):Al S w' ps xs:=Al.Af hk (fun _ _ _ _=>trivial) h
def Al.append{S:Qz}{w:Qm}:∀{ps qs:List (List Aj)} {xs ys:Kb},Al S w ps xs->Al S w qs ys->Al S w (ps++qs) (xs++ys)
 | [],qs,xs,ys,h1,h2=>by rw[Al]at h1;subst h1;exact h2
 |p::ps,qs,xs,ys,h1,h2=>by
  rw[Al]at h1;obtain⟨x,rest,rfl,h3,h4⟩:=h1;rw[Y0,Al];exact⟨x,rest++ys,rfl,h3,Al.append h4 h2⟩
def Al.get{S:Qz}{w:Qm}:∀{ps:List (List Aj)} {xs:Kb},Al S w ps xs->∀i (hi:i<ps.length),∃x,xs[i]? =some x/\At S w x ps[i]
 |p::ps,xs,h,i,hi=>by
  rw[Al]at h;obtain⟨x,rest,rfl,h1,h2⟩:=h;cases i with
  |zero=>exact⟨x,rfl,h1⟩
  |succ i=>exact h2.get i (by simpa using hi)
def Al.one{S:Qz}{w:Qm}{ps:List (List Aj)}{xs:Kb}(h:Al S w ps xs):∀u∈xs,u.oneCell'=true:=fun u v=>by
 obtain⟨i,j,rfl⟩:=GF.1 v;obtain⟨x,hx,q⟩:=h.get i (by rw[<-h.length];exact j);rw[Km j]at hx;cases hx;obtain⟨a,c,e,_⟩:=q.Ab;rw[e];rfl
def AW(S:Qz)(w:Qm)(B:Nat)(v:Q0)(ps:List (List Aj)):Prop:=∃xs,w.ownsRow B PY 1 v ps.length xs/\Al S w ps xs
def AW.Ab{S:Qz}{w:Qm}{B:Nat}{v:Q0}{ps:List (List Aj)}(h:AW S w B v ps):∃a cap,v=.slice a ps.length cap:=by
 obtain⟨j,h,_⟩:=h;exact NM
def AW.Af{S:Qz}{K:Nat->Obj->Prop}{w w':Qm}{B:Nat}{v:Q0}{ps:List (List Aj)}(h:AW S w B v ps)(hk:Ac K w w')(hS:∀b,S b->∀c f,K b (.cells c PM f))(hE:∀b,B<=b->∀c f,K b (.cells c PY f)):AW S w' B v ps:=by
 exact Qbe
def AW.same{S:Qz}{w w':Qm}{B:Nat}{v:Q0}{ps:List (List Aj)}(h:AW S w B v ps)(hk:Qd w w'):AW S w' B v ps:=h.Af hk (fun _ _ _ _=>trivial) fun _ _ _ _=>trivial
def Qcw{P:Prop}(h:P:=by
 obtain⟨xs,h,_⟩:=h;rcases h.2 with⟨rfl,_⟩| ⟨g,cap,cur,rfl,hg,hgg,_⟩
 ·cases hv
 ·simp only[Value.ownBlock,Fp]at hv;subst hv;exact⟨hg,_,_,hgg⟩):P:=h
def AW.AC{S:Qz}{w:Qm}{B:Nat}{v:Q0}{ps:List (List Aj)}(h:AW S w B v ps){b:Nat}(hv:v.ownBlock=some b):B<=b/\∃c f,w.heap[b]? =some (.cells c PY f):=by
 exact Qcw
def AG(S:Qz)(w:Qm)(v:Q0)(ps:List (List Aj)):Prop:=∃xs,Aw PY 1 S w v ps.length xs/\Al S w ps xs
def AW.read{S:Qz}{w:Qm}{B:Nat}{v:Q0}{ps:List (List Aj)}(h:AW S w B v ps)(hS:∀b,B<=b->S b)(hn:ps.length<=17179869184):AG S w v ps:=by
 obtain⟨j,h,y⟩:=h;exact⟨j,Aw.AU h (fun b q _=>hS b q) hn,y⟩
def AG.same{S:Qz}{w w':Qm}{v:Q0}{ps:List (List Aj)}(h:AG S w v ps)(hk:Qd w w'):AG S w' v ps:=by
 obtain⟨q,j,y⟩:=h;exact⟨q,j.same hk,y.same hk⟩
def AG.Ab{S:Qz}{w:Qm}{v:Q0}{ps:List (List Aj)}(h:AG S w v ps):∃a cap,v=.slice a ps.length cap:=by
 obtain⟨q,j,_⟩:=h;obtain⟨a,c,e,_⟩:=j.Ab;exact⟨a,c,e⟩
def PZ{S:Qz}{w:Qm}{B:Nat}{v u:Q0}{ps qs:List (List Aj)}(ty:TypeId)(hown:AW S w B v ps)(hu:AG S w u qs)(hlen:ps.length+qs.length<=17179869184)(hB:B<=w.heap.size):
  ∃v' w',(Builtin.append_ #[44,44] ty #[v,u]).run prog w=.ok v' w'/\AW S w' B v' (ps++qs)/\Ac (fun b _=>v.ownBlock≠some b) w w':=by
 obtain⟨m,hrow,hr⟩:=hown
 obtain⟨i,k,n⟩:=Hi.1 Qcv
 simp only[LO]at n
 obtain⟨x,⟨t,a0,⟨rfl,h0⟩| ⟨b,d,cap,cur,f,rfl,hc,r,hb,q⟩⟩,z⟩:=hu
 ·have:qs=[]:=CW.1 h0;subst this;exact⟨v,w,run_append_owned_none w B 44 ty PY i 1 underlying44 k v _ m hrow,by rw[Hy];exact⟨m,hrow,hr⟩,Ac.refl _ _⟩
 ·obtain⟨v',w',y,h2,h3,_⟩:=OV (P:=prog) w B 44 ty PY i _ 1 24 underlying44 k n.1 n.2.1 n.2.2 rfl dM v ps.length m hrow (ad b d) qs.length cap x t (fun j u hj=>by rw[Ea,Vj _ _ _ _ _ _ hb];exact q j u hj) z.one (by unfold maxLen;omega) oM hB;refine GG ?_;intro hKe;have p:Ac (fun _ o=>∃c f,o=.cells c PM f) w w':=hKe.mono fun b o hb hs e=>by
   exact lO
  refine⟨v',w',y,⟨m++x,?_,(hr.Af p fun _ _ c f=>⟨c,f,rfl⟩).append (z.Af p fun _ _ c f=>⟨c,f,rfl⟩)⟩,hKe⟩;rw[Zv];exact h2
def qU{S:Qz}{w:Qm}{b:Nat}{x:Q0}{p:List Aj}(hb:w.heap[b]? =some (.cells #[x] PY (0,0)))(hp:At S w x p):AW S w b (.slice (some ⟨b,0,none⟩) 1 1) [p]:=by
 refine⟨[x],⟨rfl,.inr ⟨b,1,#[x],rfl,Q6 _,hb,Q6 _,by unfold maxLen;omega,rfl,rfl⟩⟩,?_⟩;rw[Al];exact⟨x,[],rfl,hp,by rw[Al]⟩
def G2(f:Nat->Nat)(l:List (Aj × Nat)):Nat:=l.foldr (fun x n=>f x.2+n) 0
def OS(f:Nat->Nat)(l m:List (Aj × Nat)):G2 f (l++m)=G2 f l+G2 f m:=by
 induction l with
 |nil=>simp[G2]
 |cons x l ih=>
  show f x.2+G2 f (l++m)=f x.2+G2 f l+G2 f m;rw[ih];omega
def F7(l:Qp)(k:Nat)(h:k<l.length):Q7 (l.take (k+1))=Q7 (l.take k)+(Xp l k).count:=by
 rw[Gl h,J7 h];have:∀a b:Qp,Q7 (a++b)=Q7 a+Q7 b:=by
  intro a b;induction a with
  |nil=>simp[Q7]
  |cons x a ih=>rw[Y0,Q7,Q7,ih];omega
 rw[this,Q7,Q7];omega
def Td(l:Qp){a b:Nat}(h:a<=b):Q7 (l.take a)<=Q7 (l.take b):=by
 induction b with
 |zero=>
  have j:a=0:=oM;subst j;exact Q6 _
 |succ b ih=>
  by_cases e:a=b+1
  ·subst e;exact Q6 _
  ·by_cases q:b<l.length
   ·rw[F7 l b q]
    have:=ih oM;omega
   ·rw[Nd (by omega:l.length<=b+1)]
    have:=ih oM;rwa [Nd (by omega:l.length<=b)]at this
def Sa(t:Aa):∀k,k<=t.l.length->G2 (fun i=>(Xp t.l i).count) (Qx t k)<=Q7 (t.l.take (if t.hd.kind=8 then k+k % 2 else k))
 |0,_=>by simp[Qx,G2]
 |k+1,hk=>by
  have ih:=Sa t k oM;have j:∀s,s=Qx t k->G2 (fun i=>(Xp t.l i).count) s<=Q7 (t.l.take (if t.hd.kind=8 then(k+1)+(k+1) % 2 else k+1)):=fun s e=>by
   subst e;refine Qj ih (Td _ ?_);split<;>omega
  cases hc:Yc t k with
  |none=>exact j _ (Vm hc)
  |some x=>
   by_cases hx:x.1∈(Qx t k).map Prod.fst
   ·exact j _ (Gt hc hx)
   ·rw[Jp hc hx,OS];have v:G2 (fun i=>(Xp t.l i).count) [x]=(Xp t.l x.2).count:=by simp[G2]
    rw[v];unfold Yc at hc;split at hc
    ·rename_i q;cases hc;rw[Qe q.1]at ih|-;rw[show k+1+(k+1) % 2=k+1+1 by omega,F7 t.l (k+1) q.2.2.1]
     have:=Td t.l (show k+k % 2<=k+1 by omega);show _+(Xp t.l (k+1)).count<=_;omega
    ·split at hc
     ·rename_i y;cases hc;rw[Qa oM]at ih|-;rw[F7 t.l k oM];show _+(Xp t.l k).count<=_;omega
     ·cases hc
def CG:∀(d:Nat) (t:Aa) (p:List Aj),(V6 d t p).length<=t.count
 |0,t,p=>by
  rw[V6];obtain⟨h,l⟩:=t;rw[Aa.count];simp
 |d+1,t,p=>by
  rw[V6,Xf];have y:∀l:List (Aj × Nat),((l.filter fun x=>X5 x.1).flatMap fun x=>V6 d (Xp t.l x.2) (p++[x.1])).length<=G2 (fun i=>(Xp t.l i).count) l:=by
   intro l;induction l with
   |nil=>simp[G2]
   |cons x l ih=>
    have e:G2 (fun i=>(Xp t.l i).count) (x::l)=(Xp t.l x.2).count+G2 (fun i=>(Xp t.l i).count) l:=rfl;rw[e,Wk];split
    ·rw[Ox,Zv]
     have:=CG d (Xp t.l x.2) (p++[x.1]);omega
    ·omega
  have q:=y (Ht t);have v:=Sa t t.l.length (Q6 _);have j:Q7 (t.l.take (if t.hd.kind=8 then t.l.length+t.l.length % 2 else t.l.length))=Q7 t.l:=by
   rw[Nd];split<;>omega
  rw[j]at v;have z:t.count=1+Q7 t.l:=by rw[<-Aa.eta t,Aa.count];rfl
  unfold Ht at q;unfold Ht;omega
def qV(N:Nat)(E:Am)(d:Nat):Prop:=
 ∀(t:Aa) (p:List Aj) (S:Qz) (lv pv:Q0) (w:Qm),Ah N E w->N<=w.heap.size->t.hd.ok->Ad S w t.l lv->At S w pv p->p.length+d=16->t.count<=1000000->(∀k,w.heap.size<=k->S k)->
  Calls prog 67 #[Qu t.hd lv,pv] w fun e w'=>∃v,e=.returned v/\AG S w' v (V6 d t p)/\Qd w w'
def QO(t:Aa)(d:Nat)(p:List Aj)(i:Nat):List (List Aj):=(((Qx t t.l.length).take i).filter fun x=>X5 x.1).flatMap fun x=>V6 d (Xp t.l x.2) (p++[x.1])
def vL(t:Aa)(d:Nat)(p:List Aj)(i:Nat)(h:i< (Qx t t.l.length).length):
  QO t d p (i+1)=QO t d p i++if X5 (Qx t t.l.length)[i].1 then V6 d (Xp t.l (Qx t t.l.length)[i].2) (p++[(Qx t t.l.length)[i].1])else[]:=by
 unfold QO
 rw[Gl h,List.filter_append,cV]
 congr 1
 rw[Wk,List.filter_nil]
 split<;>simp
def Qcx(t:Aa)(d:Nat)(p:List Aj)(i:Nat):(QO t d p i).length<=t.count:=by
 have v:∀l:List (Aj × Nat),((l.filter fun x=>X5 x.1).flatMap fun x=>V6 d (Xp t.l x.2) (p++[x.1])).length<=G2 (fun i=>(Xp t.l i).count) l:=by
  intro l;induction l with
  |nil=>simp[G2]
  |cons x l ih=>
   have e:G2 (fun i=>(Xp t.l i).count) (x::l)=(Xp t.l x.2).count+G2 (fun i=>(Xp t.l i).count) l:=rfl;rw[e,Wk];split
   ·rw[Ox,Zv]
    have:=CG d (Xp t.l x.2) (p++[x.1]);omega
   ·omega
 have y:=v ((Qx t t.l.length).take i);have q:=Sa t t.l.length (Q6 _);have j:Q7 (t.l.take (if t.hd.kind=8 then t.l.length+t.l.length % 2 else t.l.length))=Q7 t.l:=by
  rw[Nd];split<;>omega
 rw[j]at q;have z:t.count=1+Q7 t.l:=by rw[<-Aa.eta t,Aa.count];rfl
 have m:G2 (fun i=>(Xp t.l i).count) (Qx t t.l.length)=G2 (fun i=>(Xp t.l i).count) ((Qx t t.l.length).take i)+G2 (fun i=>(Xp t.l i).count) ((Qx t t.l.length).drop i):=by
  rw[<-OS,FW]
 unfold QO;omega
def OT{t:Aa}(h:∀y∈t.l,y.hd.s.size<=1099511627776):∀k,∀x∈Qx t k,x.1.key.size<=1099511627776
 |0,x,hx=>by simp[Qx]at hx
 |k+1,x,hx=>by
  cases hc:Yc t k with
  |none=>rw[Vm hc]at hx;exact OT h k x hx
  |some y=>
   by_cases hy:y.1∈(Qx t k).map Prod.fst
   ·rw[Gt hc hy]at hx;exact OT h k x hx
   ·rw[Jp hc hy]at hx;rcases Kn.1 hx with hx|hx
    ·exact OT h k x hx
    ·rw[Zm]at hx;subst hx;unfold Yc at hc;split at hc
     ·rename_i h8;cases hc;have hk:k<t.l.length:=oM;exact h _ (by rw[J7 hk];exact Zp hk)
     ·split at hc
      ·cases hc;exact Xi _
      ·cases hc
def IY{P Q:Prop}(h:Q)(f:Wz Q->P:=by
 intro zz;obtain⟨n,hn⟩:=X0 t.l.length;obtain⟨h,hh⟩:=X0 t.hd;revert n hn h hh;exact zz.o):P:=f ⟨h⟩
def Qcy(N:Nat)(E:Am):qV N E 0:=by
 intro t p S lv pv w hG hN r d y a0 hc k;rw[V6];obtain⟨a,f,rfl⟩:=d.Ab;obtain⟨u,c,rfl,z⟩:=y.Ab;obtain⟨m,j⟩:∃n,p.length=n:=⟨_,rfl⟩;have q:m=16:=oM;rw[j]at z|-;have v:At S w (.slice u m c) p:=by rw[<-j];exact y
 refine IY ?_;intro n hn h hh;rw[hn,hh];subst q;clear y j hn hh d r;go_in;go_wp2;go_ret;refine⟨.slice (some (ad (w.heap.size+1+1) 0)) 1 1,rfl,?_,Xd⟩;refine(qU (S:=S) (x:=.slice u 16 c) (p:=p) (by repeat(first|exact Ql sM|refine Qb ?_)) (v.same Xd)).read (fun b hb=>k b oM) sM
def Qcz{N:Nat}{E:Am}(d:Nat)(ih:qV N E d):qV N E (d+1):=by
 intro t p S lv pv w hG hN ho hr hp j1 hc hS;rw[V6];obtain⟨_,a,ac,rfl,gc,b6⟩:=hr.shape;obtain⟨pa,pc,rfl,g0⟩:=hp.Ab;obtain⟨pn,bf⟩:∃n,p.length=n:=⟨_,rfl⟩;rw[bf]at g0|-;have d4:At S w (.slice pa pn pc) p:=by rw[<-bf];exact hp
 have j4:((pn:Int)==16)=false:=by simp;omega
 refine IY ?_;intro n hn h hh;rw[hn,hh];have HN:=Qc hn;have HH:=Qc hh;have gd:=Qc bf;have d8:=fun W=>JG t.hd a t.l.length ac W
 rw[hn,hh]at d8;clear hp hn hh bf;refine(J5 (n:=0)).1 (Vy func67 rfl trivial ?_ rfl);simp only[ntmps67];refine Ie ?_;gi_wp2_with(gi_at_call 118;refine(Qr (d8 _)).mono ?_;rintro e w' ⟨rfl,rfl⟩);generalize ab:World.alloc _ (.cells (Qn h (.slice a n ac)).toArray 27)=W1;have j2:W1.heap.size=w.heap.size+5:=by rw[<-ab];simp
 have be:Qd w W1:=by rw[<-ab];exact Xd
 have b0:W1.heap[w.heap.size]? =some (.cells (nR h (.slice a n ac)) 27 (0,0)):=by rw[<-ab];exact Qb (Qb (Qb (Qb (Qt w _))))
 have b1:W1.heap[w.heap.size+1]? =some (.cells #[.slice pa pn pc] PY (0,0)):=by rw[<-ab];exact Qb (Qb (Qb (Ql sM)))
 have b2:W1.heap[w.heap.size+1+1]? =some (.cells #[.slice pa pn pc] PY (0,0)):=by rw[<-ab];exact Qb (Qb (Ql sM))
 have b3:W1.heap[w.heap.size+1+1+1]? =some (.cells #[.slice (some (ad (w.heap.size+1+1) 0)) 1 1] 44 (0,0)):=by rw[<-ab];exact CH
 have b4:W1.heap[w.heap.size+1+1+1+1]? =some (.cells (Qn h (.slice a n ac)).toArray 27 (0,0)):=by rw[<-ab];exact Ql sM
 clear ab;have cf:Ad S W1 t.l (.slice a t.l.length ac):=hr.same be;have ce:∀y∈t.l,y.hd.s.size<=1099511627776:=fun y hy=>by
  obtain⟨i,hi,rfl⟩:=GF.1 hy;obtain⟨_,_,_,_,_,_,_,g8,_⟩:=b6 i hi;exact g8.2.2.2.2.2
 have ba:AW S W1 (w.heap.size+1+1) (.slice (some (ad (w.heap.size+1+1) 0)) 1 1) [p]:=qU b2 (d4.same be);have ag:∀i,(QO t d p i).length+1<=1000001:=fun i=>by
  have h1:=Qcx t d p i;omega
 obtain⟨Sb,b5⟩:∃Sb:Nat->Obj->Prop,Sb=fun b o=>(b=w.heap.size+1+1+1->∀c f,o≠ .cells c 44 f)/\(w.heap.size+2<=b->∀c f,o≠ .cells c PY f):=⟨_,rfl⟩
 refine Jt (gf:=198) (lb:=#[pt (w.heap.size+1+1+1+1)])
  rfl (X3 func198 kM rfl) (Qx t t.l.length).length (lM t) Sb (fun b o=>W1.heap.size+2<=b->∀es n,o≠ .map es n)
  (fun _=>True) (fun _ _=>True) ?hit ?hSb (fun b o h1 h2 h3 h4=>oM)
  (fun i A=>∃lv2,A.heap[w.heap.size+1+1+1]? =some (.cells #[lv2] 44 (0,0))/\AW S A (w.heap.size+1+1) lv2 (p::QO t d p i)/\Ac (fun b _=>b<w.heap.size+2) W1 A)
  (fun _ _ _=>False) ?hI (fun _ _ _ _ h _=>h) (fun _ _ _ _ h _=>h) (fun _ _ _ _=>trivial) (fun _ _ _ _ _=>trivial) (fun i v A h=>by obtain⟨_,h⟩:=h;rw[h];rfl) ⟨_,b3,ba,Ac.refl _ _⟩
  (fun i v a' A=>∃(bx:Nat) (x:Aj × Nat) (h0:i< (Qx t t.l.length).length),(Qx t t.l.length)[i]=x/\A.heap[bx]? =some (.cells #[i6 x.1.index,.string x.1.key] 62 (0,0))/\w.heap.size+2<=bx/\a'={tmps:=#[Qu h (.slice a n ac),.slice pa pn pc,pt w.heap.size,pt (w.heap.size+1),.slice none 0 0,pt (w.heap.size+1+1+1),pt bx,i6 (x.2:Int),.slice pa pn pc,.slice (some (ad (w.heap.size+1+1) 0)) 1 1,.slice pa pn pc,i6 (pn:Int),.bool false,undef,.agg (nR h (.slice a n ac)),.func (.func 198) #[] #[pt (w.heap.size+1+1+1+1)],Yp x.1,i6 (x.2:Int),undef,undef,undef,undef,undef,undef,undef,undef,undef,undef,undef,undef,undef,undef,undef],defers:=[]}) ?hAx ?hassign ?hbody ?hdone (fun _ _ _ _ _ _ h=>h.elim)
 case hit=>
  intro W2 q fe;subst b5;refine SP S t _ _ _ _ W2 (cf.same q) (by rw[HN.out,HH.out];exact q.s b4) (fun b c f=>⟨fun _ c2 f2 e=>by injection e with _ e _;exact absurd e dM,fun _ c2 f2 e=>by injection e with _ e _;exact absurd e dM⟩) (fun b es n hb=>⟨fun h c f e=>(by cases e),fun h c f e=>(by cases e)⟩) (fun b es n hb h=>h oM es n rfl)
 case hSb=>subst b5;exact fun b o hb ho=>⟨fun h c f e=>(by rw[e]at ho;cases ho),fun h c f e=>(by rw[e]at ho;cases ho)⟩
 case hI=>
  rintro i A B ⟨lv2,h1,h2,h3⟩ hk;exact⟨lv2,hk.same _ _ h1 ⟨.inr rfl,fun h es n e=>(by cases e)⟩,h2.Af hk (fun _ _ _ _=>⟨.inr rfl,fun h es n e=>(by cases e)⟩) (fun _ _ _ _=>⟨.inr rfl,fun h es n e=>(by cases e)⟩),⟨hk.os.trans h3.os,hk.tape.trans h3.tape,hk.output.trans h3.output,Qj h3.size hk.size,fun b o hb hs=>hk.same b o (h3.same b o hb hs) ⟨.inl oM,fun h=>oM⟩⟩⟩
 case hAx=>
  rintro i v a' A B ⟨bx,x,h0,hx,h1,h2,h3⟩ hk;exact⟨bx,x,h0,hx,hk.same _ _ h1 (.inr rfl),h2,h3⟩
 case hassign=>
  rintro lp i v A K hi ⟨lv2,h1,h2,h3⟩ ⟨h0,rfl⟩ hK;generalize hx:(Qx t t.l.length)[i]=x at hK|-;have HX:=Qc hx;clear hx;gi_wp2;refine hK _ _ ((Ac.refl _ _).alloc _) ⟨lv2,Qb h1,h2.same ((Ac.refl _ _).alloc _),h3.alloc _⟩ ⟨h0,by rw[HX.out]⟩ ⟨A.heap.size,x,h0,HX.out,Qt A _,by have:=h3.size;omega,rfl⟩
 case hbody=>
  rintro lp i v a' A ja ⟨rr,ge⟩ gh ⟨lv2,b9,a9,a8⟩ hv ⟨bx,x,h0,hx,f4,j8,rfl⟩;clear hv;have bd:Qd w A:=C1 be a8 fun b _ hb=>oM
  have z:=vL t d p i h0;have ah:(Qx t t.l.length)[i]∈Qx t t.l.length:=Zp h0;rw[hx]at z ah;have d0:x.2<t.l.length:=Lt (s:=x.1) t.l.length (Q6 _) (by exact ah);have ff:=OT ce t.l.length x ah;have cb:=SS x.1 A (hG.same bd) ff;generalize g6:X5 x.1=r at z cb;have HX:=Qc hx;have e0:=Ys f4;have fh:=a8.same _ _ b0 oM;have g9:=a8.same _ _ b1 oM;clear hx cf b0 b1 b2 b3 b4 ah;gi_wp2_with fail;refine(Qr cb).mono ?_;rintro e A2 ⟨rfl,q⟩;cases r with
  |false=>
   rw[Qa dM,Hy]at z;gi_wp2;exact⟨Ac.of_same q,lv2,q.s b9,by rw[z];exact a9.same q,a8.trans (Ac.of_same q)⟩
  |true=>
   rw[Qe rfl]at z;obtain⟨g,j7,g3,e9,gg,⟨j3,f,d5⟩,cg,fb,bb⟩:=b6 x.2 d0;subst e9;have g4:(t.l[x.2]).count<=t.count:=by
    have h4:t.count=1+Q7 t.l:=by rw[<-Aa.eta t,Aa.count];rfl
    have:=TF (Zp d0);omega
   rw[J7 d0]at z;have j0:(x.2:Int)< (n:Int):=by have:=HN.out;omega
   have a4:=bd.trans q;have cd:=fun(W:Qm) pv2 (hs:Qd A2 W) (hpv:At S W pv2 (p++[x.1]))=>ih t.l[x.2] (p++[x.1]) S g3 pv2 W (hG.same (a4.trans hs)) (Qj hN (a4.trans hs).size) fb (cg.same (a4.trans hs)) hpv (by rw[Zv];simp only[Xf,Vp];omega) oM (fun k hk=>hS k (Qj (a4.trans hs).size hk))
   obtain⟨ct,f9⟩:∃c,t.l[x.2]=c:=⟨_,rfl⟩;rw[f9]at z cd bb cg g4;obtain⟨ca,cc,rfl⟩:=cg.Ab;obtain⟨cn,df⟩:∃n,ct.l.length=n:=⟨_,rfl⟩;obtain⟨ch,d6⟩:∃h,ct.hd=h:=⟨_,rfl⟩;rw[df,d6]at cd bb;have f5:=Qc z;obtain⟨la,lc,rfl⟩:=a9.Ab;obtain⟨m,hm⟩:=X0 ((p::QO t d p i).length);have gb:m<=1000002:=by have:=ag i;rw[<-hm,Xf];omega
   rw[hm]at b9 a9;have a1:=Qy a4 bb;have a5:=q.s b9;have b7:=q.s fh;have a7:=q.s g9;have a3:=q.s f4;have f0:=Q4 a5;have f1:=Q4 a7;obtain⟨f2,f3⟩:=Ys a3;have n0:=Qi b7;obtain⟨c0,c1,c2,c3,c4,c5,c6,c7,c8⟩:=Z0 a1;have j9:=bd.size;have fe:=q.size;clear z f9 df d6 hm e0 b6 hr g6 ih;gi_wp2_with fail;refine KC (And.intro a5 (And.intro b7 (And.intro a7 (And.intro a3 a1)))) ?_;simp only[Vz];repeat refine sX ?_
   refine Kd rfl rfl ?_;intro K hK;go_simp;show K _ (A2.drew.alloc (.cells (EM x.1).toArray PM));have aa:Qd A2 (A2.drew.alloc (.cells (EM x.1).toArray PM)):=((Ac.refl _ A2).drew).alloc _;have d9:=Qt A2.drew (.cells (EM x.1).toArray PM);generalize A2.drew.alloc (.cells (EM x.1).toArray PM)=A3 at aa d9|-;refine hK _ _ ⟨aa.s a5,aa.s b7,aa.s a7,aa.s a3,Qy aa a1⟩ ?_;clear hK K n0 c0 c1 c2 c3 c4 c5 c6 c7 c8 f0 f1 f2 f3;refine Kd rfl rfl ?_;intro K hK;go_simp;refine(Qr (Qhn S p x.1 (.slice pa pn pc) A2.heap.size 1 A3 (d4.same (a4.trans aa)) oM (fun j u hj=>by rw[Ea,Vj _ _ _ _ _ _ (show A3.heap[A2.heap.size]? =_ from d9)];simpa using hj))).mono ?_;rintro e A4 ⟨v4,rfl,de,ga⟩;have af:=aa.trans ga;refine hK _ _ ⟨af.s a5,af.s b7,af.s a7,af.s a3,Qy af a1⟩ ?_;clear hK K;refine Kd rfl rfl ?_;intro K hK;go_simp;refine(Qr (cd A4 v4 af (Aw.mono de fun b _ hb=>hS b (by have:=aa.size;omega)))).mono ?_;rintro e A5 ⟨v5,rfl,d3,fd⟩;have a0:=af.trans fd;refine hK _ _ ⟨a0.s a5,a0.s b7,a0.s a7,a0.s a3,Qy a0 a1⟩ ?_;clear hK K;have a2:=a9.same (q.trans a0);have fg:=CG d ct (p++[x.1]);obtain⟨v6,A6,bh,ae,b8⟩:=PZ 44 a2 d3 (by have:=ag i;have:=fg;simp only[Xf];omega) (by have:=a0.size;have:=a8.size;omega);rw[Y0,<-f5.out]at ae;have bg:=q.trans a0;have d2:∀b o,A5.heap[b]? =some o->(∀c f,o≠Obj.cells c PY f)->A6.heap[b]? =some o:=fun b o hb ho=>b8.same b o hb fun e=>by
    obtain⟨_,c,f,h2⟩:=a2.AC e;rw[hb]at h2;cases h2;exact ho _ _ rfl
   have a6:=d2 _ _ (a0.s a5) (fun c f e=>by injection e with _ e _;exact absurd e dM);have g7:=d2 _ _ (a0.s b7) (fun c f e=>by injection e with _ e _;exact absurd e dM);have da:=d2 _ _ (a0.s a3) (fun c f e=>by injection e with _ e _;exact absurd e dM);have db:=b8.same _ _ (a0.s a7) (fun e=>by have:=(a2.AC e).1;omega);have dh:=Zd b8 (fun o ho e=>by
    obtain⟨_,c2,f2,h2⟩:=a2.AC e;have h3:=(a4.trans a0).s d5;rw[h3]at h2;injection (Dw h2)with _ e2 _;exact absurd e2 dM) (Qy a0 a1)
   refine Kd rfl rfl ?_;intro K hK;refine Rn _ _ rfl rfl rfl bh ?_;refine hK _ _ ⟨a6,g7,db,da,dh⟩ ?_;clear hK K bh;obtain⟨dc,fc,rfl⟩:=ae.Ab;refine BD (G5 rfl ?_);have f0:=Q4 a6;have j6:=Jd a6;go_simp;have fa:Ac Sb A A6:=(Ac.of_same bg).trans (b8.mono fun b o hb hs e=>by
    obtain⟨h1,c2,f2,h2⟩:=a2.AC e;rw[hb]at h2;cases h2;subst b5;exact hs.2 h1 _ _ rfl)
   have d7:Ac (fun b _=>b<w.heap.size+2) A A6:=(Ac.of_same bg).trans (b8.mono fun b o hb hs e=>by
    have:=(a2.AC e).1;omega)
   refine(show(_/\_) from⟨fa.setCell _ fun o ho a3 _=>?_,.slice dc _ fc,Qk a6 0 _,?_,?_⟩)
   ·subst b5;have bc:A6.heap[w.heap.size+1+1+1]? =some o:=ho;rw[a6]at bc;cases bc;exact a3.1 rfl _ _ rfl
   ·have g5:Ac (fun b o=>(∃c f,o=Obj.cells c PM f)∨∃c f,o=Obj.cells c PY f) A6 (A6.setCell (ad (w.heap.size+1+1+1) 0) (.slice dc ((QO t d p (i+1)).length+1) fc)):=(Ac.refl _ A6).setCell _ fun o ho a3 _=>by
     have bc:A6.heap[w.heap.size+1+1+1]? =some o:=ho;rw[a6]at bc;cases bc;rcases a3 with⟨c,f,e⟩| ⟨c,f,e⟩<;>(injection e with _ e _;exact absurd e dM)
    exact ae.Af g5 (fun _ _ c f=>.inl ⟨c,f,rfl⟩) fun _ _ c f=>.inr ⟨c,f,rfl⟩
   ·exact(a8.trans d7).setCell _ fun o _ a3 _=>by simp only at a3;omega
 case hdone=>
  rintro D w4 hD ⟨lv2,b9,a9,a8⟩ _ hk dd;have dg:Qd w w4:=C1 be a8 fun b _ hb=>oM
  have c9:QO t d p (Qx t t.l.length).length=((Ht t).filter fun x=>X5 x.1).flatMap fun x=>V6 d (Xp t.l x.2) (p++[x.1]):=by
   unfold QO Ht;rw[Vc]
  have f6:=ag (Qx t t.l.length).length;rw[c9]at a9 f6;generalize hZ:((Ht t).filter fun x=>X5 x.1).flatMap (fun x=>V6 d (Xp t.l x.2) (p++[x.1]))=Z at a9 f6;have d1:=a9.read (fun b hb=>hS b oM) (by rw[Xf];omega);have HZ:=Qc hZ;obtain⟨la,lc,rfl⟩:=a9.Ab;have l0:=Q4 b9;have j5:=a8.size;clear c9 hZ cf hk b6 hr ih b0 b1 b2 b3 b4 ba;gi_wp2;refine⟨sM,.inl ⟨_,_,rfl,Vx (w:=w4) dd,?_⟩⟩;have f7:Ac (fun _ o=>o.isCells=true) w4 (w4.putObj D (.deferred none)):=(Ac.refl _ w4).putObj _ fun o ho hs _=>by
   rw[dd]at ho;cases ho;cases hs
  have jb:W1.heap.size<=D:=hD;refine⟨_,Gn rfl _ _ _,.slice la (p::Z).length lc,rfl,?_,dg.putObj _ fun o _ _ h=>oM⟩;rw[HZ.out];obtain⟨xs,g1,g2⟩:=d1;exact⟨xs,g1.Af f7 fun _ _ _ _=>rfl,Al.Af f7 (fun _ _ _ _=>rfl) g2⟩
def qW(N:Nat)(E:Am):∀d,qV N E d
 |0=>Qcy N E
 |d+1=>Qcz d (qW N E d)
def fX{N:Nat}{E:Am}(t:Aa)(S:Qz)(lv:Q0)(w:Qm)(hG:Ah N E w)(hN:N<=w.heap.size)(ho:t.hd.ok)(hr:Ad S w t.l lv)(hc:t.count<=1000000)(hS:∀k,w.heap.size<=k->S k):
  Calls prog 35 #[Qu t.hd lv] w fun e w'=>∃v,e=.returned v/\AG S w' v (Th t)/\Qd w w':=by
 have j:=fun W (hk:Qd w W)=>qW N E 16 t [] S lv (.slice none 0 0) W (hG.same hk) (Qj hN hk.size) ho (hr.same hk) (Aw.nil _ _ _ _) rfl hc (fun k h=>hS k (Qj hk.size h))
 have e:V6 16 t []=Th t:=rfl
 rw[e]at j
 obtain⟨a,y,rfl⟩:=hr.Ab
 refine IY ?_
 intro n hn h hh
 rw[hn,hh]at j
 rw[hn,hh]
 clear hr hn hh ho e
 go_in
 go_wp2_with(go_at_call 67;refine(j _ Xd).mono ?_;rintro e u ⟨m,rfl,q,z⟩)
 go_ret
 exact⟨m,rfl,q,Xd⟩
abbrev NA:TypeId:=53
def Qc0:(prog.info? NA).map (fun i=>(i.zero,i.size,i.bytes))=some (some (.agg (Value.slice none 0 0::Qn (Qh 0) (.slice none 0 0)).toArray),10,128):=by kernel_rfl
def Ai(S:Qz)(w:Qm):List (List Aj × Aa)->Kb->Prop
 | [],xs=>xs=[]
 |q::qs,xs=>∃pv lv rest,xs=(pv::Qn q.2.hd lv)++rest/\At S w pv q.1/\q.2.hd.ok/\Ad S w q.2.l lv/\Ai S w qs rest
def Ai.length{S:Qz}{w:Qm}:∀{qs:List (List Aj × Aa)} {xs:Kb},Ai S w qs xs->xs.length=qs.length*10
 | [],xs,h=>by rw[Ai]at h;subst h;rfl
 |q::qs,xs,h=>by
  rw[Ai]at h;obtain⟨pv,lv,rest,rfl,_,_,_,h⟩:=h;have j:(pv::Qn q.2.hd lv).length=10:=rfl;rw[Zv,h.length,Xf (a:=q),j];omega
def Ai.Af{S:Qz}{K:Nat->Obj->Prop}{w w':Qm}(hk:Ac K w w')(hK:∀b,S b->∀c f,K b (.cells c PM f))(hN:∀b,S b->∀c f,K b (.cells c 27 f)):∀{qs:List (List Aj × Aa)} {xs:Kb},Ai S w qs xs->Ai S w' qs xs
 | [],xs,h=>by rw[Ai]at h|-;exact h
 |q::qs,xs,h=>by
  rw[Ai]at h|-;obtain⟨pv,lv,rest,e,h1,h2,h3,h4⟩:=h;exact⟨pv,lv,rest,e,Aw.Af h1 hk hK,h2,h3.Af hk hN,Ai.Af hk hK hN h4⟩
def Ai.same{S:Qz}{w w':Qm}{qs:List (List Aj × Aa)}{xs:Kb}(h:Ai S w qs xs)(hk:Qd w w'):Ai S w' qs xs:=Ai.Af hk (fun _ _ _ _=>trivial) (fun _ _ _ _=>trivial) h
def Ai.mono{S S':Qz}{w:Qm}(hS:∀b,b<w.heap.size->S b->S' b):∀{qs:List (List Aj × Aa)} {xs:Kb},Ai S w qs xs->Ai S' w qs xs
 | [],xs,h=>by rw[Ai]at h|-;exact h
 |q::qs,xs,h=>by
  rw[Ai]at h|-;obtain⟨pv,lv,rest,e,h1,h2,h3,h4⟩:=h;exact⟨pv,lv,rest,e,Aw.mono h1 hS,h2,h3.mono hS,Ai.mono hS h4⟩
def Ai.append{S:Qz}{w:Qm}:∀{ps qs:List (List Aj × Aa)} {xs ys:Kb},Ai S w ps xs->Ai S w qs ys->Ai S w (ps++qs) (xs++ys)
 | [],qs,xs,ys,h1,h2=>by rw[Ai]at h1;subst h1;exact h2
 |p::ps,qs,xs,ys,h1,h2=>by
  rw[Ai]at h1;obtain⟨pv,lv,rest,rfl,h3,h4,h5,h6⟩:=h1;rw[Y0,Ai];exact⟨pv,lv,rest++ys,by rw[Y1],h3,h4,h5,Ai.append h6 h2⟩
def Ai.one{S:Qz}{w:Qm}:∀{qs:List (List Aj × Aa)} {xs:Kb},Ai S w qs xs->∀u∈xs,u.oneCell'=true
 | [],xs,h,u,hu=>by rw[Ai]at h;subst h;cases hu
 |q::qs,xs,h,u,hu=>by
  rw[Ai]at h;obtain⟨pv,lv,rest,rfl,h1,h2,h3,h4⟩:=h;obtain⟨a,c,rfl,_⟩:=h1.Ab;obtain⟨b,d,rfl⟩:=h3.Ab;rcases Kn.1 hu with hu|hu
  ·rcases Xg.1 hu with rfl|hu
   ·rfl
   ·exact N6 _ _ _ _ u hu
  ·exact h4.one u hu
def Ai.get{S:Qz}{w:Qm}:∀{qs:List (List Aj × Aa)} {xs:Kb},Ai S w qs xs->∀i (hi:i<qs.length),∃pv lv,(∀j u,(pv::Qn qs[i].2.hd lv)[j]? =some u->xs[i*10+j]? =some u)/\At S w pv qs[i].1/\qs[i].2.hd.ok/\Ad S w qs[i].2.l lv
 |q::qs,xs,h,i,hi=>by
  rw[Ai]at h;obtain⟨pv,lv,rest,rfl,h1,h2,h3,h4⟩:=h;have y:(pv::Qn q.2.hd lv).length=10:=rfl;cases i with
  |zero=>
   refine⟨pv,lv,fun j u v=>?_,h1,h2,h3⟩;have n:j<10:=by rw[<-y];exact(DT.1 v).1
   rw[CJ,Z3,L3 oM];exact v
  |succ i=>
   obtain⟨z,m,c,b⟩:=h4.get i (by simpa using hi);refine⟨z,m,fun j u v=>?_,b⟩;rw[MK (by rw[y];omega),y,show(i+1)*10+j-10=i*10+j by omega];exact c j u v
def AV(S:Qz)(w:Qm)(B:Nat)(v:Q0)(qs:List (List Aj × Aa)):Prop:=∃xs,w.ownsRow B NA 10 v qs.length xs/\Ai S w qs xs
def AV.nil(S:Qz)(w:Qm)(B:Nat):AV S w B (.slice none 0 0) []:=⟨[],Yz _ _ _ _,by rw[Ai]⟩
def AV.Ab{S:Qz}{w:Qm}{B:Nat}{v:Q0}{qs:List (List Aj × Aa)}(h:AV S w B v qs):∃a cap,v=.slice a qs.length cap:=by
 obtain⟨j,h,_⟩:=h;exact NM
def AV.same{S:Qz}{w w':Qm}{B:Nat}{v:Q0}{qs:List (List Aj × Aa)}(h:AV S w B v qs)(hk:Qd w w'):AV S w' B v qs:=by
 obtain⟨n,h,b⟩:=h;refine⟨n,⟨h.1,?_⟩,b.same hk⟩;rcases h.2 with m| ⟨g,y,q,rfl,u,z,j⟩
 ·exact .inl m
 ·exact .inr ⟨g,y,q,rfl,u,hk.s z,j⟩
def AV.AC{S:Qz}{w:Qm}{B:Nat}{v:Q0}{qs:List (List Aj × Aa)}(h:AV S w B v qs){b:Nat}(hv:v.ownBlock=some b):B<=b/\∃c f,w.heap[b]? =some (.cells c NA f):=by
 exact Qcw
def Au(S:Qz)(w:Qm)(v:Q0)(qs:List (List Aj × Aa)):Prop:=∃xs,Aw NA 10 S w v qs.length xs/\Ai S w qs xs
def AV.read{S:Qz}{w:Qm}{B:Nat}{v:Q0}{qs:List (List Aj × Aa)}(h:AV S w B v qs)(hS:∀b,B<=b->S b)(hn:qs.length<=17179869184):Au S w v qs:=by
 obtain⟨j,h,y⟩:=h;exact⟨j,Aw.AU h (fun b q _=>hS b q) hn,y⟩
def Au.same{S:Qz}{w w':Qm}{v:Q0}{qs:List (List Aj × Aa)}(h:Au S w v qs)(hk:Qd w w'):Au S w' v qs:=by
 obtain⟨q,j,y⟩:=h;exact⟨q,j.same hk,y.same hk⟩
def Au.mono{S S':Qz}{w:Qm}{v:Q0}{qs:List (List Aj × Aa)}(h:Au S w v qs)(hS:∀b,b<w.heap.size->S b->S' b):Au S' w v qs:=by
 obtain⟨q,j,y⟩:=h;exact⟨q,j.mono hS,y.mono hS⟩
def Au.Ab{S:Qz}{w:Qm}{v:Q0}{qs:List (List Aj × Aa)}(h:Au S w v qs):∃a cap,v=.slice a qs.length cap:=by
 obtain⟨q,j,_⟩:=h;obtain⟨a,c,e,_⟩:=j.Ab;exact⟨a,c,e⟩
def Au.get{S:Qz}{w:Qm}{qs:List (List Aj × Aa)}{a:Jr}{n cap:Nat}(h:Au S w (.slice a n cap) qs)(i:Nat)(hi:i<qs.length):
  ∃b off pv lv,a=some ⟨b,off,none⟩/\S b/\w.rangeAt b (off+i*10) (pv::Qn qs[i].2.hd lv)/\At S w pv qs[i].1/\qs[i].2.hd.ok/\Ad S w qs[i].2.l lv:=by
 obtain⟨xs,⟨h1,h2,p⟩,c⟩:=h
 obtain⟨pv,lv,r,m,k,y⟩:=c.get i hi
 rcases p with⟨e,h0⟩| ⟨b,off,v,d,f,e,hc,t,z,q⟩
 ·omega
 ·cases e;refine⟨b,off,pv,lv,rfl,t,fun j u x=>?_,m,k,y⟩
  have:=q _ _ (r j u x);rw[Vj _ _ _ _ _ _ z,LM];exact this
def Tl{S:Qz}{w:Qm}{B b:Nat}{f:Nat × Nat}{v pv lv:Q0}{qs:List (List Aj × Aa)}(ty:TypeId)(p:List Aj)(x:Aa)(hown:AV S w B v qs)(hb:w.heap[b]? =some (.cells (pv::Qn x.hd lv).toArray NA f))
  (hp:At S w pv p)(hxo:x.hd.ok)(hxr:Ad S w x.l lv)(hlen:qs.length+1<=17179869184)(hB:B<=w.heap.size):
  ∃v' w',(Builtin.append_ #[30,30] ty #[v,.slice (some ⟨b,0,none⟩) 1 1]).run prog w=.ok v' w'/\AV S w' B v' (qs++[(p,x)])/\Ac (fun b _=>v.ownBlock≠some b) w w':=by
 obtain⟨t,q,hr⟩:=hown
 obtain⟨i,hi,n⟩:=Hi.1 Qc0
 simp only[LO]at n
 have z:Ai S w [(p,x)] (pv::Qn x.hd lv):=by
  rw[Ai];exact⟨pv,lv,[],by rw[Hy],hp,hxo,hxr,by rw[Ai]⟩
 have y:∀j u,(pv::Qn x.hd lv)[j]? =some u->w.cell? (((ad b 0):Addr).add j)=some u:=by
  intro j u hj;rw[Ea,Vj _ _ _ _ _ _ hb];simpa using hj
 obtain⟨v',w',m,h2,h3,_⟩:=OV (P:=prog) w B 30 ty NA i _ 10 128 underlying30 hi n.1 n.2.1 n.2.2 rfl dM v qs.length t q (ad b 0) 1 1 _ rfl y z.one (by unfold maxLen;omega) oM hB
 refine GG ?_
 intro hKe
 have k:Ac (fun _ o=>(∃c f,o=.cells c PM f)∨∃c f,o=.cells c 27 f) w w':=hKe.mono fun b o hb hs e=>by
  rcases q.2 with⟨rfl,_⟩| ⟨g,r,a0,rfl,_,hg,_⟩
  ·cases e
  ·cases e;rw[hg]at hb;cases hb;rcases hs with⟨c,f,d⟩| ⟨c,f,d⟩<;>cases d
 refine⟨v',w',m,⟨t++(pv::Qn x.hd lv),?_,(hr.Af k (fun _ _ c f=>.inl ⟨c,f,rfl⟩) fun _ _ c f=>.inr ⟨c,f,rfl⟩).append (z.Af k (fun _ _ c f=>.inl ⟨c,f,rfl⟩) fun _ _ c f=>.inr ⟨c,f,rfl⟩)⟩,hKe⟩
 rw[Zv];exact h2
def mT(a:Jr)(n cap:Nat)(z:Int)(w:Qm):
  Calls prog 195 #[.slice a n cap,.int .i64 z] w fun e w'=>e=.returned (.func (.func 255) #[] #[.pointer (some ⟨w.heap.size,0,none⟩),.pointer (some ⟨w.heap.size+1,0,none⟩)])/\w'=(w.alloc (.cells #[.slice a n cap] 25)).alloc (.cells #[.int .i64 z] 3):=by
 go_in
 exact Nv
def Qc1(S:Qz)(l:Qp)(i:Nat)(v:Array Q0)(A:Qm):Prop:=∃(h0:2*i<l.length) (h1:2*i+1<l.length) (b o:Nat) (lv mv:Q0),v=#[.slice (some ⟨b,o,none⟩) 2 2]/\S b/\(∃cur f,A.heap[b]? =some (.cells cur 27 f))/\A.rangeAt b o (Qn (l[2*i]).hd lv)/\A.rangeAt b (o+9) (Qn (l[2*i+1]).hd mv)/\Ad S A (l[2*i]).l lv/\Ad S A (l[2*i+1]).l mv/\(l[2*i]).hd.ok/\(l[2*i+1]).hd.ok
def NB(S:Qz)(l:Qp)(lv:Q0)(bx bz:Nat)(Sb Si:Nat->Obj->Prop)(W:Qm)(hr:Ad S W l lv)(hev:l.length % 2=0)(hbx:Boxed W bx 25 lv)(hbz:Boxed W bz 3 (.int .i64 2))(hSb1:∀c f,Sb bx (.cells c 25 f))(hSb3:∀c f,Sb bz (.cells c 3 f))(hSb2:∀b c f,Sb b (.cells c 27 f))(hSi:∀b o,Si b o->b≠bx∨∀c f,o≠ .cells c 25 f):
  Hk prog 255 #[.pointer (some ⟨bx,0,none⟩),.pointer (some ⟨bz,0,none⟩)] (l.length/2) (Qc1 S l) Sb Si (fun _=>True) (fun _ _=>True) W:=by
 rintro lp J Jx bf hJ d1 hY h0
 obtain⟨r,hl⟩:=bf 0 W h0
 have cc:=J2 hbx.cell hl
 have bc:=J2 hbz.cell hl
 have bd:bx≠bz:=by rintro rfl;have h1:W.heap[bx]? =_:=hbx;have h2:W.heap[bx]? =_:=hbz;rw[h1]at h2;cases h2
 obtain⟨cg,a,c0,rfl,a8,hi⟩:=hr.shape
 have c5:∀k,2*k<l.length->∃b off,a=some (ad b off):=fun k h=>by obtain⟨b,off,_,e,_⟩:=hi _ h;exact⟨b,off,e⟩
 refine Nf func255 rfl trivial ?_ rfl
 simp only[ntmps255]
 refine Ie ?_
 gi_wp2
 gi_loopw [4] (fun _ wr=>∃k:Nat,k<=l.length/2/\J k wr/\(∃a' c',Boxed wr bx 25 (.slice a' (l.length-2*k) c')/\(2*k<l.length->l.length-2*k<=c'/\∀b off,a=some (ad b off)->a'=some (ad b (off+18*k))))/\Boxed wr bz 3 (i6 2)/\Ac (fun b o=>∃c f,o=.cells c 27 f) W wr)
  (fun _ wr=>match wr.heap[bx]? with|some (.cells #[.slice _ n _] _ _)=>n|_=>0)
 case atStart=>exact⟨0,Xi _,h0,⟨a,c0,hbx,fun _=>⟨a8,fun b off e=>by rw[e];rfl⟩⟩,hbz,Ac.refl _ _⟩
 case round=>
  obtain⟨k,hk,hj,⟨a',c',v,b8⟩,ac,u⟩:=hrel;obtain⟨r1,ah⟩:=bf k wr hj;by_cases b5:k<l.length/2
  ·have i0:2*k<l.length:=oM;have i1:2*k+1<l.length:=oM;obtain⟨c6,be⟩:=b8 i0;obtain⟨b,off,c9,rfl,ba,c7,b7,a7,a6⟩:=hi (2*k) i0;obtain⟨b',ce,c3,e1,ca,c1,bb,a3,a1⟩:=hi (2*k+1) i1;cases e1;have c2:=be b off rfl;subst c2;obtain⟨d2,fz,aa⟩:=c7;have hK:∀o,W.heap[b]? =some o->∃c f,o=.cells c 27 f:=fun o t=>by rw[aa]at t;cases t;exact⟨_,_,rfl⟩
   have bg:=Zd u hK a6;have b9:=Zd u hK a1;have a4:=b7.Af u fun _ _ c f=>⟨c,f,rfl⟩
   have a2:=bb.Af u fun _ _ c f=>⟨c,f,rfl⟩
   have a5:=u.same _ _ aa ⟨_,_,rfl⟩;obtain⟨fn,cf,bh,cd,hy,hR⟩:=hY k _ wr b5 hj ⟨i0,i1,b,off+18*k,c9,c3,rfl,ba,⟨_,_,a5⟩,by rw[show off+18*k=off+2*k*9 by omega];exact bg,by rw[show off+18*k+9=off+(2*k+1)*9 by omega];exact b9,a4,a2,a7,a3⟩;obtain⟨m,hm⟩:=X0 (l.length-2*k);obtain⟨q,hq⟩:=X0 (off+18*k);rw[hm]at v c6;rw[hq]at v hy;have d3:2<=m:=oM;have hc:=v.cell;have hz:=ac.cell;have cb:=Jd v;clear bg b9 a6 a1 b7 bb a4 a2 hi c5 hr hbx hbz hY;replace hm:=Qc hm;replace hq:=Qc hq;have g1:(2:Int)<=(m:Int):=oM;have g2:(2:Int)<=(c':Int):=oM;gi_wp2;refine hR.mono ?_;rintro e z ⟨a9,af⟩;have j:=a9.boxed v ⟨cc,hSb1 _ _⟩;have x:=a9.boxed ac ⟨bc,hSb3 _ _⟩;have d4:=j.cell;have d0:=x.cell;have ch:=Jd j;have b6:Ac (fun b o=>∃c f,o=.cells c 27 f) W z:=by
    refine u.trans (a9.mono ?_);rintro k2 o c4 ⟨c,f,rfl⟩;refine⟨?_,hSb2 _ _ _⟩;rintro rfl;rw[c4]at ah;cases ah
   clear hc hz cb;rcases af with⟨rfl,a0⟩| ⟨rfl,a0⟩
   ·clear ah hl h0 hj u hK aa a5 hR hy g1 g2 ba ca c1 a7 a3 b8 be a8;by_cases h2:c'=2
    ·obtain rfl:m=2:=oM;subst h2;gi_wp2;have y:=j.set (.slice (some (ad b q)) 0 0);have ab:Ac (fun b _=>b≠bx) z (z.setCell (ad bx 0) (.slice (some (ad b q)) 0 0)):=(Ac.refl _ _).setCell _ fun o _ p _=>p rfl
     have ag:J (k+1) (z.setCell (ad bx 0) (.slice (some (ad b q)) 0 0)):=hJ _ _ _ a0 ((Ac.refl _ _).setCell _ fun o t p _=>by
      have b3:=hSi _ _ p;have d:z.heap[bx]? =some (.cells #[_] 25 (0,0)):=j;rw[show((ad bx 0):Addr).block=bx from rfl,d]at t;cases t;rcases b3 with h|h
      ·exact h rfl
      ·exact h _ _ rfl)
     have b4:Ac (fun b o=>∃c f,o=.cells c 27 f) W (z.setCell (ad bx 0) (.slice (some (ad b q)) 0 0)):=b6.trans ((Ac.refl _ _).setCell _ fun o t p _=>by
      have d:z.heap[bx]? =some (.cells #[_] 25 (0,0)):=j;rw[show((ad bx 0):Addr).block=bx from rfl,d]at t;obtain⟨c,f,rfl⟩:=p;cases t)
     have b0:=ab.boxed x (fun e=>bd e.symm);refine⟨?_,?_⟩
     ·(repeat apply Exists.intro);refine⟨?_,rfl⟩;exact⟨k+1,oM,ag,⟨_,_,by rw[show l.length-2*(k+1)=0 by have:=hm.out;omega];exact y,fun h=>absurd h (by have:=hm.out;omega)⟩,b0,b4⟩
     ·have b2:wr.heap[bx]? =some (.cells #[.slice (some (ad b q)) 2 2] 25 (0,0)):=v;have ae:(z.setCell (ad bx 0) (.slice (some (ad b q)) 0 0)).heap[bx]? =some (.cells #[.slice (some (ad b q)) 0 0] 25 (0,0)):=y;rw[b2,ae];show 0<2;omega
    ·have g1:(2:Int)<=(m:Int):=oM;gi_wp2;have y:=j.set (.slice (some (ad b (q+18))) (m-2) (c'-2));have ab:Ac (fun b _=>b≠bx) z (z.setCell (ad bx 0) (.slice (some (ad b (q+18))) (m-2) (c'-2))):=(Ac.refl _ _).setCell _ fun o _ p _=>p rfl
     have ag:J (k+1) (z.setCell (ad bx 0) (.slice (some (ad b (q+18))) (m-2) (c'-2))):=hJ _ _ _ a0 ((Ac.refl _ _).setCell _ fun o t p _=>by
      have b3:=hSi _ _ p;have d:z.heap[bx]? =some (.cells #[_] 25 (0,0)):=j;rw[show((ad bx 0):Addr).block=bx from rfl,d]at t;cases t;rcases b3 with h|h
      ·exact h rfl
      ·exact h _ _ rfl)
     have b4:Ac (fun b o=>∃c f,o=.cells c 27 f) W (z.setCell (ad bx 0) (.slice (some (ad b (q+18))) (m-2) (c'-2))):=b6.trans ((Ac.refl _ _).setCell _ fun o t p _=>by
      have d:z.heap[bx]? =some (.cells #[_] 25 (0,0)):=j;rw[show((ad bx 0):Addr).block=bx from rfl,d]at t;obtain⟨c,f,rfl⟩:=p;cases t)
     have b0:=ab.boxed x (fun e=>bd e.symm);refine⟨?_,?_⟩
     ·(repeat apply Exists.intro);refine⟨?_,rfl⟩;exact⟨k+1,oM,ag,⟨_,_,by rw[show l.length-2*(k+1)=m-2 by have:=hm.out;omega];exact y,fun h=>⟨by have:=hm.out;omega,fun b1 o1 e=>by cases e;have:=hq.out;congr 2;omega⟩⟩,b0,b4⟩
     ·have b2:wr.heap[bx]? =some (.cells #[.slice (some (ad b q)) m c'] 25 (0,0)):=v;have ae:(z.setCell (ad bx 0) (.slice (some (ad b (q+18))) (m-2) (c'-2))).heap[bx]? =some (.cells #[.slice (some (ad b (q+18))) (m-2) (c'-2)] 25 (0,0)):=y;rw[b2,ae];show m-2<m;omega
   ·gi_wp2;refine Xs (Dr rfl _ _ _) rfl ?_;exact⟨⟨_,rfl⟩,.inr ⟨k,b5,a0,trivial⟩⟩
  ·obtain rfl:k=l.length/2:=oM;have c8:l.length-2*(l.length/2)=0:=oM;rw[c8]at v;have hc:=v.cell;have hz:=ac.cell;gi_wp2;go_end0;exact⟨⟨_,rfl⟩,.inl ⟨hj,trivial⟩⟩
def Qc2{P Q:Prop}(h:Q)(f:Wz Q->P:=by
 intro zz;have hBA:=fun W (hk:Qd w W)=>CE (fun b=>S b/\b≠w.heap.size+1+1) t lv W (hG.same hk) (Qj hN hk.size) ho ((hr.mono fun b hb h=>(⟨h,oM⟩:S b/\b≠w.heap.size+1+1)).same hk) hs
 revert hBA;exact zz.o):P:=f ⟨h⟩
def fY{N:Nat}{E:Am}(S:Qz)(t:Aa)(s:Aj)(lv:Q0)(w:Qm)(hG:Ah N E w)(hN:N<=w.heap.size)(ho:t.hd.ok)(hr:Ad S w t.l lv)(hs:∀x∈t.flat,Xc x=true)(hS:∀k,w.heap.size<=k->S k)
  (h7:(Q3 t).hd.kind=7)(hi0:0<=s.index)(hi1:s.index.toNat< (Q3 t).l.length):Calls prog 36 #[Qu t.hd lv,Yp s] w (J1 S (Kq t s) w):=by
 have e:Kq t s=(Q3 t).l[s.index.toNat]:=by
  unfold Kq;rw[Qe h7,J7 hi1]
 rw[e]
 refine Qc2 ?_
 intro hBA
 obtain⟨B,hB⟩:=X0 (Q3 t)
 simp only[hB]at hBA h7 hi1|-
 obtain⟨bh,bl⟩:=B
 simp only[Aa.Ae,Aa.Ag]at hBA h7 hi1|-
 obtain⟨i,hi⟩:∃i:Nat,s.index=i:=⟨s.index.toNat,oM⟩
 have a4:s.index.toNat=i:=oM
 have a1:i<bl.length:=oM
 have e2:bl[s.index.toNat]=bl[i]:=by simp only[a4]
 rw[e2]
 obtain⟨xt,p⟩:∃x,bl[i]=x:=⟨_,rfl⟩
 rw[p]
 obtain⟨xh,xl⟩:=xt
 obtain⟨xn,ac⟩:∃n,xl.length=n:=⟨_,rfl⟩
 have af:(bh.kind==7)=true:=by simp[h7]
 obtain⟨ix,d⟩:=s
 simp only at hi hi0
 subst hi
 obtain⟨a,r,rfl⟩:=hr.Ab
 refine IY ?_
 intro n hn h hh
 rw[hn,hh]at hBA
 rw[hn,hh]
 unfold J1
 refine UH ?_
 have a0:(((w.alloc (.cells (nR h (.slice a n r)) 27)).alloc (.cells #[i6 (i:Int),.string d] 62)).alloc (.cells zR 27)).heap[w.heap.size+1+1]? =some (.cells zR 27 (0,0)):=Ql sM
 have a7:(((w.alloc (.cells (nR h (.slice a n r)) 27)).alloc (.cells #[i6 (i:Int),.string d] 62)).alloc (.cells zR 27)).heap[w.heap.size+1]? =some (.cells #[i6 (i:Int),.string d] 62 (0,0)):=Qb (Ql sM)
 clear e e2 hB hn hh hr hs ho h7 a4 hi1 hi0
 go_in
 go_wp2_with fail
 refine EA ?_
 refine Jy ?_
 refine(Vd (n:=0)).2 ?_
 go_wp2_with fail
 refine(hBA _ Xd).mono ?_
 rintro e w3 ⟨v3,rfl,ae,ah,c⟩
 have a2:Qd w w3:=Xd
 have aa:=c.s a7
 have ab:=c.s a0
 obtain⟨_,ba,bc,rfl,a9,m⟩:=ae.shape
 obtain⟨g,z,b0,rfl,b3,⟨b1,f,a5⟩,y,v,j⟩:=m i a1
 rw[p]at y v j
 obtain⟨xa,xc,rfl⟩:=y.Ab
 simp only[Aa.Ae,Aa.Ag]at y v j
 obtain⟨bn,a6⟩:∃n,bl.length=n:=⟨_,rfl⟩
 rw[ac]at y j
 rw[a6]at a9 a1|-
 have b4:∀o,(w3.alloc o).cell? (ad (w.heap.size+1) 0)=some (i6 (i:Int)):=fun o=>(Ys (Qb aa)).1
 have a3:∀o,(w3.alloc o).rangeAt g (z+i*9) (Qn xh (.slice xa xn xc)):=fun o=>Qy ((Ac.refl _ _).alloc _) j
 have q:=Qb (o:=.cells (nR bh (.slice (some (ad g z)) bn bc)) 27) ab
 have u:=LW w3 (.cells (nR bh (.slice (some (ad g z)) bn bc)) 27)
 have z0:=Qi q
 have x0:=Rv (a3 (.cells (Qn bh (.slice (some (ad g z)) bn bc)).toArray 27))
 have ag:(i:Int)< (bn:Int):=oM
 have b2:=Jd q
 clear a7 a0 c m a5 a6 p hBA a3
 go_wp2_with fail
 obtain⟨h9,a8⟩:=Yw q xh (.slice xa xn xc)
 simp only[Exit.noGoto]
 refine DS rfl rfl h9 rfl ⟨.slice xa xn xc,rfl,?_,v,Xt (a2.trans u) a8 oM⟩
 exact(((y.same u).Af a8 fun b hb _ _=>hb.2)).mono fun b _ hb=>hb.1
def VE:∀(l:Qp) (s:Qo) (i:Nat) (h:2*i+1<l.length),(∀j (hj:2*j+1<l.length),j<i->(Xe (l[2*j]'(by omega))).1≠s)->(Xe (l[2*i]'(by omega))).1=s->Ro l s=some (l[2*i+1]'h)
 |k::x::l,s,0,h,_,h1=>by rw[Ro,Qe (by simpa using h1)];rfl
 |k::x::l,s,i+1,h,h0,h1=>by
  have hne:=h0 0 sM oM;rw[Ro,Qa (by simpa using hne)];exact VE l s i (by simp only[Xf]at h;omega) (fun j hj q=>by
   have:=h0 (j+1) (by simp only[Xf];omega) oM;exact this) h1
def Te:∀(l:Qp) (s:Qo),(∀j (hj:2*j+1<l.length),(Xe (l[2*j]'(by omega))).1≠s)->Ro l s=none
 |k::x::l,s,h0=>by
  have hne:=h0 0 sM;rw[Ro,Qa (by simpa using hne)];exact Te l s fun j hj=>by
   have:=h0 (j+1) (by simp only[Xf];omega);exact this
 | [],_,_=>by simp[Ro]
 | [_],_,_=>by simp[Ro]
def vM{N:Nat}{E:Am}(S:Qz)(t:Aa)(s:Aj)(lv:Q0)(w:Qm)(hG:Ah N E w)(hN:N<=w.heap.size)(ho:t.hd.ok)(hr:Ad S w t.l lv)(hs:∀x∈t.flat,Xc x=true)(hS:∀k,w.heap.size<=k->S k)
  (h7:(Q3 t).hd.kind≠7)(hd:∀x∈(Q3 t).l,x.depth<=1000000):Calls prog 36 #[Qu t.hd lv,Yp s] w (J1 S (Kq t s) w):=by
 have e:Kq t s=match Ro (Q3 t).l s.key with|some x=>x|none=>t:=by
  unfold Kq;rw[Qa h7];rfl
 refine Qc2 ?_
 intro hBA
 generalize hB:Q3 t=B at hBA h7 hd e
 obtain⟨bh,L⟩:=B
 simp only[Aa.Ae,Aa.Ag]at hBA h7 hd e
 have f6:(bh.kind==7)=false:=by simp[h7]
 obtain⟨a,d,rfl⟩:=hr.Ab
 obtain⟨tt,d8⟩:∃x,t=x:=⟨_,rfl⟩
 obtain⟨h,hh⟩:=X0 t.hd
 obtain⟨n,hn⟩:=X0 t.l.length
 have E1:=Qc e
 have HH:=Qc hh
 have HN:=Qc hn
 rw[hn,hh]at hBA
 rw[hn,hh]
 have d1:Ad S w t.l (.slice a n d):=by rw[<-hn];exact hr
 have c9:(((w.alloc (.cells (nR h (.slice a n d)) 27)).alloc (.cells #[i6 s.index,.string s.key] 62)).alloc (.cells zR 27)).heap[w.heap.size]? =some (.cells (nR h (.slice a n d)) 27 (0,0)):=Qb (Qb (Qt w _))
 have bf:(((w.alloc (.cells (nR h (.slice a n d)) 27)).alloc (.cells #[i6 s.index,.string s.key] 62)).alloc (.cells zR 27)).heap[w.heap.size+1]? =some (.cells #[i6 s.index,.string s.key] 62 (0,0)):=Qb (Ql sM)
 have c0:(((w.alloc (.cells (nR h (.slice a n d)) 27)).alloc (.cells #[i6 s.index,.string s.key] 62)).alloc (.cells zR 27)).heap[w.heap.size+1+1]? =some (.cells zR 27 (0,0)):=Ql sM
 clear e hB hh hn hr h7 d8
 refine(J5 (n:=0)).1 (Vy func36 rfl trivial ?_ rfl)
 simp only[ntmps36]
 refine Ie ?_
 gi_wp2_with fail
 refine Jy ?_
 gi_wp2_with fail
 refine(Qr (hBA _ Xd)).mono ?_
 rintro e p ⟨v3,rfl,bb,f3,ah⟩
 obtain⟨ba,bc,rfl⟩:=bb.Ab
 have bg:Qd w p:=Xd
 have be:=ah.s c9
 have d0:=ah.s bf
 have a0:=ah.s c0
 obtain⟨bn,b6⟩:∃n,L.length=n:=⟨_,rfl⟩
 rw[b6]at bb|-
 have db:=Qc b6
 have f4:w.heap.size+3<=p.heap.size:=Qg a0
 have n0:=Qi (Qb (o:=.cells (nR bh (.slice ba bn bc)) 27) be)
 obtain⟨x0,x1,x2,x3,x4,x5,x6,x7,x8⟩:=Qi (show(p.alloc (.cells (nR bh (.slice ba bn bc)) 27)).heap[p.heap.size]? =some (.cells (nR bh (.slice ba bn bc)) 27 (0,0)) from Qt p _)
 have e8:∀y,((p.alloc (.cells (nR bh (.slice ba bn bc)) 27)).alloc y).cell? (ad p.heap.size 8)=some (.slice ba bn bc):=fun y=>X9 x8 y
 clear c9 bf c0 ah hBA b6
 gi_wp2_with fail
 refine Ez ?_
 gi_wp2_with(gi_at_call 69;refine(Qr (Yq _ _ _ _)).mono ?_;rintro e w' ⟨rfl,rfl⟩)
 generalize ae:World.alloc _ (.cells #[.slice ba bn bc] 25)=W1
 have f5:W1.heap.size=p.heap.size+3:=by rw[<-ae];simp
 have a8:Qd p W1:=by rw[<-ae];exact Xd
 have c1:W1.heap[w.heap.size+1]? =some (.cells #[i6 s.index,.string s.key] 62 (0,0)):=a8.s d0
 have c2:W1.heap[w.heap.size+1+1]? =some (.cells zR 27 (0,0)):=a8.s a0
 have c6:W1.heap[p.heap.size+1]? =some (.cells (nR h (.slice a n d)) 27 (0,0)):=by rw[<-ae];exact CH
 have c7:Boxed W1 (p.heap.size+1+1) 25 (.slice ba bn bc):=by rw[<-ae];exact Ql sM
 have a2:=bg.trans a8
 clear ae n0 x0 x1 x2 x3 x4 x5 x6 x7 x8 e8 be d0 a0
 have ab:Ad (fun b=>S b/\b≠w.heap.size+1+1/\b≠p.heap.size+1) W1 L (.slice ba bn bc):=(bb.mono fun b hb h=>(⟨h.1,h.2,oM⟩:S b/\b≠w.heap.size+1+1/\b≠p.heap.size+1)).same a8
 obtain⟨Sb,a5⟩:∃Sb:Nat->Obj->Prop,Sb=fun b o=>b=p.heap.size+1->∀c f,o≠ .cells c 27 f:=⟨_,rfl⟩
 refine Jt (gf:=122) (lb:=#[pt (p.heap.size+1+1)])
  rfl (X3 func122 kM rfl) (L.length/2) (DB (fun b=>S b/\b≠w.heap.size+1+1/\b≠p.heap.size+1) L) Sb (fun _ _=>True)
  (fun _=>True) (fun _ _=>True) ?hit ?hSb (fun _ _ _ _ _=>trivial)
  (fun i A=>(∀j (hj:2*j+1<L.length),j<i->(Xe (L[2*j]'(oM))).1≠s.key)/\A.heap[w.heap.size+1]? =some (.cells #[i6 s.index,.string s.key] 62 (0,0))/\A.heap[p.heap.size+1]? =some (.cells (nR h (.slice a n d)) 27 (0,0))/\Ac (fun b _=>b<W1.heap.size) W1 A)
  (fun i c A=>c=.exit 0/\∃y ylv,Ro L s.key=some y/\A.heap[p.heap.size+1]? =some (.cells (Qn y.hd ylv).toArray 27 (0,0))/\y.hd.ok/\Ad (fun b=>S b/\b≠w.heap.size+1+1/\b≠p.heap.size+1) A y.l ylv)
  ?hI ?hIx ?hE (fun _ _ _ _=>trivial) (fun _ _ _ _ _=>trivial) ?hEs ⟨fun _ _ h=>oM,c1,c6,Ac.refl _ _⟩
  (fun i v a' A=>∃(bx:Nat) (cs:Array Q0),v=#[.agg cs]/\A.heap[bx]? =some (.cells cs Z5 (0,0))/\W1.heap.size<=bx/\a'={tmps:=#[Qu h (.slice a n d),Yp s,pt w.heap.size,pt (w.heap.size+1),pt (w.heap.size+1+1),pt p.heap.size,pt (p.heap.size+1),pt bx,undef,undef,.agg (nR h (.slice a n d)),Qu bh (.slice ba bn bc),pt p.heap.size,i6 bh.kind,.bool false,undef,undef,undef,undef,undef,undef,.agg (nR h (.slice a n d)),.pointer (some (ad p.heap.size 8)),.slice ba bn bc,.func (.func 122) #[] #[pt (p.heap.size+1+1)],.agg cs,undef,undef,undef,undef,undef,undef,undef,undef,undef,undef,undef,undef,undef],defers:=[]}) ?hAx ?hassign ?hbody ?hdone ?hstop
 case hit=>
  intro W2 u df;subst a5
  have:=db.out;subst this;exact R9 (fun b=>S b/\b≠w.heap.size+1+1/\b≠p.heap.size+1) L _ _ _ _ W2 (ab.same u) (u.boxed c7 trivial) (fun c f h c2 f2 e=>by injection e with _ e _;exact absurd e dM) (fun b c f hb h=>absurd h hb.2.2)
 case hSb=>subst a5;exact fun b o hb ho h c f e=>by rw[e]at ho;cases ho
 case hI=>
  rintro i A B2 ⟨h1,h2,h3,h4⟩ hk;exact⟨h1,hk.same _ _ h2 ⟨.inr rfl,trivial⟩,hk.same _ _ h3 ⟨.inr rfl,trivial⟩,⟨hk.os.trans h4.os,hk.tape.trans h4.tape,hk.output.trans h4.output,Qj h4.size hk.size,fun k o d6 ch=>hk.same k o (h4.same k o d6 ch) ⟨.inl ch,trivial⟩⟩⟩
 case hIx=>
  rintro i c A B2 ⟨h1,y,ylv,h2,h3,h4,h5⟩ hk;exact⟨h1,y,ylv,h2,hk.same _ _ h3 ⟨.inr rfl,trivial⟩,h4,h5.Af hk fun _ _ _ _=>⟨.inr rfl,trivial⟩⟩
 case hE=>
  exact WU
 case hEs=>
  exact Fs
 case hAx=>
  rintro i v a' A B2 ⟨b2,cs,e,h1,h2,h5⟩ hk;exact⟨b2,cs,e,hk.same _ _ h1 (.inr rfl),h2,h5⟩
 case hassign=>
  rintro lp i v A K hi ⟨a9,b5,b0,ac⟩ ca hK;have hE2:=ca;obtain⟨h0,h1,da,d2,rfl,r0,r1,o0,o1⟩:=ca;obtain⟨k0,c5⟩:=X0 ((L[2*i]).hd);obtain⟨g0,c4⟩:=X0 ((L[2*i+1]).hd);obtain⟨ka,kc,rfl⟩:=r0.Ab;obtain⟨ga,gc,rfl⟩:=r1.Ab;rw[c5,c4]at hK hE2|-;refine mL ?_;intro kn hkn gn hgn;rw[hkn,hgn]at hK hE2|-;clear r0 r1 o0 o1 c5 c4 hkn hgn h0 h1 ab;refine mH ?_;refine hK _ _ ((Ac.refl _ _).alloc _) ⟨a9,Qb b5,Qb b0,ac.alloc _⟩ ?_ ⟨A.heap.size,_,rfl,Qt A _,ac.size,rfl⟩;exact O0
 case hbody=>
  rintro lp i v a' A f9 ⟨rr,dg⟩ f1 ⟨a9,b5,b0,ac⟩ ⟨h0,h1,da,d2,hv,r0,r1,o0,o1⟩ ⟨b3,cs,rfl,hb3,de,rfl⟩;have ce:Qd w A:=Ho a2 ac fun b o hb=>(Ku hb)
  have cb:=hd _ (Zp h0);have q:=VE L s.key i h1 a9;have z:(Xe L[2*i]).1≠s.key->∀j (hj:2*j+1<L.length),j<i+1->(Xe (L[2*j]'(oM))).1≠s.key:=fun d5 j hj dh=>by
   by_cases e:j=i
   ·subst e;exact d5
   ·exact a9 j hj oM
  obtain⟨kt,cg⟩:∃t,L[2*i]=t:=⟨_,rfl⟩;rw[cg]at cb q z r0 o0 hv;obtain⟨gt,c3⟩:∃t,L[2*i+1]=t:=⟨_,rfl⟩;rw[c3]at q r1 o1 hv;obtain⟨ka,kc,rfl⟩:=r0.Ab;obtain⟨ga,gc,rfl⟩:=r1.Ab;refine ON ?_;intro hcs;subst hcs;refine Qca ?_;intro hra;have a3:=Mo _ kt (.slice ka kt.l.length kc) A (hG.same ce) o0 r0 cb;obtain⟨⟨rs,rb⟩,hq⟩:∃r,Xe kt=r:=⟨_,rfl⟩;rw[hq]at a3 q z;simp only at a3 q z;obtain⟨k0,k1,k2,k3,k4,k5,k6,k7,k8⟩:=Z0 (Dg hra);replace q:=Qc q;replace z:=Qc z;clear hv cg c3 hq hb3 ab c1 c2 c6 c7 a9;gi_wp2_with fail;refine(Qr a3).mono ?_;rintro e A2 ⟨rfl,u⟩;have b4:=u.s b5;have a6:=u.s b0;have cf:=Qy u hra;have y0:=Ys b4;clear k0 k1 k2 k3 k4 k5 k6 k7 k8 hra;by_cases a4:rs=s.key
  ·have d4:=Qc (q.out a4);have cc:=a4;obtain⟨f0,dd⟩:=s;simp only at a4;subst a4;obtain⟨g0,g1,g2,g3,g4,g5,g6,g7,g8⟩:=Z0 (LI cf);have z0:=Qi a6;have fa:=Jd a6;clear cc q z;gi_wp2;obtain⟨h9,m⟩:=Yw a6 gt.hd (.slice ga gt.l.length gc);refine⟨⟨m.os.trans u.os,m.tape.trans u.tape,m.output.trans u.output,Qj u.size m.size,fun b o ho hs=>m.same b o (u.same b o ho trivial) fun e=>?_⟩,rfl,gt,d4.out,.slice ga gt.l.length gc,h9,o1,(r1.same u).Af m fun b hb _ _=>hb.2.2⟩;subst e;rw[b0]at ho;cases ho;exact hs rfl _ _ _ rfl
  ·have f7:(rs.toList==s.key.toList)=false:=X6.2 fun h=>a4 (by rw[SO,SO]at h;exact E6 (oU.1 h))
   have d3:=Qc (z.out a4);clear a4 q z;gi_wp2;exact⟨Ac.of_same u,d3.out,b4,a6,ac.trans (Ac.of_same u)⟩
 case hdone=>
  rintro D w4 hD ⟨h1,h2,h3,h4⟩ _ hk b8;have aa:=Te L s.key fun j hj=>h1 j hj oM
  have a1:=E1.out;rw[aa]at a1;have HR:=Qc a1;have a7:Qd w w4:=C1 a2 h4 fun b _ hb=>by have:=a2.size;omega
  have a0:=h4.same _ _ c2 (Ku c2);clear h1 aa a1 ab c1 c2 c6 c7 hk;have n0:=Qi h3;have y0:=Qi a0;have d7:=Jd a0;gi_wp2
  (try simp only[Exit.noGoto]);obtain⟨h9,m⟩:=Yw a0 h (.slice a n d);generalize World.setCell (World.setCell (World.setCell _ _ _) _ _) _ (.slice a n d)=w9 at h9 m|-;have dc:W1.heap.size<=D:=hD;have hDB9:=m.same _ _ b8 oM;have af:=Xt a7 m oM;have bd:=(((d1.mono fun b hb h=>(⟨h,oM⟩:S b/\b≠w.heap.size+1+1)).same a7).Af m fun b hb _ _=>hb.2).mono (S':=S) fun b _ hb=>hb.1
  refine GX ?_;have ag:Ac (fun _ o=>o.isCells=true) w9 (w9.putObj D (.deferred none)):=(Ac.refl _ w9).putObj _ fun o ho hs _=>by
   rw[hDB9]at ho;cases ho;cases hs
  refine⟨_,rcK rfl rfl (ag.same _ _ h9 rfl),.slice a n d,?_,?_,?_,af.putObj _ fun o _ _ h=>by have:=a2.size;omega⟩
  ·rw[HR.out,HH.out]
  ·rw[HR.out];exact bd.Af ag fun _ _ _ _=>rfl
  ·rw[HR.out];exact ho
 case hstop=>
  rintro D i cd w4 hD hi ⟨rfl,y,ylv,c8,h3,d9,b7⟩ _ hk b8;have a1:=E1.out;rw[c8]at a1;have HR:=Qc a1;have a7:Qd w w4:=Ho a2 hk fun b o hb=>⟨by subst a5;intro e;have:=Qg hb;omega,trivial⟩
  have a0:=hk.same _ _ c2 ⟨by subst a5;intro e;omega,trivial⟩;obtain⟨ya,yc,rfl⟩:=b7.Ab;obtain⟨yn,b9⟩:∃n,y.l.length=n:=⟨_,rfl⟩;obtain⟨yh,b1⟩:∃n,y.hd=n:=⟨_,rfl⟩;rw[b9]at h3 b7;rw[b1]at h3;replace b9:=Qc b9;replace b1:=Qc b1;clear a1 ab c1 c2 c6 c7 hk c8;have n0:=Qi h3;have y0:=Qi a0;have d7:=Jd a0;gi_wp2
  (try simp only[Exit.noGoto]);obtain⟨h9,m⟩:=Yw a0 yh (.slice ya yn yc);generalize World.setCell (World.setCell (World.setCell _ _ _) _ _) _ (.slice ya yn yc)=w9 at h9 m|-;have dc:W1.heap.size<=D:=hD;have hDB9:=m.same _ _ b8 oM;have af:=Xt a7 m oM;have bd:=(b7.Af m fun b hb _ _=>hb.2.1).mono (S':=S) fun b _ hb=>hb.1
  refine GX ?_;have ag:Ac (fun _ o=>o.isCells=true) w9 (w9.putObj D (.deferred none)):=(Ac.refl _ w9).putObj _ fun o ho hs _=>by
   rw[hDB9]at ho;cases ho;cases hs
  refine⟨_,rcK rfl rfl (ag.same _ _ h9 rfl),.slice ya yn yc,?_,?_,?_,af.putObj _ fun o _ _ h=>by have:=a2.size;omega⟩
  ·rw[HR.out,b1.out]
  ·rw[HR.out];exact bd.Af ag fun _ _ _ _=>rfl
  ·rw[HR.out];exact d9
def vN{N:Nat}{E:Am}(S:Qz)(t:Aa)(s:Aj)(lv:Q0)(w:Qm)(hG:Ah N E w)(hN:N<=w.heap.size)(ho:t.hd.ok)(hr:Ad S w t.l lv)(hs:∀x∈t.flat,Xc x=true)(hS:∀k,w.heap.size<=k->S k)
  (hp:(Q3 t).hd.kind=7->0<=s.index/\s.index.toNat< (Q3 t).l.length)(hd:∀x∈(Q3 t).l,x.depth<=1000000):Calls prog 36 #[Qu t.hd lv,Yp s] w (J1 S (Kq t s) w):=by
 by_cases j:(Q3 t).hd.kind=7
 ·exact fY S t s lv w hG hN ho hr hs hS j (hp j).1 (hp j).2
 ·exact vM S t s lv w hG hN ho hr hs hS j hd
def Nr(l:Qp)(j:Nat):Qo:=(Rr (Xp l (2*j))).1
def ltI(a b:Qo):Bool:=Op.bytesLess a.toList b.toList
def CU(l:Qp):Bool:=(List.range (l.length/2)).all fun j=>decide (j=0)||ltI (Nr l (j-1)) (Nr l j)
def NC{l:Qp}{i:Nat}(hi:i<l.length/2)(h0:i≠0)(h:ltI (Nr l (i-1)) (Nr l i)=false):CU l=false:=by
 unfold CU;rw[List.all_eq_false];exact⟨i,Vw.2 hi,by simp[h0,h]⟩
def fZ{l:Qp}(h:∀j,1<=j->j<l.length/2->ltI (Nr l (j-1)) (Nr l j)=true):CU l=true:=by
 unfold CU;rw[Vf];intro j q;by_cases v:j=0
 ·simp[v]
 ·rw[h j oM (Vw.1 q)];simp
def AR(l:Qp)(s i:Nat)(A:Qm):Prop:=
 if i=0 then A.heap[s]? =some (.cells #[.pointer none] 196 (0,0))
 else∃(kb:Nat) (cs:Array Q0),A.heap[s]? =some (.cells #[.pointer (some ⟨kb,0,none⟩)] 196 (0,0))/\A.heap[kb]? =some (.cells cs 202 (0,0))/\cs[9]? =some (.string (Nr l (i-1)))
def AR.Af{K:Nat->Obj->Prop}{l:Qp}{s i:Nat}{A B:Qm}(h:AR l s i A)(hk:Ac K A B)(hK:∀b o,(∃c f,o=.cells c 196 f)∨(∃c f,o=.cells c 202 f)->K b o):AR l s i B:=by
 unfold AR at h|-;split
 ·rename_i j;rw[Qe j]at h;exact hk.same _ _ h (hK _ _ (.inl ⟨_,_,rfl⟩))
 ·rename_i j;rw[Qa j]at h;obtain⟨z,cs,v,y,q⟩:=h;exact⟨z,cs,hk.same _ _ v (hK _ _ (.inl ⟨_,_,rfl⟩)),hk.same _ _ y (hK _ _ (.inr ⟨_,_,rfl⟩)),q⟩
def AR.same{l:Qp}{s i:Nat}{A B:Qm}(h:AR l s i A)(hk:Qd A B):AR l s i B:=h.Af hk fun _ _ _=>trivial
def Qc3{P:Prop}(h:P:=by
 gi_wp2
 (try simp only[Exit.noGoto]);refine⟨sM,.inl ⟨_,_,rfl,Vx (w:=w4) hDB,?_⟩⟩;exact⟨_,Gn rfl _ _ _,by rw[HR.out];rfl,h5.putObj _ fun o _ _ h=>oM⟩):P:=h
def vO{N:Nat}{E:Am}(S:Qz)(l:Qp)(lv:Q0)(w:Qm)(hG:Ah N E w)(hN:N<=w.heap.size)(hr:Ad S w l lv)(hev:l.length % 2=0)(hl:l.length<=1000000)(hd:∀x∈l,x.depth<=1000000):
  Calls prog 115 #[lv] w fun e w'=>e=.returned (.bool (CU l))/\Qd w w':=by
 obtain⟨a,a9,rfl⟩:=hr.Ab
 generalize hn:l.length=n at hr hev hl|-
 have HN:=Qc hn
 refine(J5 (n:=0)).1 (Vy func115 rfl trivial ?_ rfl)
 simp only[ntmps115]
 refine Ie ?_
 gi_wp2_with fail
 refine Jy ?_
 gi_wp2_with fail
 refine Ez ?_
 gi_wp2_with(gi_at_call 195;refine(Qr (mT _ _ _ _ _)).mono ?_;rintro e w2 ⟨rfl,h9⟩;replace h9:=h9.symm;subst h9)
 generalize a2:World.alloc _ (.cells #[.int .i64 2] 3)=W1
 have ch:W1.heap.size=w.heap.size+4:=by rw[<-a2];simp
 have b5:Qd w W1:=by rw[<-a2];exact Xd
 have b0:W1.heap[w.heap.size]? =some (.cells #[.pointer none] 196 (0,0)):=by rw[<-a2];exact Qb (Qb (Qb (Qt w _)))
 have b1:W1.heap[w.heap.size+1]? =some (.cells #[.bool true] 4 (0,0)):=by rw[<-a2];exact Qb (Qb (Ql sM))
 have b2:Boxed W1 (w.heap.size+1+1) 25 (.slice a n a9):=by rw[<-a2];exact Qb (Ql sM)
 have b3:Boxed W1 (w.heap.size+1+1+1) 3 (.int .i64 2):=by rw[<-a2];exact Ql sM
 clear a2
 obtain⟨Sb,a3⟩:∃Sb:Nat->Obj->Prop,Sb=fun b o=>(b=w.heap.size->∀c f,o≠ .cells c 196 f)/\(b=w.heap.size+1->∀c f,o≠ .cells c 4 f):=⟨_,rfl⟩
 refine Jt (gf:=255) (lb:=#[.pointer (some ⟨w.heap.size+1+1,0,none⟩),.pointer (some ⟨w.heap.size+1+1+1,0,none⟩)])
  rfl (X3 func255 kM rfl) (l.length/2) (Qc1 S l)
  Sb (fun b o=>b≠w.heap.size+1+1∨∀c f,o≠ .cells c 25 f) (fun _=>True) (fun _ _=>True) ?hit ?hSb (fun _ _ _ _ ho=>.inr fun c f e=>by subst e;cases ho)
  (fun i A=>AR l w.heap.size i A/\A.heap[w.heap.size+1]? =some (.cells #[.bool true] 4 (0,0))/\(∀j,1<=j->j<i->ltI (Nr l (j-1)) (Nr l j)=true)/\w.heap.size+4<=A.heap.size/\Qd w A)
  (fun i c A=>c=.exit 0/\A.heap[w.heap.size+1]? =some (.cells #[.bool false] 4 (0,0))/\CU l=false/\w.heap.size+4<=A.heap.size/\Qd w A) ?hI ?hIx ?hE (fun _ _ _ _=>trivial) (fun _ _ _ _ _=>trivial) ?hEs ⟨b0,b1,fun j h1 h2=>oM,oM,b5⟩
  (fun i v a' A=>∃sl,v=#[sl]/\a'={tmps:=#[.slice a n a9,undef,.bool false,.pointer (some ⟨w.heap.size,0,none⟩),.pointer (some ⟨w.heap.size+1,0,none⟩),sl,undef,undef,.slice a n a9,.func (.func 255) #[] #[.pointer (some ⟨w.heap.size+1+1,0,none⟩),.pointer (some ⟨w.heap.size+1+1+1,0,none⟩)],sl,undef,undef,undef,undef,undef,undef,undef,undef,undef,undef,undef,undef,undef,undef,undef,undef,undef,undef,undef,undef,undef,undef,undef,undef],defers:=[]}) ?hAx ?hassign ?hbody ?hdone ?hstop
 case hit=>
  intro W2 t ba;have b9:=(hr.same b5).same t;have hn:=HN.out;subst a3;rw[<-hn]at b9;exact NB S l _ (w.heap.size+1+1) (w.heap.size+1+1+1) _ (fun b o=>b≠w.heap.size+1+1∨∀c f,o≠ .cells c 25 f) W2 b9 (by rw[hn];exact hev) (t.boxed (by rw[hn];exact b2) trivial) (t.boxed b3 trivial) (fun c f=>⟨fun h=>oM,fun h=>oM⟩) (fun c f=>⟨fun h=>oM,fun h=>oM⟩) (fun k c f=>⟨fun _ c2 f2 e=>by injection e with _ e _;exact absurd e dM,fun _ c2 f2 e=>by injection e with _ e _;exact absurd e dM⟩) (fun b o h=>h)
 case hSb=>subst a3;exact fun k o hk ho=>⟨fun _ c f e=>(by subst e;cases ho),fun _ c f e=>(by subst e;cases ho)⟩
 case hI=>
  rintro i A B ⟨h1,h2,h3,h4,h5⟩ hk;exact⟨h1.Af hk fun b o ho=>⟨.inr (by rcases ho with⟨c,f,rfl⟩| ⟨c,f,rfl⟩<;>rfl),.inr fun c f e=>by rcases ho with⟨c2,f2,rfl⟩| ⟨c2,f2,rfl⟩<;>(injection e with _ e _;exact absurd e dM)⟩,hk.same _ _ h2 ⟨.inr rfl,.inl oM⟩,h3,Qj h4 hk.size,(Ho h5 hk fun b o hb=>⟨.inl (Ku hb),.inl (Ku hb)⟩)⟩
 case hIx=>
  rintro i c A B ⟨h1,h2,h3,h4,h5⟩ hk;exact⟨h1,hk.same _ _ h2 ⟨.inr rfl,.inl oM⟩,h3,Qj h4 hk.size,(Ho h5 hk fun b o hb=>⟨.inl (Ku hb),.inl (Ku hb)⟩)⟩
 case hE=>
  rintro i v A B ⟨h0,h1,b,o,lv,mv,e,hSb,⟨b6,f,hb⟩,ra,rb,r0,r1,o0,o1⟩ hk;have hK:∀q,A.heap[b]? =some q->b<W1.heap.size∨q.isCells=true:=fun q hq=>by rw[hb]at hq;cases hq;exact .inr rfl
  exact⟨h0,h1,b,o,lv,mv,e,hSb,⟨b6,f,hk.same _ _ hb (.inr rfl)⟩,Zd hk hK ra,Zd hk hK rb,r0.Af hk fun _ _ _ _=>.inr rfl,r1.Af hk fun _ _ _ _=>.inr rfl,o0,o1⟩
 case hEs=>
  rintro i v A ⟨h0,h1,b,o,lv,mv,e,_⟩;rw[e];rfl
 case hAx=>exact fun i v a' A B h hk=>h
 case hassign=>
  rintro lp i v A K hi hI b7 hK;have ca:=b7;obtain⟨h0,h1,b,o,lv,mv,rfl,_⟩:=b7;gi_wp2;exact hK _ _ (Ac.refl _ _) hI ca ⟨_,rfl,rfl⟩
 case hbody=>
  rintro lp i v a' A d0 ⟨rr,cf⟩ bd ⟨bc,ag,be,cg,aa⟩ ⟨h0,h1,b,o,c9,ce,hv,hSb,⟨b6,f,hb⟩,ra,rb,r0,r1,o0,o1⟩ ⟨sl,ad,rfl⟩;rw[hv]at ad;have bf:sl=.slice (some ⟨b,o,none⟩) 2 2:=by
   have:=congrArg (fun x:Array Q0=>x[0]?) ad;simpa using this.symm
  subst bf;have p:=GZ l[2*i] c9 A (hG.same aa) oM o0 (r0.mono fun _ _ _=>trivial) (hd _ (Zp h0));have hit:(Rr l[2*i]).1=Nr l i:=by unfold Nr;rw[J7 h0]
  obtain⟨⟨it,ie⟩,hq⟩:∃r,Rr l[2*i]=r:=⟨_,rfl⟩;rw[hq]at p hit;simp only at p hit;generalize l[2*i]=kt at ra r0 o0 p;obtain⟨ka,kc,rfl⟩:=r0.Ab;generalize bb:kt.l.length=kn at ra p;obtain⟨c0,c1,c2,c3,c4,c5,c6,c7,c8⟩:=Z0 ra;replace hit:=Qc hit;clear hv ad hq hr b0 b1 b2 b3 bb r0 r1 rb;gi_wp2_with fail;refine(Qr p).mono ?_;rintro e y ⟨rfl,t⟩;have cb:=Qy t ra;have a4:=t.s ag;have z:=bc.same t;clear c0 c1 c2 c3 c4 c5 c6 c7 c8 p;obtain⟨c0,c1,c2,c3,c4,c5,c6,c7,c8⟩:=Z0 cb;have f0:=Q4 a4;have cc:=Jd a4;have ba:=t.size;have a7:∀x,y.heap[w.heap.size]? =some (.cells #[x] 196 (0,0))->Ac Sb A ((y.alloc (.cells #[.int .i64 kt.hd.kind,.bool kt.hd.b,.bool kt.hd.d.neg,.string kt.hd.d.digits,.int .i64 kt.hd.d.exp,.int .u64 (kt.hd.u:Int),.int .i64 kt.hd.w,.string kt.hd.s,.slice ka kn kc,.string it] 202)).setCell ⟨w.heap.size,0,none⟩ (.pointer (some ⟨y.heap.size,0,none⟩)))/\AR l w.heap.size (i+1) ((y.alloc (.cells #[.int .i64 kt.hd.kind,.bool kt.hd.b,.bool kt.hd.d.neg,.string kt.hd.d.digits,.int .i64 kt.hd.d.exp,.int .u64 (kt.hd.u:Int),.int .i64 kt.hd.w,.string kt.hd.s,.slice ka kn kc,.string it] 202)).setCell ⟨w.heap.size,0,none⟩ (.pointer (some ⟨y.heap.size,0,none⟩)))/\
    ((y.alloc (.cells #[.int .i64 kt.hd.kind,.bool kt.hd.b,.bool kt.hd.d.neg,.string kt.hd.d.digits,.int .i64 kt.hd.d.exp,.int .u64 (kt.hd.u:Int),.int .i64 kt.hd.w,.string kt.hd.s,.slice ka kn kc,.string it] 202)).setCell ⟨w.heap.size,0,none⟩ (.pointer (some ⟨y.heap.size,0,none⟩))).heap[w.heap.size+1]? =some (.cells #[.bool true] 4 (0,0))/\w.heap.size+4<=((y.alloc (.cells #[.int .i64 kt.hd.kind,.bool kt.hd.b,.bool kt.hd.d.neg,.string kt.hd.d.digits,.int .i64 kt.hd.d.exp,.int .u64 (kt.hd.u:Int),.int .i64 kt.hd.w,.string kt.hd.s,.slice ka kn kc,.string it] 202)).setCell ⟨w.heap.size,0,none⟩ (.pointer (some ⟨y.heap.size,0,none⟩))).heap.size/\Qd w ((y.alloc (.cells #[.int .i64 kt.hd.kind,.bool kt.hd.b,.bool kt.hd.d.neg,.string kt.hd.d.digits,.int .i64 kt.hd.d.exp,.int .u64 (kt.hd.u:Int),.int .i64 kt.hd.w,.string kt.hd.s,.slice ka kn kc,.string it] 202)).setCell ⟨w.heap.size,0,none⟩ (.pointer (some ⟨y.heap.size,0,none⟩))):=by
   intro x hx
   have a8:=LW y (.cells #[.int .i64 kt.hd.kind,.bool kt.hd.b,.bool kt.hd.d.neg,.string kt.hd.d.digits,.int .i64 kt.hd.d.exp,.int .u64 (kt.hd.u:Int),.int .i64 kt.hd.w,.string kt.hd.s,.slice ka kn kc,.string it] 202)
   have ah:=Qt y (.cells #[.int .i64 kt.hd.kind,.bool kt.hd.b,.bool kt.hd.d.neg,.string kt.hd.d.digits,.int .i64 kt.hd.d.exp,.int .u64 (kt.hd.u:Int),.int .i64 kt.hd.w,.string kt.hd.s,.slice ka kn kc,.string it] 202)
   generalize(y.alloc (.cells #[.int .i64 kt.hd.kind,.bool kt.hd.b,.bool kt.hd.d.neg,.string kt.hd.d.digits,.int .i64 kt.hd.d.exp,.int .u64 (kt.hd.u:Int),.int .i64 kt.hd.w,.string kt.hd.s,.slice ka kn kc,.string it] 202))=A3 at a8 ah|-
   have b4:=a8.s hx
   have m:Ac (fun b _=>b≠w.heap.size) A3 (A3.setCell ⟨w.heap.size,0,none⟩ (.pointer (some ⟨y.heap.size,0,none⟩))):=(Ac.refl _ A3).setCell _ fun o _ hs _=>hs rfl
   have h9:=Qk b4 0 (.pointer (some ⟨y.heap.size,0,none⟩))
   have af:Qd A A3:=t.trans a8
   refine⟨(Ac.of_same af).setCell _ fun o ho ae _=>?_,?_,m.same _ _ (af.s ag) oM,by have:=m.size;have:=a8.size;omega,Xt (aa.trans af) m oM⟩
   ·subst a3;have a5:A3.heap[w.heap.size]? =some o:=ho;rw[b4]at a5;cases a5;exact ae.1 rfl _ _ rfl
   ·unfold AR;rw[Qa oM];refine⟨y.heap.size,_,h9,m.same _ _ ah oM,?_⟩;rw[YT,<-hit.out];rfl
  by_cases a1:i=0
  ·unfold AR at z;rw[Qe a1]at z;have e0:=Q4 z;have e1:∀x,(y.alloc x).cell? ⟨w.heap.size,0,none⟩=some (.pointer none):=fun x=>X9 e0 x
   have bh:∀x j,(y.alloc x).frozen? ⟨w.heap.size,j,none⟩=false:=fun x=>Je (Qb z)
   obtain⟨f1,f2,f3,f4,f5⟩:=a7 _ z;have bg:=Qc a1;clear a1 a7;gi_wp2;exact⟨f1,f2,f3,fun j h1 h2=>by have:=bg.out;omega,f4,f5⟩
  ·unfold AR at z;rw[Qa a1]at z;obtain⟨kb,cs,ac,b8,ab⟩:=z;obtain⟨f1,f2,f3,f4,f5⟩:=a7 _ ac;obtain⟨pv,a6⟩:∃x,Nr l (i-1)=x:=⟨_,rfl⟩;rw[a6]at ab;have e0:=Q4 ac;have e1:∀x,(y.alloc x).cell? ⟨w.heap.size,0,none⟩=some (.pointer (some ⟨kb,0,none⟩)):=fun x=>X9 e0 x
   have e9:y.cell? ⟨kb,9,none⟩=some (.string pv):=by rw[Vj _ _ _ _ _ _ b8];exact ab
   have bh:∀x j,(y.alloc x).frozen? ⟨w.heap.size,j,none⟩=false:=fun x=>Je (Qb ac)
   replace a1:=Qc a1;replace a6:=Qc a6;clear b8 ab a7;obtain⟨r,hr⟩:=X0 (Op.bytesLess pv.toList it.toList);have HR:=Qc hr;cases r with
   |true=>
    gi_wp2;refine⟨f1,f2,f3,fun j h1 h2=>?_,f4,f5⟩;by_cases e:j=i
    ·subst e;unfold ltI;rw[a6.out,<-hit.out];exact HR.out
    ·exact be j h1 oM
   |false=>
    gi_wp2;have m:Ac (fun b _=>b≠w.heap.size+1) y (y.setCell ⟨w.heap.size+1,0,none⟩ (.bool false)):=(Ac.refl _ y).setCell _ fun o _ hs _=>hs rfl
    refine⟨(Ac.of_same t).setCell _ fun o ho ae _=>?_,rfl,Qk a4 0 _,NC bd a1.out (by unfold ltI;rw[a6.out,<-hit.out];exact HR.out),by have:=m.size;omega,Xt (aa.trans t) m oM⟩;subst a3;have a5:y.heap[w.heap.size+1]? =some o:=ho;rw[a4]at a5;cases a5;exact ae.2 rfl _ _ rfl
 case hdone=>
  rintro D w4 hD ⟨_,h2,h3,h4,h5⟩ _ hk hDB;have a0:=fZ (l:=l) fun j h1 h2=>h3 j h1 h2
  have HR:=Qc a0;have f0:=Q4 h2;clear h3 a0 hr b0 b1 b2 b3;exact Qc3
 case hstop=>
  rintro D i cd w4 hD hi ⟨rfl,h2,a0,h4,h5⟩ _ hk hDB;have HR:=Qc a0;have f0:=Q4 h2;clear a0 hr b0 b1 b2 b3;exact Qc3
def V8(t:Aa):Bool:=t.flat.all fun x=>decide (x.hd.kind≠8)||CU x.l
def VF(p:Aa->Bool):∀l:Qp,(Re l).all p=l.all fun x=>x.flat.all p
 | []=>by simp[Re]
 |x::l=>by rw[Re,List.all_append,VF p l,Il]
def ND(h:Hd)(l:Qp):V8 (.node h l)=((decide (h.kind≠8)||CU l)&&l.all V8):=by
 unfold V8;rw[Aa.flat,Il,VF];rfl
def ET(N:Nat)(E:Am)(x:Aa):Prop:=
 ∀(S:Qz) (lv:Q0) (w:Qm),Ah N E w->N<=w.heap.size->x.hd.ok->Ad S w x.l lv->Calls prog 65 #[Qu x.hd lv] w fun e w'=>e=.returned (.bool (V8 x))/\Qd w w'
def gB{N:Nat}{E:Am}(x:Aa)(hx:ET N E x)(S:Qz)(lv:Q0)(w:Qm)(hG:Ah N E w)(hN:N<=w.heap.size)(ho:x.hd.ok)(hr:Ad S w x.l lv):
  Calls prog 117 #[Qu x.hd lv] w fun e w'=>e=.returned (.bool (!V8 x))/\Qd w w':=by
 obtain⟨a,v,rfl⟩:=hr.Ab
 have j:=fun W (hk:Qd w W)=>hx S (.slice a x.l.length v) W (hG.same hk) (Qj hN hk.size) ho (hr.same hk)
 refine PV ?_
 intro n hn h hh
 obtain⟨r,q⟩:=X0 (V8 x)
 rw[hn,hh,q]at j
 rw[hn,hh,q]
 clear hr hn hh q ho hx
 go_in
 go_wp2_with(go_at_call 65;refine(j _ Xd).mono ?_;rintro e w' ⟨rfl,y⟩)
 exact Md
def XZ{N:Nat}{E:Am}(S:Qz)(l:Qp)(ih:∀x∈l,ET N E x)(lv:Q0)(w:Qm)(hG:Ah N E w)(hN:N<=w.heap.size)(hr:Ad S w l lv)(hlen:l.length<=1000000):
  Calls prog 197 #[lv,.func (.func 117) #[] #[]] w fun e w'=>(∃r:Int,e=.returned (.int .i64 r)/\decide (0<=r)=l.any fun x=> !V8 x)/\Qd w w':=by
 obtain⟨_,a,a7,rfl,a1,z⟩:=hr.shape
 generalize hn:l.length=n at hlen a1|-
 go_in
 go_wp2
 go_loopw [8] (fun i wr=>∃k:Nat,k<=n/\i=i6 k/\(l.take k).any (fun x=> !V8 x)=false/\Qd w wr) (fun i _=>n-(RowKit.intOf i).toNat)
 case atStart=>exact⟨0,Xi _,rfl,rfl,Ac.refl _ _⟩
 case round=>
  obtain⟨k,aa,rfl,hs,y⟩:=hrel;replace hs:=Qc hs;by_cases a6:k<n
  ·have m:k<l.length:=oM;obtain⟨b,a8,a5,rfl,ab,⟨a9,f,a0⟩,u,c,p⟩:=z k m;have v:=Qy y p;have q:=JI (fun x=> !V8 x) l k m;have j:=fun W (hw:Qd w W)=>gB l[k] (ih _ (Zp m)) S a5 W (hG.same hw) (Qj hN hw.size) c (u.same hw)
   have Hm:l[k]∈l:=Zp m;generalize hx:l[k]=x at q j v Hm u;rw[hs.out]at q;obtain⟨xa,xc,rfl⟩:=u.Ab;obtain⟨xn,a2⟩:∃n,x.l.length=n:=⟨_,rfl⟩;obtain⟨xh,a3⟩:∃h,x.hd=h:=⟨_,rfl⟩;rw[a2,a3]at j v;obtain⟨r,d⟩:=X0 (!V8 x);simp only[d]at q j;have HA:=Qc q;have HR:=Qc d;have c0:=Rv v;clear d q p v hx a2 a3 u c a0 z hr ih;cases r with
   |true=>
    have a4:(l.any fun x=> !V8 x)=true:=FV.2 ⟨_,Hm,HR.out⟩;go_wp2_with fail;refine(j _ y).mono ?_;rintro e w' ⟨rfl,t⟩;go_wp2;go_ret;exact⟨⟨_,rfl,by rw[a4];simp⟩,y.trans t⟩
   |false=>
    go_wp2_with fail;refine(j _ y).mono ?_;rintro e w' ⟨rfl,t⟩;go_wp2;exact⟨⟨k+1,oM,by go_num,by rw[HA.out];rfl,y.trans t⟩,by simp[RowKit.intOf];omega⟩
  ·obtain rfl:k=n:=oM;replace hn:=Qc hn;clear z hr ih;go_wp2;go_ret
   have:=hs.out;rw[<-hn.out,Vc]at this;exact⟨⟨_,rfl,by rw[this];rfl⟩,y⟩
def Sd{N:Nat}{E:Am}(S:Qz)(l:Qp)(ih:∀x∈l,ET N E x)(lv:Q0)(w:Qm)(hG:Ah N E w)(hN:N<=w.heap.size)(hr:Ad S w l lv)(hlen:l.length<=1000000):
  Calls prog 116 #[lv,.func (.func 117) #[] #[]] w fun e w'=>e=.returned (.bool (l.any fun x=> !V8 x))/\Qd w w':=by
 obtain⟨a,q,v⟩:=hr.Ab
 subst v
 go_in
 go_wp2_with(go_at_call 197;refine(XZ S l ih _ _ hG hN hr hlen).mono ?_;rintro e w' ⟨⟨r,rfl,hr⟩,j⟩)
 go_ret
 exact⟨by simp[<-hr],j⟩
def gC{N:Nat}{E:Am}(h:Hd)(l:Qp)(ih:∀x∈l,ET N E x)(hev:h.kind=8->l.length % 2=0)(hlen:l.length<=1000000)(hd:∀x∈l,x.depth<=1000000):ET N E (.node h l):=by
 intro S lv w hG hN ho b;simp only[Aa.Ae,Aa.Ag]at ho b|-;rw[ND];have y:=fun W (hk:Qd w W)=>Sd S l ih lv W (hG.same hk) (Qj hN hk.size) (b.same hk) hlen
 have v:=fun(h8:h.kind=8) (W:Qm) (hk:Qd w W)=>vO S l lv W (hG.same hk) (Qj hN hk.size) (b.same hk) (hev h8) hlen hd
 have m:(l.all V8)= !(l.any fun x=> !V8 x):=by
  rw[List.not_any_eq_all_not];simp
 rw[m];obtain⟨q,r⟩:=X0 (l.any fun x=> !V8 x);rw[r]at y|-;obtain⟨p,hp⟩:=X0 (CU l);simp only[hp]at v|-;obtain⟨a,a0,rfl⟩:=b.Ab;obtain⟨n,hn⟩:=X0 l.length;simp only[hn]at y v|-;clear r hp hn b ih m hd ho hev;by_cases h8:h.kind=8
 ·have z:=v h8;have f:(h.kind==8)=true:=by simp[h8]
  have j:((decide (h.kind≠8)||p)&& !q)=(p&& !q):=by simp[h8]
  rw[j];clear v h8 j;cases p with
  |true=>
   go_in;go_wp2_with(first| (go_at_call 115;refine(z _ Xd).mono ?_;rintro e t ⟨rfl,c⟩;have u:Qd w t:=Xd;have k:=c.s (Qt w _);have n0:=Qi k)| (go_at_call 116;refine(y _ (by first|assumption|exact Xd)).mono ?_;rintro e w2 ⟨rfl,d⟩));go_ret;exact⟨sM,u.trans d⟩
  |false=>
   go_in;go_wp2_with(go_at_call 115;refine(z _ Xd).mono ?_;rintro e t ⟨rfl,c⟩;have u:Qd w t:=Xd);go_ret;exact⟨sM,u⟩
 ·have f:(h.kind==8)=false:=by simp[h8]
  have j:((decide (h.kind≠8)||p)&& !q)= !q:=by simp[h8]
  rw[j];clear v h8 j;go_in;go_wp2_with(go_at_call 116;refine(y _ Xd).mono ?_;rintro e w2 ⟨rfl,d⟩);exact Md
def gE{N:Nat}{E:Am}:∀t:Aa,(∀x∈t.flat,x.hd.kind=8->x.l.length % 2=0)->(∀x∈t.flat,x.l.length<=1000000)->t.depth<=1000000->ET N E t:=by
 refine Aa.ind fun h l z q j hd=>?_
 rw[Aa.depth]at hd;exact gC h l (fun x hx=>z x hx (fun y v=>q y (K4 h l x hx y v)) (fun y v=>j y (K4 h l x hx y v)) (by have:=K8 hx;omega)) (q _ (Z8 _)) (j _ (Z8 _)) fun x hx=>by have:=K8 hx;omega
def QP:∀(l:Qp) (i:Qv),(Gd l (some i)=true↔(0<l.length/2->i<Rm (Xp l 0).hd)/\∀j,1<=j->j<l.length/2->Rm (Xp l (2*(j-1))).hd<Rm (Xp l (2*j)).hd)
 |k::x::l,i=>by
  rw[Gd,X1,Zz,QP l (Rm k.hd)];have hlen:(k::x::l).length/2=l.length/2+1:=by simp only[Xf];omega
  have q:∀m,Xp (k::x::l) (m+2)=Xp l m:=fun m=>by rw[Dm,Dm]
  rw[hlen];constructor
  ·rintro⟨z,v,u⟩;refine⟨fun _=>z,fun j y n=>?_⟩;by_cases e:j=1
   ·subst e;exact v oM
   ·have:=u (j-1) oM oM;rw[<-q (2*(j-1-1)),<-q (2*(j-1)),show 2*(j-1-1)+2=2*(j-1) by omega,show 2*(j-1)+2=2*j by omega]at this;exact this
  ·rintro⟨z,v⟩;refine⟨z oM,fun b=>?_,fun j y n=>?_⟩
   ·have:=v 1 oM oM;exact this
   ·have:=v (j+1) oM oM;rw[show 2*(j+1-1)=2*(j-1)+2 by omega,show 2*(j+1)=2*j+2 by omega,q,q]at this;exact this
 | [],i=>by simp[Gd]
 | [x],i=>by simp[Gd]
def mU:∀(l:Qp),(Gd l none=true↔∀j,1<=j->j<l.length/2->Rm (Xp l (2*(j-1))).hd<Rm (Xp l (2*j)).hd)
 |k::x::l=>by
  rw[Gd,QP l (Rm k.hd)];have hlen:(k::x::l).length/2=l.length/2+1:=by simp only[Xf];omega
  have q:∀m,Xp (k::x::l) (m+2)=Xp l m:=fun m=>by rw[Dm,Dm]
  rw[hlen];constructor
  ·rintro⟨v,n⟩ j y z;by_cases e:j=1
   ·subst e;exact v oM
   ·have:=n (j-1) oM oM;rw[<-q (2*(j-1-1)),<-q (2*(j-1)),show 2*(j-1-1)+2=2*(j-1) by omega,show 2*(j-1)+2=2*j by omega]at this;exact this
  ·intro v;refine⟨fun u=>?_,fun j y z=>?_⟩
   ·have:=v 1 oM oM;exact this
   ·have:=v (j+1) oM oM;rw[show 2*(j+1-1)=2*(j-1)+2 by omega,show 2*(j+1)=2*j+2 by omega,q,q]at this;exact this
 | []=>by simp[Gd]
 | [x]=>by simp[Gd]
def Qc4{l:Qp}(h:∀j,j<l.length/2->Q5 (Kl (Xp l (2*j))) 2=0):CU l=Gd l none:=by
 have q:∀j,1<=j->j<l.length/2->ltI (Nr l (j-1)) (Nr l j)=decide (Rm (Xp l (2*(j-1))).hd<Rm (Xp l (2*j)).hd):=fun j z y=>by
  unfold ltI Nr Rr;rw[Qe (h _ oM),Qe (h _ y)];exact JT (OM _) (OM _)
 rw[Sr,mU];unfold CU;rw[Vf];constructor
 ·intro H j z y
  have:=H j (Vw.2 y);rw[q j z y]at this;simpa[show j≠0 by omega] using this
 ·intro H j v;have v:=Vw.1 v;by_cases e:j=0
  ·simp[e]
  ·rw[q j oM v,Kp (H j oM v)];simp
def VG:∀(l:Qp) (j:Nat),2*j+1<l.length->Xp l (2*j)∈Zb l
 |k::x::l,0,_=>by rw[Zb];exact Yr
 |k::x::l,j+1,h=>by
  rw[Zb,show 2*(j+1)=2*j+1+1 by omega,Dm,Dm];exact Kk _ (VG l j (by simp only[Xf]at h;omega))
 | [],j,h=>by simp at h
 | [_],j,h=>by simp at h
def IZ{t:Aa}{h:Hd}(hb:Zr t h=true):t.l=[]:=by
 unfold Zr at hb;rw[X1]at hb;exact List.isEmpty_iff.1 hb.1
def Qc5{k:Aa}(ho:Xc k=true)(hk:Jv 2 k=true):k.l=[]/\Zj 2 k=true:=by
 unfold Jv at hk;by_cases q:k.hd.kind=5
 ·have e:Xc k=(Zr k {Qh 5 with s:=k.hd.s}&&decide (k.hd.s.size<=400)&&Gm k.hd.s):=by unfold Xc;simp only[q];rfl
  rw[e,X1,X1]at ho;exact⟨IZ ho.1.1,by unfold Zj;simp[q]⟩
 ·rw[Qa q,Qa dM]at hk;by_cases j:k.hd.kind=3
  ·rw[Qe j]at hk;have e:Xc k=(Zr k {Qh 3 with d:=k.hd.d}&&Q2 k.hd.d):=by unfold Xc;simp only[j];rfl
   rw[e,X1]at ho;exact⟨IZ ho.1,by unfold Zj;simp[j,hk]⟩
  ·rw[Qa j]at hk;simp only[Y2,Zz]at hk;rcases hk with(v|z)|y
   ·have e:Xc k=(Zr k {Qh 6 with s:=k.hd.s}&&decide (k.hd.s.size<=400)):=by unfold Xc;simp only[v];rfl
    rw[e,X1]at ho;exact⟨IZ ho.1,by unfold Zj;simp[v]⟩
   ·have e:Xc k=Zr k {Qh 2 with b:=k.hd.b}:=by unfold Xc;simp only[z];rfl
    rw[e]at ho;exact⟨IZ ho,by unfold Zj;simp[z]⟩
   ·have e:Xc k=Zr k (Qh 1):=by unfold Xc;simp only[y];rfl
    rw[e]at ho;exact⟨IZ ho,by unfold Zj;simp[y]⟩
def vP{k:Aa}(ho:Xc k=true)(hk:Jv 2 k=true):Q5 (Kl k) 2=0:=by
 obtain⟨m,n⟩:=Qc5 ho hk;obtain⟨h,l⟩:=k;simp only[Aa.Ag]at m;subst m;refine(DH (f:=2) (t:=Kl (.node h [])) (by show 1+(1+0+(1+0+0))<=_;decide)).2 ⟨?_,by show _<=16;exact(by decide:2<=16),by show _<=300;exact(by decide:3<=300)⟩;refine(Kj (fun y=>Xc y=true/\Zj 2 y=true) (Kl (.node h []))).2 ⟨⟨?_,?_⟩,?_⟩
 ·have e:Xc (Kl (.node h []))=(decide (Qh 8=Qh 8)&&decide (2 % 2=0)&& !J8 [.node h []]):=rfl;rw[e,(Nx [Aa.node h []]).2 sM];rfl
 ·have e:Zj 2 (Kl (.node h []))=((Zb [.node h [],.node (Qh 1) []]).all (Jv 2)):=rfl;rw[e,Zb,Zb,Il,hk];rfl
 ·intro y v;have j:∀h:Hd,(Aa.node h []).flat=[.node h []]:=fun h=>by rw[Aa.flat,Re]
  have v:y=.node h []∨y=.node (Qh 1) []:=by
   simpa[Kl] using v
  rcases v with rfl|rfl
  ·intro z q;rw[j,Zm]at q;subst q;exact⟨ho,n⟩
  ·intro z q;rw[j,Zm]at q;subst q;exact LV
def Qc6{t:Aa}(h:Bg 3 t)(h8:t.hd.kind=8):∀j,j<t.l.length/2->Q5 (Kl (Xp t.l (2*j))) 2=0:=by
 intro j u;have n:2*j+1<t.l.length:=oM;have q:=VG t.l j n;have v:=(h.1 t (Z8 t)).2;have m:Jv 3 (Xp t.l (2*j))=true:=by
  unfold Zj at v;simp only[h8]at v;simp at v;exact v _ q
 have z:Jv 2 (Xp t.l (2*j))=true:=by
  unfold Jv at m|-;exact m
 have y:Xp t.l (2*j)∈t.l:=TH q;exact vP (h.1 _ (Hz y)).1 z
def gG{t:Aa}(hc:t.count<=1152921504606846976):Kz t=(decide (Q5 t 3=0)&&V8 t):=by
 unfold Kz;by_cases h:Q5 t 3=0
 ·rw[Kp h,MY,MY];have v:=(DH hc).1 h;unfold V8;rw[Sr,Vf,Vf];have j:∀x∈t.flat,(decide (x.hd.kind≠8)||Gd x.l none)=(decide (x.hd.kind≠8)||CU x.l):=fun x hx=>by
   by_cases q:x.hd.kind=8
   ·rw[Qc4 (Qc6 (v.sub hx) q)]
   ·simp[q]
  exact⟨fun H x hx=>by rw[<-j x hx];exact H x hx,fun H x hx=>by rw[j x hx];exact H x hx⟩
 ·rw[Z4 h];rfl
def ZA{N:Nat}{E:Am}(S:Qz)(t:Aa)(lv:Q0)(w:Qm)(hG:Ah N E w)(hN:N<=w.heap.size)(ho:t.hd.ok)(hr:Ad S w t.l lv)(hd:t.depth<=1000000)(hlen:∀x∈t.flat,x.l.length<=1000000)(hc:t.count<=1152921504606846976):
  Calls prog 33 #[Qu t.hd lv] w fun e w'=>e=.returned (.bool (Kz t))/\Qd w w':=by
 have v:=fun W (hk:Qd w W)=>G8 3 t lv W (hG.same hk) oM ((hr.mono fun _ _ _=>trivial).same hk) ho
 have q:=fun(h0:Q5 t 3=0) (W:Qm) (hk:Qd w W)=>gE t (fun x hx h8=>(O9 ((DH hc).1 h0|>.1 x hx).1 h8).1) hlen hd S lv W (hG.same hk) (Qj hN hk.size) ho (hr.same hk)
 rw[gG hc]
 obtain⟨c,m⟩:=X0 (Q5 t 3)
 rw[m]at v q
 rw[m]
 have y:=fun B C W h1=>Qb3 c B C W h1
 obtain⟨s,hs⟩:=X0 (V8 t)
 rw[hs]at q|-
 obtain⟨a,d,rfl⟩:=hr.Ab
 refine IY ?_
 intro n hn h hh
 rw[hn,hh]at v q
 rw[hn,hh]
 have p:=Qt w (.cells (nR h (.slice a n d)) 27)
 clear hs hn hh hr hlen hc m hd ho
 by_cases h0:c=0
 ·have u:=q h0;rw[Kp h0];rw[Kp h0]at y;subst h0;go_in;go_wp2_with fail;refine(v _ Xd).mono ?_;rintro e k ⟨rfl,b⟩;have j:Qd w k:=Xd;have r:=b.s p;have n0:=Qi (Qb (o:=.cells #[.int .i64 0] 31) r);go_wp2_with(first| (go_at_call 64;refine(y _ _ _ sM).mono ?_;rintro e w' ⟨rfl,z⟩;replace z:=z.symm;subst z)| (go_at_call 65;refine(u _ (by exact j.trans ((Ac.refl _ _).alloc _))).mono ?_;rintro e w3 ⟨rfl,f⟩));go_ret;exact⟨sM,(j.trans ((Ac.refl _ _).alloc _)).trans f⟩
 ·rw[Z4 h0];rw[Z4 h0]at y;go_in;go_wp2_with fail;refine(v _ Xd).mono ?_;rintro e k ⟨rfl,b⟩;have j:Qd w k:=Xd;clear h0 q;go_wp2_with(go_at_call 64;refine(y _ _ _ sM).mono ?_;rintro e w' ⟨rfl,z⟩;replace z:=z.symm;subst z);go_ret;exact⟨sM,j.trans Xd⟩
def La{N:Nat}{E:Am}{t:Aa}{f:Int}(h:Q5 t f=0):∀x∈t.flat,Qgy Ky N E x:=fun x hx j W z v q y=>by
 obtain⟨a,c,rfl⟩:=y.Ab;exact JA x.hd a _ c W v q (Qj (Ot ((Nl h).2.2 x hx).1) dM)
def C2(S:Qz)(r:List (List Aj × Aa) × Int)(w:Qm):Ending->Qm->Prop:=fun e w'=>∃v,e=.returned (.tuple #[v,.int .i64 r.2])/\Au S w' v r.1/\Qd w w'
def Au.nil(S:Qz)(w:Qm):Au S w (.slice none 0 0) []:=⟨[],Aw.nil _ _ _ _,by rw[Ai]⟩
def AG.get{S:Qz}{w:Qm}{qs:List (List Aj)}{a:Jr}{n cap:Nat}(h:AG S w (.slice a n cap) qs)(i:Nat)(hi:i<qs.length):
  ∃b off x,a=some ⟨b,off,none⟩/\S b/\w.rangeAt b (off+i) [x]/\At S w x qs[i]:=by
 obtain⟨xs,⟨h1,h2,p⟩,c⟩:=h
 obtain⟨x,r,m⟩:=c.get i hi
 rcases p with⟨e,h0⟩| ⟨b,off,v,d,f,e,hc,t,z,q⟩
 ·omega
 ·cases e;refine⟨b,off,x,rfl,t,fun j u y=>?_,m⟩;have k:j<1:=(DT.1 y).1;obtain rfl:j=0:=oM;cases y
  have:=q _ _ r;rw[Vj _ _ _ _ _ _ z,Yf];exact this
def Qc7{N:Nat}{E:Am}(S:Qz)(id:Int)(t:Aa)(lv:Q0)(w:Qm)(hG:Ah N E w)(hN:N<=w.heap.size)(ho:t.hd.ok)(hr:Ad S w t.l lv)(hS:∀k,w.heap.size<=k->S k)
  (h40:Zh t)(hdep:t.depth<=900000)(hbad:(Q8 Ky t id).2≠0):Calls prog 12 #[Qu t.hd lv,.int .i64 id] w (C2 S (Gz Ky t id) w):=by
 have d:Gz Ky t id=([],(Q8 Ky t id).2):=by unfold Gz;rw[Qe hbad]
 rw[d]
 have j:=fun W (hk:Qd w W)=>DF DL t id S lv W (hG.same hk) (Qj hN hk.size) oM ho (hr.same hk) (fun k h=>hS k (Qj hk.size h)) h40 (fun h=>La h)
 obtain⟨⟨⟨gh,gl⟩,q⟩,c⟩:∃r,Q8 Ky t id=r:=⟨_,rfl⟩
 rw[c]at j hbad|-
 unfold FQ at j
 unfold C2
 simp only[Aa.Ae,Aa.Ag]at j hbad|-
 have p:decide (q=0)=false:=Z4 hbad
 have x:(q==0)=false:=by simpa using hbad
 have f:(q !=0)=true:=by simpa using hbad
 obtain⟨a,v,rfl⟩:=hr.Ab
 refine IY ?_
 intro n hn h hh
 rw[hn,hh]at j
 rw[hn,hh]
 have z:((w.alloc (.cells (nR h (.slice a n v)) 27)).alloc (.cells #[i6 id] 60)).heap.size=w.heap.size+2:=sM
 have m:((w.alloc (.cells (nR h (.slice a n v)) 27)).alloc (.cells #[i6 id] 60)).heap[w.heap.size]? =some (.cells (nR h (.slice a n v)) 27 (0,0)):=Qb (Ql sM)
 clear hn hh hr ho c d
 go_in
 go_wp2_with fail
 refine(j _ Xd).mono ?_
 rintro e w1 ⟨v1,rfl,a0,y,u⟩
 obtain⟨ga,gc,rfl⟩:=y.Ab
 have b:Qd w w1:=Xd
 clear y u z m
 go_wp2_with fail
 go_ret2
 exact⟨_,rfl,Au.nil _ _,Xd⟩
def Qc8{P Q:Prop}(h:Q)(f:Wz Q->P:=by
 intro zz;have hIS:=fun W (hk:Qd w W)=>ZA S t lv W (hG.same hk) (Qj hN hk.size) ho (hr.same hk) oM (fun x hx=>Qj (h40 x hx) dM) hc
 revert hIS;exact zz.o):P:=f ⟨h⟩
def mV{N:Nat}{E:Am}(S:Qz)(t:Aa)(lv:Q0)(w:Qm)(hG:Ah N E w)(hN:N<=w.heap.size)(ho:t.hd.ok)(hr:Ad S w t.l lv)(hS:∀k,w.heap.size<=k->S k)
  (h40:Zh t)(hdep:t.depth<=900000)(hc:t.count<=1152921504606846976)(hgood:(Q8 Ky t 3).2=0)(hun:Kz t=false):Calls prog 12 #[Qu t.hd lv,.int .i64 3] w (C2 S (Gz Ky t 3) w):=by
 have d:Gz Ky t 3=([],61):=by unfold Gz;rw[Qa (fun e=>e hgood),Qe ⟨rfl,hun⟩]
 rw[d]
 have j:=fun W (hk:Qd w W)=>DF DL t 3 S lv W (hG.same hk) (Qj hN hk.size) oM ho (hr.same hk) (fun k h=>hS k (Qj hk.size h)) h40 (fun h=>La h)
 refine Qc8 ?_
 intro hIS
 rw[hun]at hIS
 obtain⟨⟨⟨gh,f⟩,q⟩,c⟩:∃r,Q8 Ky t 3=r:=⟨_,rfl⟩
 rw[c]at j hgood
 unfold FQ at j
 unfold C2
 simp only[Aa.Ae,Aa.Ag]at j hgood|-
 subst hgood
 obtain⟨a,v,rfl⟩:=hr.Ab
 refine IY ?_
 intro n hn h hh
 rw[hn,hh]at j hIS
 rw[hn,hh]
 have z:((w.alloc (.cells (nR h (.slice a n v)) 27)).alloc (.cells #[i6 3] 60)).heap[w.heap.size]? =some (.cells (nR h (.slice a n v)) 27 (0,0)):=Qb (Ql sM)
 clear hn hh hr ho c d hun hc
 go_in
 go_wp2_with fail
 refine(j _ Xd).mono ?_
 rintro e w1 ⟨v1,rfl,a0,y,m⟩
 obtain⟨ga,p,rfl⟩:=y.Ab
 have b:Qd w w1:=Xd
 have u:=m.s z
 have n0:=Qi (Qb (o:=.cells (nR gh (.slice ga f.length p)) 27) u)
 clear y m z
 go_wp2_with(go_at_call 33;refine(hIS _ Xd).mono ?_;rintro e w3 ⟨rfl,x⟩)
 go_ret2
 exact⟨_,rfl,Au.nil _ _,Xd⟩
def Qc9{s:Qo}{ps:List (Qo × Aa)}(h:s∉ps.map Prod.fst):(ps.find? fun x=>decide (x.1=s))=none:=
 KR.2 fun x hx e=>h (Xq.2 ⟨x,hx,Zo e⟩)
def vQ{ps:List (Qo × Aa)}{p:List Aj}{id:Int}{t out xt:Aa}{L:Qp}{cs:Qo}{ce:Int}{ok:Bool}(hcm:Da p=(cs,ce))(hok:(ps.find? fun y=>decide (y.1=cs)).map Prod.snd=if ok then some xt else none):
  CD Ky id (BQ ps p) t out L=if(decide (ce=0)&&ok&& !decide (Q5 xt 2=60))=true then(if(Q8 Ky (Zn id xt t L) id).2=0/\(Q8 Ky (Zn id xt t L) id).1.same t=true then Zn id xt t L else out)else out:=by
 unfold Da at hcm
 unfold BQ
 by_cases j:Xv p=true
 ·rw[Qe j]at hcm|-;cases hcm;rw[hok];cases ok with
  |false=>rfl
  |true=>
   show(if Q5 xt 2=60 then out else _)=_;by_cases c:Q5 xt 2=60
   ·rw[Qe c];simp[c]
   ·rw[Qa c];simp[c]
 ·rw[Qa j]at hcm|-;cases hcm;rfl
def QQ{N:Nat}{E:Am}(id:Int)(hid:1<=id/\id<=4)(ps:List (Qo × Aa))(t:Aa)(p:List Aj)(L:Qp)(out:Aa)
  (hps:∀y∈ps,Zh y.2/\y.2.depth<=1000000000)(hnd:(ps.map Prod.fst).Nodup)(hc:Bh t)(h40:Zh t)(hL:L.length<=40)(hLk:∀k∈L,Zh k/\k.depth<=100)(hkeys:t.hd.kind=8->((Xa L).map Rc).Nodup)
  (hq:∀s∈p,s.key.size<=1000000/\ -9223372036854775808<=s.index/\s.index<=9223372036854775807)(hpl:p.length<=1000000)
  (hout:out=if Xn t.hd then Zg id (.node (Qh t.hd.kind) L)else Zf id t)(hnil:Xn t.hd=false->L=[])
  (heach:Xn t.hd=true->∀(S:Qz) (lv pv:Q0) (eb pb r:Nat) (w:Qm),Ah N E w->N<=w.heap.size->t.hd.ok->Ad S w t.l lv->(∀k,w.heap.size<=k->S k)->
   w.heap[eb]? =some (.cells #[.int .i64 id,.map (some r)] 73 (0,0))->w.heap[pb]? =some (.cells #[pv] 46 (0,0))->At K3 w pv p->As S w r ps->
   Calls prog 79 #[.agg #[.int .i64 id],Qu t.hd lv,.func (.func 96) #[] #[.pointer (some ⟨eb,0,none⟩),.pointer (some ⟨pb,0,none⟩)]] w fun e w'=>∃v',e=.returned v'/\Ad S w' L v'/\Qd w w')
  (S:Qz)(lv pv:Q0)(r:Nat)(w:Qm)(hG:Ah N E w)(hN:N<=w.heap.size)(ho:t.hd.ok)(hr:Ad S w t.l lv)(hS:∀k,w.heap.size<=k->S k)(hp:At K3 w pv p)(hm:As S w r ps):
  Calls prog 51 #[.agg #[.int .i64 id,.map (some r)],Qu t.hd lv,pv] w (J1 S (CD Ky id (BQ ps p) t out L) w):=by
 obtain⟨S0,cg⟩:∃S0:Qz,S0=fun b=>S b/\(b<w.heap.size∨w.heap.size+5<=b):=⟨_,rfl⟩
 obtain⟨a,z,rfl⟩:=hr.Ab
 obtain⟨pa,pc,rfl,m0⟩:=hp.Ab
 have j2:Ad S0 w t.l (.slice a t.l.length z):=hr.mono fun b hb h=>by rw[cg];exact⟨h,.inl hb⟩
 have jd:As S0 w r ps:=hm.mono fun b hb h=>by rw[cg];exact⟨h,.inl hb⟩
 have c5:∀k,w.heap.size+5<=k->S0 k:=fun k h=>by rw[cg];exact⟨hS k oM,.inr h⟩
 have f:∀b,S0 b->S b/\(b<w.heap.size∨w.heap.size+5<=b):=fun b h=>by rw[cg]at h;exact h
 have fe:∀b,S0 b->b≠w.heap.size+1+1+1+1:=fun b h=>by have:=(f b h).2;omega
 obtain⟨il,g2⟩:∃b,Xn t.hd=b:=⟨_,rfl⟩
 have d5:=fun a n c W=>Np t.hd a n c W
 have ah:=fun W (hk:Qd w W)=>OR K3 p (.slice pa p.length pc) W (hG.same hk) (Aw.same hp hk) hq hpl
 have a2:=fun(hl:Xn t.hd=true) (W:Qm) (hk:Qd w W) (hz:w.heap.size+5<=W.heap.size) h1 h2=>heach hl S0 (.slice a t.l.length z) (.slice pa p.length pc) w.heap.size (w.heap.size+1+1) r W (hG.same hk) (Qj hN hk.size) ho (j2.same hk) (fun k h=>c5 k oM) h1 h2 (Aw.same hp hk) (jd.same hk)
 have j9:∀y∈t.flat,y.hd.kind=3->Q2 y.hd.d=true:=fun y hy h3=>by
  obtain⟨yh,yl⟩:=y;exact(Qhr h3 (hc.own _ hy)).2.2
 have bf:=fun W (hk:Qd w W) (hz:w.heap.size+5<=W.heap.size)=>JU id hid t j9 h40 (by have:=hc.deep;omega) S0 (.slice a t.l.length z) W (hG.same hk) (Qj hN hk.size) ho (j2.same hk) (fun k h=>c5 k oM)
 have ba:=fun(hl:Xn t.hd=true) (W:Qm) (hk:Qd w W) (hz:w.heap.size+5<=W.heap.size) v (hv:Ad S0 W L v)=>DR S0 id (.node (Qh t.hd.kind) L) v W (hG.same hk) (Qj hN hk.size) (K1 _ (by unfold Xn at hl;simp only[Y2,Zz]at hl;rcases hl with h|h<;>rw[h]<;>decide)) hv (fun x hx=>by have:=(hLk x hx).2;omega) (fun k h=>c5 k oM) (by rw[Aa.Ag];omega)
 unfold J1 at bf ba|-
 rw[g2]at d5 hout hnil a2 ba
 refine IY ?_
 intro n hn h hh
 obtain⟨pn,da⟩:∃n,p.length=n:=⟨_,rfl⟩
 rw[hn,hh]at a2 bf
 rw[da]at a2 ah
 rw[hh]at d5 ba hout
 rw[hn,hh,da]
 have ga:(((((w.alloc (.cells #[i6 id,.map (some r)] 73)).alloc (.cells (nR h (.slice a n z)) 27)).alloc (.cells #[.slice pa pn pc] 46)).alloc (.cells zR 27)).alloc (.cells (nR h (.slice a n z)) 27)).heap[w.heap.size]? =some (.cells #[i6 id,.map (some r)] 73 (0,0)):=Qb (Qb (Qb (Qb (Qt w _))))
 have cf:(((((w.alloc (.cells #[i6 id,.map (some r)] 73)).alloc (.cells (nR h (.slice a n z)) 27)).alloc (.cells #[.slice pa pn pc] 46)).alloc (.cells zR 27)).alloc (.cells (nR h (.slice a n z)) 27)).heap[w.heap.size+1]? =some (.cells (nR h (.slice a n z)) 27 (0,0)):=Qb (Qb (Qb (Ql sM)))
 have fg:(((((w.alloc (.cells #[i6 id,.map (some r)] 73)).alloc (.cells (nR h (.slice a n z)) 27)).alloc (.cells #[.slice pa pn pc] 46)).alloc (.cells zR 27)).alloc (.cells (nR h (.slice a n z)) 27)).heap[w.heap.size+1+1]? =some (.cells #[.slice pa pn pc] 46 (0,0)):=Qb (Qb (Ql sM))
 have g5:(((((w.alloc (.cells #[i6 id,.map (some r)] 73)).alloc (.cells (nR h (.slice a n z)) 27)).alloc (.cells #[.slice pa pn pc] 46)).alloc (.cells zR 27)).alloc (.cells (nR h (.slice a n z)) 27)).heap[w.heap.size+1+1+1]? =some (.cells zR 27 (0,0)):=Qb (Ql sM)
 have fb:(((((w.alloc (.cells #[i6 id,.map (some r)] 73)).alloc (.cells (nR h (.slice a n z)) 27)).alloc (.cells #[.slice pa pn pc] 46)).alloc (.cells zR 27)).alloc (.cells (nR h (.slice a n z)) 27)).heap[w.heap.size+1+1+1+1]? =some (.cells (nR h (.slice a n z)) 27 (0,0)):=Ql sM
 generalize hR:CD Ky id (BQ ps p) t out L=R
 replace hR:=Qc hR
 replace hn:=Qc hn
 replace hh:=Qc hh
 replace da:=Qc da
 replace g2:=Qc g2
 go_in
 go_upto_region 3 with fail
 have je:Qd w (((((w.alloc (.cells #[i6 id,.map (some r)] 73)).alloc (.cells (nR h (.slice a n z)) 27)).alloc (.cells #[.slice pa pn pc] 46)).alloc (.cells zR 27)).alloc (.cells (nR h (.slice a n z)) 27)):=Xd
 have k5:w.heap.size+5<=(((((w.alloc (.cells #[i6 id,.map (some r)] 73)).alloc (.cells (nR h (.slice a n z)) 27)).alloc (.cells #[.slice pa pn pc] 46)).alloc (.cells zR 27)).alloc (.cells (nR h (.slice a n z)) 27)).heap.size:=sM
 generalize(((((w.alloc (.cells #[i6 id,.map (some r)] 73)).alloc (.cells (nR h (.slice a n z)) 27)).alloc (.cells #[.slice pa pn pc] 46)).alloc (.cells zR 27)).alloc (.cells (nR h (.slice a n z)) 27))=w2 at ga cf fg g5 fb je k5|-
 have t0:=Qi cf
 go_upto_if 18 with(go_at_call 73;refine(d5 _ _ _ _).mono ?_;rintro e w3 ⟨rfl,af⟩;have b7:=je.trans af;have d0:=af.s ga;have d1:=af.s cf;have d2:=af.s fg;have d3:=af.s g5;have d4:=af.s fb;have m2:=af.size)
 clear t0 ga cf fg g5 fb d5
 obtain⟨oh,bd⟩:∃x,out.hd=x:=⟨_,rfl⟩
 obtain⟨on,k3⟩:∃x,out.l.length=x:=⟨_,rfl⟩
 obtain⟨ln,ff⟩:∃x,L.length=x:=⟨_,rfl⟩
 go_cut [7] from 16 (fun s7 wx=>∃la lc oa oc,s7=.slice la ln lc/\Ad S0 wx L (.slice la ln lc)/\Ad S0 wx out.l (.slice oa on oc)/\oh.ok/\wx.heap[w.heap.size]? =some (.cells #[i6 id,.map (some r)] 73 (0,0))/\wx.heap[w.heap.size+1]? =some (.cells (nR h (.slice a n z)) 27 (0,0))/\wx.heap[w.heap.size+1+1]? =some (.cells #[.slice pa pn pc] 46 (0,0))/\wx.heap[w.heap.size+1+1+1]? =some (.cells zR 27 (0,0))/\wx.heap[w.heap.size+1+1+1+1]? =some (.cells (nR oh (.slice oa on oc)) 27 (0,0))/\Qd w wx)
 case first=>
  have f7:w.heap.size+5<=w3.heap.size:=oM;have e0:=Yy d0;have n0:=Qi d1;cases il with
  |true=>
   simp only[BE]at hout;have dd:=ba (by first|rfl|trivial);rw[<-hout,bd]at dd;clear ba;go_wp2_with fail;refine(a2 (by first|rfl|trivial) _ b7 f7 d0 d2).mono ?_;rintro e w4 ⟨v4,rfl,cb,b5⟩;obtain⟨a4,c4,rfl⟩:=cb.Ab;rw[ff]at cb|-;have dh:=b7.trans b5;have f0:=b5.s d0;have f1:=b5.s d1;have f2:=b5.s d2;have f3:=b5.s d3;have f4:=b5.s d4;have m5:=b5.size;clear e0 n0 d0 d1 d2 d3 d4 a2 hout bf;have e0:=Yy f0;have n0:=Qi f1;go_wp2_with fail;refine(Vd (n:=0)).1 ?_;refine KC (n:=0) (And.intro f0 f1) ?_;simp only[Vz];repeat refine sX ?_
   refine Kd rfl rfl ?_;intro K hK;go_simp;refine(Qr (DM h.kind _ _ _ w4.drew)).mono ?_;rintro e w5 ⟨rfl,k4⟩;have ab:Qd w4 w5:=((Ac.refl _ w4).drew).trans k4;refine hK _ _ ⟨ab.s f0,ab.s f1⟩ ?_;clear hK K;refine Kd rfl rfl ?_;intro K hK;go_simp;refine(Qr (dd w5 (dh.trans ab) (by have:=ab.size;omega) _ (cb.same ab))).mono ?_;rintro e w6 ⟨v6,rfl,b3,g6,ac⟩;obtain⟨a3,c3,rfl⟩:=b3.Ab;rw[k3]at b3|-;have a1:=ab.trans ac;refine hK _ _ ⟨a1.s f0,a1.s f1⟩ ?_;clear hK K e0 n0;refine BD (G5 rfl ?_);have g4:=a1.s f4;have z0:=Qi g4;have j5:=Jd g4;go_simp;obtain⟨h9,q⟩:=Yw g4 oh (.slice a3 on c3);generalize World.setCell (World.setCell _ _ _) _ (.slice a3 on c3)=w9 at h9 q|-;go_wp2;go_meet
   case rel=>exact⟨a4,c4,a3,c3,rfl,(cb.same a1).Af q (fun b hb _ _=>fe b hb),b3.Af q (fun b hb _ _=>fe b hb),g6,q.same _ _ (a1.s f0) oM,q.same _ _ (a1.s f1) oM,q.same _ _ (a1.s f2) oM,q.same _ _ (a1.s f3) oM,h9,Xt (dh.trans a1) q oM⟩
  |false=>
   simp only[I7,Nk]at hout;rw[<-hout,bd]at bf;go_wp2_with fail;refine(bf _ b7 f7).mono ?_;rintro e w6 ⟨v6,rfl,b3,g6,ac⟩;obtain⟨a3,c3,rfl⟩:=b3.Ab;rw[k3]at b3|-;have kf:=ac;clear e0 n0;have g4:=ac.s d4;have z0:=Qi g4;have j5:=Jd g4;go_wp2_with fail;obtain⟨h9,q⟩:=Yw g4 oh (.slice a3 on c3);generalize World.setCell (World.setCell _ _ _) _ (.slice a3 on c3)=w9 at h9 q|-;go_meet
   case rel=>
    have k7:=hnil (by first|rfl|trivial);subst k7;simp only[Vp]at ff;subst ff;exact⟨none,0,a3,c3,rfl,Ad.nil _ _,b3.Af q (fun b hb _ _=>fe b hb),g6,q.same _ _ (ac.s d0) oM,q.same _ _ (ac.s d1) oM,q.same _ _ (ac.s d2) oM,q.same _ _ (ac.s d3) oM,h9,Xt (b7.trans ac) q oM⟩
 case rest=>
  obtain⟨la,lc,oa,oc,rfl,j8,jb,g9,d0,d1,d2,d3,d4,jg⟩:=hcut;clear a2 bf ba hout heach;have c2:=Q4 d2;have m6:w.heap.size+5<=wc.heap.size:=Qg d4;go_wp2_with fail;refine(ah _ jg).mono ?_;rintro e w1 ⟨rfl,b2⟩;have f0:=b2.s d0;have f1:=b2.s d1;have f3:=b2.s d3;have f4:=b2.s d4;have db:=jg.trans b2;have gb:=jd.same db;have dg:=j8.same b2;have de:=jb.same b2;clear c2 d0 d1 d2 d3 d4 j8 jb ah;have e0:=Yy f0;have jh:∃(xt:Aa) (xv:Q0) (ok:Bool),(Instr.lookup JC (.map (some r)) (.string (Da p).1) true).run prog w1=.ok (.tuple #[Qu xt.hd xv,.bool ok]) w1/\xt.hd.ok/\Ad S0 w1 xt.l xv/\((ps.find? fun y=>decide (y.1=(Da p).1)).map Prod.snd=if ok then some xt else none)/\Zh xt/\xt.depth<=1000000000:=by
   by_cases ge:(Da p).1∈ps.map Prod.fst
   ·obtain⟨j,hj,xv,h1,h2,h3,h4⟩:=gb.lookup ge;obtain⟨h5,h6⟩:=hps _ (Zp hj);refine⟨ps[j].2,xv,true,h1,h3,h4,?_,h5,h6⟩;rw[Qe rfl];refine(Mt ps _ _ hnd).2 ?_;rw[<-h2];exact Zp hj
   ·refine⟨.node (Qh 0) [],.slice none 0 0,false,gb.AJ ge,K1 0 dM,Ad.nil _ _,?_,Vh _,by rw[Aa.depth,Xr];decide⟩;rw[Qc9 ge];rfl
  obtain⟨xt,xv,ok,cd,k2,gg,d9,f9,kg⟩:=jh;obtain⟨xa,xc,rfl⟩:=gg.Ab;obtain⟨⟨cs,ce⟩,g7⟩:∃c,Da p=c:=⟨_,rfl⟩;rw[g7]at cd d9|-;simp only at cd d9|-;have u:=vQ (id:=id) (t:=t) (out:=out) (L:=L) g7 d9;rw[hR.out]at u;replace u:=Qc u;obtain⟨xn,b1⟩:∃n,xt.l.length=n:=⟨_,rfl⟩;rw[b1]at cd;replace b1:=Qc b1;go_upto_region 9 with fail;have a0:=LW w1 (.cells (nR xt.hd (.slice xa xn xc)) 27);have gx:=Qt w1 (.cells (nR xt.hd (.slice xa xn xc)) 27);have ke:w.heap.size+5<=w1.heap.size:=Qg f4;generalize(w1.alloc (.cells (nR xt.hd (.slice xa xn xc)) 27))=w8 at a0 gx|-;have dc:=db.trans a0;have g0:=a0.s f0;have g1:=a0.s f1;have g3:=a0.s f3;have g4:=a0.s f4;have c9:=gg.same a0;have k1:=dg.same a0;have f5:=de.same a0;clear f0 f1 f3 f4 gg dg de e0 cd d9 g7 gb;obtain⟨gd,ae⟩:∃b,(decide (ce=0)&&ok&& !decide (Q5 xt 2=60))=b:=⟨_,rfl⟩;go_cut [57] from 16 (fun ka wx=>ka=.bool (!gd)/\Qd w8 wx)
  case first=>
   have k0:=E0 xt (.slice xa xt.l.length xc) w8 (hG.same dc) oM (by rw[b1.out];rw[b1.out]at c9;exact c9.mono fun _ _ _=>trivial) k2;rw[b1.out]at k0;have x0:=Qi gx;by_cases ag:ce=0
   ·subst ag;cases ok with
    |false=>
     go_wp2_with fail;go_meet
     case rel=>exact⟨by rw[<-ae];rfl,Ac.refl _ _⟩
    |true=>
     go_wp2_with fail;refine k0.mono ?_;rintro e w9 ⟨rfl,q⟩;go_wp2_with fail;go_meet
     case rel=>exact⟨by rw[<-ae];simp,q⟩
   ·have k9:(ce==0)=false:=by simpa using ag
    go_wp2_with fail;go_meet
    case rel=>exact⟨by rw[<-ae];simp[ag],Ac.refl _ _⟩
  case rest=>
   obtain⟨rfl,q⟩:=hcut;have b8:=dc.trans q;have i1:=q.s g1;have i3:=q.s g3;have i4:=q.s g4;cases gd with
   |false=>
    have ad:R=out:=by rw[u.out,ae];rfl
    have o0:=Qi i4;have z0:=Qi i3;have j5:=Jd i3;have gf:=Qc ad;clear u hR ad;go_wp2_with fail;obtain⟨h9,a6⟩:=Yw i3 oh (.slice oa on oc);refine DS rfl rfl h9 rfl ⟨.slice oa on oc,by rw[gf.out,bd],?_,by rw[gf.out,bd];exact g9,Xt b8 a6 oM⟩;rw[gf.out];exact((f5.same q).Af a6 fun b hb _ _=>by have:=(f b hb).2;omega).mono fun b _ hb=>(f b hb).1
   |true=>
    have b9:Q5 xt 2≠60:=fun e=>by rw[Kp e]at ae;simp at ae
    have aa:CF xt:=BI b9;have g8:xt.depth<=16:=by
     unfold Q5 at b9;by_cases c:16<xt.depth∨300<Yk xt
     ·rw[Qe c]at b9;exact absurd rfl b9
     ·omega
    have f6:=QG (id:=id) (g:=t) aa f9 hL fun k hk=>(hLk k hk).1
    have kd:=fU (id:=id) (g:=t) (m:=100) aa g8 fun k hk=>(hLk k hk).2
    have be:=mO S0 id xt t L (.slice xa xt.l.length xc) (.slice la ln lc) a n z wc (hG.same b8) (Qj hN b8.size) k2 (c9.same q) (k1.same q) aa (fun k hk=>c5 k (by have:=q.size;have:=Qg g4;omega)) fun _ h8=>by
     have hb:=ER aa f9;have m1:=(Vi xt (BJ Ky xt aa).1).1;exact Qcn id (Q3 xt) L (hkeys h8) oM (fun x hx=>by have:=Co hx;omega) (fun x hx=>by have:=(hLk x hx).2;omega) oM
    rw[b1.out,hh.out]at be;have ad:R=if(Q8 Ky (Zn id xt t L) id).2=0/\(Q8 Ky (Zn id xt t L) id).1.same t=true then Zn id xt t L else out:=by rw[u.out,ae];rfl
    generalize hF:Zn id xt t L=F at be ad f6 kd;unfold J1 at be;replace ad:=Qc ad;clear u hR hF;obtain⟨fh,c7⟩:∃x,F.hd=x:=⟨_,rfl⟩;obtain⟨fn,kc⟩:∃x,F.l.length=x:=⟨_,rfl⟩;rw[c7]at be;have i0:=q.s g0;have ix:=q.s gx;have e0:=Yy i0;have n0:=Qi i1;have x0:=Qi ix;go_upto_region 12 with(go_at_call 97;refine be.mono ?_;rintro e bc ⟨fv,rfl,d7,gh,c8⟩;obtain⟨fa,fc,rfl⟩:=d7.Ab;rw[kc]at d7|-);have a9:Qd wc (bc.alloc (.cells (nR fh (.slice fa fn fc)) 27)):=c8.alloc _;have jf:=Qt bc (.cells (nR fh (.slice fa fn fc)) 27);have b4:Ad S0 (bc.alloc (.cells (nR fh (.slice fa fn fc)) 27)) F.l (.slice fa fn fc):=d7.same ((Ac.refl _ _).alloc _);have k8:w.heap.size+5<=bc.heap.size:=by have:=c8.size;have:=Qg i4;omega
    generalize ja:bc.heap.size=b13 at jf k8|-;generalize(bc.alloc (.cells (nR fh (.slice fa fn fc)) 27))=w11 at a9 jf b4|-;have b0:=b8.trans a9;have j0:=a9.s i0;have j1:=a9.s i1;have j3:=a9.s i3;have j4:=a9.s i4;have fd:=(f5.same q).same a9;have b6:=DF DL F id S0 (.slice fa fn fc) w11 (hG.same b0) (Qj hN b0.size) oM (by rw[c7];exact gh) b4 (fun k hk=>c5 k (Ku j4)) f6 (fun h=>La h);rw[c7]at b6;obtain⟨⟨C,d8⟩,hC⟩:∃c,Q8 Ky F id=c:=⟨_,rfl⟩;rw[hC]at b6;unfold FQ at b6;simp only at b6;obtain⟨ch,j6⟩:∃x,C.hd=x:=⟨_,rfl⟩;obtain⟨cn,kb⟩:∃x,C.l.length=x:=⟨_,rfl⟩;rw[j6]at b6;replace hC:=Qc hC;clear ja e0 n0 x0 i0 i1 i3 i4 ix be c8 d7;have e0:=Yy j0;have x0:=Qi jf;go_upto_region 13 with(go_at_call 15;refine b6.mono ?_;rintro e c0 ⟨cv,rfl,kh,d6,df⟩;obtain⟨ca,cc,rfl⟩:=d6.Ab;rw[kb]at d6|-);have a8:Qd w11 (c0.alloc (.cells (nR ch (.slice ca cn cc)) 27)):=df.alloc _;have jc:=Qt c0 (.cells (nR ch (.slice ca cn cc)) 27);have c6:Ad S0 (c0.alloc (.cells (nR ch (.slice ca cn cc)) 27)) C.l (.slice ca cn cc):=d6.same ((Ac.refl _ _).alloc _);generalize j7:c0.heap.size=b14 at jc|-;generalize(c0.alloc (.cells (nR ch (.slice ca cn cc)) 27))=w13 at a8 jc c6|-;have bh:=b0.trans a8;have l1:=a8.s j1;have l3:=a8.s j3;have l4:=a8.s j4;have lf:=a8.s jf;have gc:=FZ C t S0 (.slice ca cn cc) (.slice a t.l.length z) w13 c6 (j2.same bh);rw[j6,hh.out,hn.out]at gc;obtain⟨sd,bb⟩:∃b,(decide (d8=0)&&C.same t)=b:=⟨_,rfl⟩;obtain⟨sm,c1⟩:∃b,C.same t=b:=⟨_,rfl⟩;rw[c1]at gc bb;have a7:R=if sd then F else out:=by
     rw[ad.out,hC.out];simp only;rw[c1,<-bb];by_cases c:d8=0
     ·rw[Kp c];simp[c]
     ·rw[Z4 c];simp[c]
    replace a7:=Qc a7;replace bb:=Qc bb;clear ad hC j7 e0 x0 j0 j1 j3 j4 jf b6 df d6 c1;go_cut [79] from 16 (fun k6 wx=>k6=.bool sd/\Qd w13 wx)
    case first=>
     have x0:=Qi jc;have n0:=Qi l1;by_cases ag:d8=0
     ·subst ag;go_wp2_with fail;refine gc.mono ?_;rintro e m7 ⟨rfl,a5⟩;go_wp2_with fail;go_meet
      case rel=>exact⟨by rw[<-bb.out];simp,a5⟩
     ·have k9:(d8==0)=false:=by simpa using ag
      go_wp2_with fail;go_meet
      case rel=>exact⟨by rw[<-bb.out];simp[ag],Ac.refl _ _⟩
    case rest=>
     obtain⟨rfl,a5⟩:=hcut;have bg:=bh.trans a5;have m3:=a5.s l3;have z0:=Qi m3;have j5:=Jd m3;cases sd with
     |true=>
      have mf:=a5.s lf;have x0:=Qi mf;go_wp2_with fail;obtain⟨h9,a6⟩:=Yw m3 fh (.slice fa fn fc);refine DS rfl rfl h9 rfl ⟨.slice fa fn fc,by rw[a7.out];rw[<-c7];rfl,?_,by rw[a7.out];rw[<-c7]at gh;exact gh,Xt bg a6 oM⟩;rw[a7.out];exact(((b4.same a8).same a5).Af a6 fun b hb _ _=>by have:=(f b hb).2;omega).mono fun b _ hb=>(f b hb).1
     |false=>
      have m4:=a5.s l4;have o0:=Qi m4;go_wp2_with fail;obtain⟨h9,a6⟩:=Yw m3 oh (.slice oa on oc);refine DS rfl rfl h9 rfl ⟨.slice oa on oc,by rw[a7.out];rw[<-bd];rfl,?_,by rw[a7.out];rw[<-bd]at g9;exact g9,Xt bg a6 oM⟩;rw[a7.out];exact(((fd.same a8).same a5).Af a6 fun b hb _ _=>by have:=(f b hb).2;omega).mono fun b _ hb=>(f b hb).1
def Cs(ps:List (Qo × Aa))(x:List Aj × Aa):List (Qo × Aa):=
 if Xv x.1=true/\(ps.find? fun y=>decide (y.1=Xh (Z1 x.1)))=none then ps++[(Xh (Z1 x.1),x.2)]else ps
def Ns(l:List (List Aj × Aa)):List (Qo × Aa):=l.foldl Cs []
def vT(l:List (List Aj × Aa))(x:List Aj × Aa):Ns (l++[x])=Cs (Ns l) x:=by
 unfold Ns;rw[O5];rfl
def T4{p q:List Aj}:Xh (Z1 p)=Xh (Z1 q)↔Z1 p=Z1 q:=by
 constructor
 ·intro h
  have:=congrArg Qf h;rwa [Yl _ (QN p),Yl _ (QN q)]at this
 ·intro h;rw[h]
def NE{s:Qo}:∀{ps:List (Qo × Aa)},(ps.find? fun x=>decide (x.1=s))=none↔s∉ps.map Prod.fst:=by
 intro ps;rw[KR];constructor
 ·intro h j;obtain⟨x,hx,e⟩:=Xq.1 j;exact h x hx (Kp e)
 ·intro h x hx e;exact h (Xq.2 ⟨x,hx,Zo e⟩)
def VH{q:List Aj}(hq:Xv q=true):∀(l:List (List Aj × Aa)) (ps:List (Qo × Aa)),
  ((l.foldl Cs ps).find? fun x=>decide (x.1=Xh (Z1 q))).map Prod.snd=match ps.find? fun x=>decide (x.1=Xh (Z1 q))with
   |some x=>some x.2
   |none=>(l.find? fun x=>Xv x.1&&decide (Z1 x.1=Z1 q)).map Prod.snd
 | [],ps=>by
  rw[List.foldl_nil];cases ps.find? fun x=>decide (x.1=Xh (Z1 q))<;>rfl
 |x::l,ps=>by
  rw[Ue,VH hq l (Cs ps x)];unfold Cs;by_cases c:Xv x.1=true/\(ps.find? fun y=>decide (y.1=Xh (Z1 x.1)))=none
  ·rw[Qe c,List.find?_append,LD (a:=x),c.1,MY];by_cases e:Z1 x.1=Z1 q
   ·have e2:(ps.find? fun x=>decide (x.1=Xh (Z1 q)))=none:=by rw[<-T4.2 e];exact c.2
    rw[e2,Kp e,LD];simp only;rw[Kp (T4.2 e)];rfl
   ·rw[Z4 e,LD];simp only;rw[Z4 fun h=>e (T4.1 h),List.find?_nil];cases ps.find? fun x=>decide (x.1=Xh (Z1 q))<;>rfl
  ·rw[Qa c];cases hf:ps.find? fun x=>decide (x.1=Xh (Z1 q))with
   |some y=>rfl
   |none=>
    simp only;rw[LD];by_cases r:Xv x.1=true
    ·have j:Z1 x.1≠Z1 q:=fun e=>c ⟨r,by rw[T4.2 e];exact hf⟩
     rw[Z4 j,Bool.and_false]
    ·have r:Xv x.1=false:=by simpa using r
     rw[r,Bool.false_and]
def Qfa(l:List (List Aj × Aa)):BQ (Ns l)=KM l:=by
 funext q;unfold BQ KM Ns;by_cases j:Xv q=true
 ·rw[Qe j,Qe j,VH j l []];rfl
 ·rw[Qa j,Qa j]
def gH{l:List (List Aj × Aa)}{y:Qo × Aa}(h:y∈Ns l):∃x∈l,y.2=x.2:=by
 have j:∀(l:List (List Aj × Aa)) (ps:List (Qo × Aa)),y∈l.foldl Cs ps->y∈ps∨∃x∈l,y.2=x.2:=by
  intro l;induction l with
  |nil=>intro ps h;exact .inl h
  |cons x l ih=>
   intro ps h;rcases ih _ h with h| ⟨z,q,e⟩
   ·unfold Cs at h;split at h
    ·rcases Kn.1 h with h|h
     ·exact .inl h
     ·rw[Zm.1 h];exact .inr ⟨x,sM,rfl⟩
    ·exact .inl h
   ·exact .inr ⟨z,by simp[q],e⟩
 rcases j l [] h with h|h
 ·cases h
 ·exact h
def qX{ps:List (Qo × Aa)}{q:List Aj}{t:Aa}(h:BQ ps q=some t):∃y∈ps,y.2=t:=by
 unfold BQ at h;split at h
 ·obtain⟨y,j,e⟩:=Hi.1 h;exact⟨y,GA j,e⟩
 ·cases h
def gI{X:Hd->Dc × Bool}{id:Int}{own:List Aj->Option Aa}:∀(l:Qp) (p:List Aj),BS X id own l p=Qq (Hw l (fun i=>Ge X id own (Xp l (2*i+1)) (p++[Yb (Xp l (2*i)).hd.s])) (l.length/2))
 | [],p=>by rw[BS]<;>simp[Hw,Qq]
 | [_],p=>by rw[BS]<;>simp[Hw,Qq]
 |k::x::l,p=>by
  have e:(k::x::l).length/2=l.length/2+1:=by simp only[Xf];omega
  have j:Hw (k::x::l) (fun i=>Ge X id own (Xp (k::x::l) (2*i+1)) (p++[Yb (Xp (k::x::l) (2*i)).hd.s])) (l.length/2+1)=(k,Ge X id own x (p++[Yb k.hd.s]))::Hw l (fun i=>Ge X id own (Xp l (2*i+1)) (p++[Yb (Xp l (2*i)).hd.s])) (l.length/2):=by
   unfold Hw;rw[Pa,Zy,Ka];rfl
  rw[BS,gI l p,e,j,Xm]
def VI{X:Hd->Dc × Bool}{id:Int}{own:List Aj->Option Aa}:∀(l:Qp) (p:List Aj),(Xa (BS X id own l p)).map Rc=(Xa l).map Rc
 | [],p=>by simp[BS,Xa]
 | [_],p=>by simp[BS,Xa]
 |k::x::l,p=>by
  rw[BS,Xa,Xa,Zy,Zy,VI l p]
def vU(qs:List (Qo × Aa)):(Xa (Zt qs)).map Rc=qs.map Prod.fst:=by
 rw[Vs,Jq,Ka];rfl
def Qhs{P Q:Prop}(h:Q)(f:Wz Q->P:=by
 intro zz;rw[Zv];simp only[Xf,Vp];exact zz.o):P:=f ⟨h⟩
def Qfb{N:Nat}{E:Am}(id:Int)(hid:1<=id/\id<=4)(ps:List (Qo × Aa))(hps:∀y∈ps,Zh y.2/\y.2.depth<=1000000000)(hnd:(ps.map Prod.fst).Nodup):
  ∀(t:Aa) (p:List Aj),Bh t->Zh t->(∀s∈p,s.key.size<=1000000/\ -9223372036854775808<=s.index/\s.index<=9223372036854775807)->p.length+t.depth<=100->qN N E id ps t p:=by
 have ab:Qcj (BQ ps):=fun q t ht=>by
  obtain⟨y,hy,rfl⟩:=qX ht;exact(hps y hy).1
 refine Aa.ind fun h l ih p hc b hq b0=>?_
 obtain⟨a8,a1⟩:=O8 b
 have ad:=QC hc.own
 have a5:∀x∈l,x.depth+1<=(Aa.node h l).depth:=fun x hx=>Co (t:=.node h l) hx
 have ac:=hc.deep
 have a0:=X3 func96 (by kernel_rfl) rfl
 have a9:∀x∈l,∀q,Zh (Ge Ky id (BQ ps) x q)/\(Ge Ky id (BQ ps) x q).depth<=100:=fun x hx q=>by
  obtain⟨h1,h2⟩:=JZ (X:=Ky) (id:=id) ab x q (ad x hx) (a1 x hx)
  have:=a5 x hx;exact⟨h1,by omega⟩
 have z:∀x∈l,∀s:Aj,(s.key.size<=1000000/\ -9223372036854775808<=s.index/\s.index<=9223372036854775807)->qN N E id ps x (p++[s]):=fun x hx s hs=>by
  refine ih x hx (p++[s]) (hc.B3 (g:=.node h l) hx) (a1 x hx) (fun y hy=>?_) (by
   have:=a5 x hx;refine Qhs ?_;omega)
  rcases Kn.1 hy with hy|hy
  ·exact hq y hy
  ·rw[Zm.1 hy];exact hs
 by_cases h7:h.kind=7
 ·intro S f pv r w hG hN ho c hS d hm;have e:Ge Ky id (BQ ps) (.node h l) p=CD Ky id (BQ ps p) (.node h l) (Zg id (.node (Qh 7) (IJ Ky id (BQ ps) l p 0))) (IJ Ky id (BQ ps) l p 0):=by rw[Ge,Qe h7]
  rw[e];have v:Xn (Aa.node h l).hd=true:=by unfold Xn;simp[h7]
  refine QQ id hid ps (.node h l) p _ _ hps hnd hc b (by rw[QH];exact a8) (fun k j=>?_) (fun u=>absurd u (by rw[Aa.Ae];omega)) hq (by omega) (by rw[v,Qe rfl,Aa.Ae,h7]) (fun e=>by rw[v]at e;cases e) (fun _=>?_) S f pv r w hG hN ho c hS d hm
  ·obtain⟨x,hx,q,rfl⟩:=QJ j;exact a9 x hx q
  ·intro S f pv eb pb r w hG hN ho c hS a2 a7 d hm;have ag:=fF a0 S id (.node h l) f (fun i=>Ge Ky id (BQ ps) (Xp l i) (p++[X4 i])) (lb:=#[.pointer (some ⟨eb,0,none⟩),.pointer (some ⟨pb,0,none⟩)]) w ho c hS h7 (by rw[Aa.Ag];omega) (by
    intro i hi S' lx W m j hx n a6;simp only[Aa.Ag]at hi hx n|-;have a3:Xp l i∈l:=by rw[J7 hi];exact Zp hi
    exact fL id ps (Xp l i) p (X4 i) (z _ a3 _ ⟨Xi _,by show(-9223372036854775808:Int)<=(i:Int);omega,by show(i:Int)<=9223372036854775807;omega⟩) eb pb r S' lx pv W (hG.same j) (Qj hN j.size) hx n a6 (j.same _ _ a2 trivial) (j.same _ _ a7 trivial) (Aw.same d j) (by omega) ((hm.mono m).same j))
   rw[Ws];simp only[Z3];exact ag
 ·by_cases u:h.kind=8
  ·intro S f pv r w hG hN ho c hS d hm;have e:Ge Ky id (BQ ps) (.node h l) p=CD Ky id (BQ ps p) (.node h l) (Zg id (.node (Qh 8) (BS Ky id (BQ ps) l p))) (BS Ky id (BQ ps) l p):=by rw[Ge,Qa h7,Qe u]
   rw[e];have v:Xn (Aa.node h l).hd=true:=by unfold Xn;simp[u]
   obtain⟨qs,eq,hn,ah⟩:=hc.map u;have el:l=Zt qs:=by injection eq
   refine QQ id hid ps (.node h l) p _ _ hps hnd hc b (Qj (QI _ _ _ _ _) a8) (fun k j=>?_) (fun _=>?_) hq (by omega) (by rw[v,Qe rfl,Aa.Ae,u]) (fun e=>by rw[v]at e;cases e) (fun _=>?_) S f pv r w hG hN ho c hS d hm
   ·rcases QK j with j| ⟨x,hx,q,rfl⟩
    ·have:=a5 k j;exact⟨a1 k j,by omega⟩
    ·exact a9 x hx q
   ·rw[VI,el,vU];exact hn
   ·intro S f pv eb pb r w hG hN ho c hS a2 a7 d hm;have af:=fH a0 S id (.node h l) f (fun i=>Ge Ky id (BQ ps) (Xp l (2*i+1)) (p++[Yb (Xp l (2*i)).hd.s])) (lb:=#[.pointer (some ⟨eb,0,none⟩),.pointer (some ⟨pb,0,none⟩)]) w ho c hS u (by rw[Aa.Ag];omega) (by
     intro i hi S' lx W m j hx n a6;simp only[Aa.Ag]at hi hx n|-;have a4:2*i+1<l.length:=by omega
     have a3:Xp l (2*i+1)∈l:=by rw[J7 a4];exact Zp a4
     have aa:i<qs.length:=by rw[el,vB]at a4;omega
     have ae:(Xp l (2*i)).hd.s.size<=400:=by
      rw[el,(vC aa).1];exact Ot (Bh.key (by rw[<-eq];exact hc) (Zp aa))
     exact fL id ps (Xp l (2*i+1)) p (Yb (Xp l (2*i)).hd.s) (z _ a3 _ ⟨Qj ae (by decide),by show(-9223372036854775808:Int)<= -1;decide,by show(-1:Int)<=_;decide⟩) eb pb r S' lx pv W (hG.same j) (Qj hN j.size) hx n a6 (j.same _ _ a2 trivial) (j.same _ _ a7 trivial) (Aw.same d j) (by omega) ((hm.mono m).same j))
    rw[gI];exact af
  ·intro S f pv r w hG hN ho c hS d hm;have e:Ge Ky id (BQ ps) (.node h l) p=CD Ky id (BQ ps p) (.node h l) (Zf id (.node h l)) []:=by rw[Ge,Qa h7,Qa u]
   rw[e];have v:Xn (Aa.node h l).hd=false:=by unfold Xn;simp[h7,u]
   exact QQ id hid ps (.node h l) p [] _ hps hnd hc b (by simp) (fun k j=>by cases j) (fun e=>absurd e u) hq (by omega) (by rw[v];rfl) (fun _=>rfl) (fun e=>by rw[v]at e;cases e) S f pv r w hG hN ho c hS d hm
end Go.Tm
