/-
  Part 7 of what the claim leans on: contracts of the functions that the law reaches, and plain facts. Conditions: the theorems' own.
-/
import Derived.Lib.ItoaLen
import Derived.ArgAppend
import Derived.Deep.LoopGhost
import Derived.Laws.CopyRow
import Derived.RangeFuncBox
import Derived.Test.YtkfaoeobfigagaaGreatDoorShYF
set_option linter.all false
set_option maxRecDepth 100000
set_option maxHeartbeats 16000000
namespace Go.Tm
open Go.Proofs Go.RowKit Go.Proofs.Tryz
variable{t x:Aa}{ps ps':List (Aa × Aa)}{f:Int}
def KR:=@List.find?_eq_none
def GA:=@List.mem_of_find?_eq_some
def Wk:=@List.filter_cons
def pR:=@List.filter_eq_self
def KS:=@List.length_range
def GB:=@List.takeWhile_cons_of_pos
def Nz:∀(ps:List (Aa × Aa)) (i:Nat) (hi:i<ps.length),Xp (Qq ps) (2*i)=ps[i].1/\Xp (Qq ps) (2*i+1)=ps[i].2
 | [],i,hi=>by simp at hi
 |p::ps,0,_=>by rw[Xm];exact⟨rfl,rfl⟩
 |p::ps,i+1,hi=>by
  have:=Nz ps i (by simpa using hi);rw[Xm];exact this
def PG(h8:t.hd.kind=8)(hl:t.l=Qq ps)(hk:∀p∈ps,p.1.hd.kind=5)(hn:(ps.map fun p=>p.1.hd.s).Nodup):
  ∀m,m<=ps.length->Qx t (2*m)=(List.range m).map fun i=>(Yb (Xp t.l (2*i)).hd.s,2*i+1)
 |0,_=>rfl
 |m+1,hm=>by
  have ih:=PG h8 hl hk hn m oM;have n:t.l.length=2*ps.length:=by rw[hl,Z6]
  have j:=(Nz ps m oM).1;rw[<-hl]at j;have d:Yc t (2*m)=some (Yb (Xp t.l (2*m)).hd.s,2*m+1):=by
   unfold Yc;rw[Qe ⟨h8,oM,oM,by rw[j];exact hk _ (Zp _)⟩]
  have z:Yc t (2*m+1)=none:=by
   unfold Yc;rw[Qa oM,Qa oM]
  have v:(Yb (Xp t.l (2*m)).hd.s,2*m+1).1∉(Qx t (2*m)).map Prod.fst:=by
   rw[ih,Ka];intro h;obtain⟨i,c,e⟩:=Xq.1 h;have y:=Vw.1 c;have u:(Xp t.l (2*i)).hd.s=(Xp t.l (2*m)).hd.s:=by
    have:Yb (Xp t.l (2*i)).hd.s=Yb (Xp t.l (2*m)).hd.s:=e;injection this
   have q:=(Nz ps i oM).1;rw[<-hl]at q;rw[q,j]at u;have b:=jY.1 hn i m (by simpa using(by omega:i<ps.length)) (by simpa using(by omega:m<ps.length)) y;simp only[Of]at b;exact b u
  rw[show 2*(m+1)=2*m+1+1 by omega,Vm z,Jp d v,ih,OW,Hg];rfl
def Qg7(h8:t.hd.kind=8)(hl:t.l=Qq ps)(hk:∀p∈ps,p.1.hd.kind=5)(hn:(ps.map fun p=>p.1.hd.s).Nodup){q:Aa × Aa}(hq:q∈ps):
  ∃i,gS t (Yb q.1.hd.s)=some i/\Xp t.l i=q.2:=by
 obtain⟨j,v,e⟩:=ZC hq
 obtain⟨y,z⟩:=Nz ps j v
 rw[<-hl]at y z
 refine⟨2*j+1,?_,by rw[z,e]⟩
 rw[Fq]
 unfold Ht
 rw[hl,Z6,PG h8 hl hk hn ps.length (Q6 _)]
 exact Xq.2 ⟨j,Vw.2 v,by rw[y,e]⟩
def Rf(q:Qo × Aa):Aa × Aa:=(.node (Xy q.1) [],q.2)
def Vs(qs:List (Qo × Aa)):Zt qs=Qq (qs.map Rf):=by
 induction qs with
 |nil=>rfl
 |cons q qs ih=>rw[Zy,Xm,<-ih];rfl
def Jq:∀ps:List (Aa × Aa),Xa (Qq ps)=ps
 | []=>by rw[show Qq []=[] from rfl];simp[Xa]
 |p::ps=>by rw[Xm,Xa,Jq ps]
def Wl(ps:List (Aa × Aa))(s:Qo):Option Aa:=(ps.find? fun p=>decide (V3 p=s)).map Prod.snd
def Wm(hn:(ps.map V3).Nodup){p:Aa × Aa}(hp:p∈ps):Wl ps (V3 p)=some p.2:=by
 unfold Wl;induction ps with
 |nil=>cases hp
 |cons q ps ih=>
  rw[Zy,Mp]at hn;rw[LD];by_cases e:V3 q=V3 p
  ·rw[Kp e];rcases Xg.1 hp with rfl|hp
   ·rfl
   ·exact absurd (Xq.2 ⟨p,hp,e.symm⟩) hn.1
  ·rw[Z4 e];rcases Xg.1 hp with rfl|hp
   ·exact absurd rfl e
   ·exact ih hn.2 hp
def KT(hb:Q3 x=.node (Qh 8) (Qq ps))(hn:(ps.map V3).Nodup){p:Aa × Aa}(hp:p∈ps):Kq x (Yb (V3 p))=p.2:=by
 have j:∀qs:List (Aa × Aa),Ro (Qq qs) (V3 p)=Wl qs (V3 p):=by
  intro qs;induction qs with
  |nil=>rw[show Qq []=[] from rfl];simp[Ro,Wl]
  |cons q qs ih=>
   rw[Xm,Ro];unfold Wl at ih|-;rw[LD];by_cases e:V3 q=V3 p
   ·rw[Qe (show(Xe q.1).1=V3 p from e),Kp e];rfl
   ·rw[Qa (show¬(Xe q.1).1=V3 p from e),Z4 e];exact ih
 unfold Kq;rw[hb,Qa (show¬(Aa.node (Qh 8) (Qq ps)).hd.kind=7 from(show¬(8:Int)=7 by decide))];show(match Ro (Qq ps) (V3 p)with|some x=>x|none=>x)=_;rw[j,Wm hn hp]
def KU(h7:(Q3 x).hd.kind=7)(i:Nat):Kq x (X4 i)=Xp (Q3 x).l i:=by
 unfold Kq;rw[Qe h7];rfl
def tP(p:Aa × Aa)(l:List (Aa × Aa)):(BG p l).Perm (p::l):=by
 unfold BG;simp only;refine List.perm_middle.trans ?_;rw[FW]
def KV(o ps:List (Aa × Aa)):List (Aa × Aa):=ps.foldl (fun o p=>BG p o) o
def Wn:∀(ps o:List (Aa × Aa)),(KV o ps).Perm (o++ps)
 | [],o=>by rw[Hy];exact List.Perm.refl _
 |p::ps,o=>by
  refine(Wn ps (BG p o)).trans ?_;refine((tP p o).append_right ps).trans ?_;exact List.perm_middle.symm
def tQ{p p':Aa × Aa}{l l':List (Aa × Aa)}(hp:p.1=p'.1)(hl:l.map Prod.fst=l'.map Prod.fst):(BG p l).map Prod.fst=(BG p' l').map Prod.fst:=by
 have j:∀m:List (Aa × Aa),(m.reverse.takeWhile fun q=>Ny p.1 q.1).length=((m.map Prod.fst).reverse.takeWhile fun k=>Ny p.1 k).length:=by
  intro m;rw[<-List.map_reverse,List.takeWhile_map,Vq];rfl
 have v:l.length=l'.length:=by have:=congrArg List.length hl;simpa using this
 have y:(l.reverse.takeWhile fun q=>Ny p.1 q.1).length=(l'.reverse.takeWhile fun q=>Ny p'.1 q.1).length:=by
  rw[j,hl,hp];rw[hp]at j;rw[j]
 unfold BG;simp only;rw[y,v,Hg,Hg,Zy,Zy,Fo,Fo,List.map_drop,List.map_drop,hl,hp]
def Wo:∀(ps ps' o o':List (Aa × Aa)),ps.map Prod.fst=ps'.map Prod.fst->o.map Prod.fst=o'.map Prod.fst->(KV o ps).map Prod.fst=(KV o' ps').map Prod.fst
 | [],[],o,o',_,h=>h
 | [],_::_,_,_,h,_=>by simp at h
 |_::_,[],_,_,h,_=>by simp at h
 |p::ps,p'::ps',o,o',h,ho=>by
  simp only[Zy,DW]at h;exact Wo ps ps' _ _ h.2 (tQ h.1 ho)
def CR(f:Int)(ps:List (Aa × Aa)):List (Aa × Aa):=if f=3 then KV [] ps else ps
def KW(f:Int)(ps:List (Aa × Aa)):(CR f ps).Perm ps:=by
 unfold CR;split
 ·simpa using Wn ps []
 ·exact List.Perm.refl _
def tR(f:Int)(h:ps.map Prod.fst=ps'.map Prod.fst):(CR f ps).map Prod.fst=(CR f ps').map Prod.fst:=by
 unfold CR;split
 ·exact Wo ps ps' [] [] h rfl
 ·exact h
def Eh(f:Int)(ps:List (Aa × Aa)):Zg f (.node (Qh 8) (Qq ps))=.node (Qh 8) (Qq (CR f ps)):=by
 unfold Zg CR;by_cases c:f=3
 ·rw[Qe ⟨c,rfl⟩,Qe c];show Aa.node (Qh 8) (Qq ((Xa (Qq ps)).foldl (fun o p=>BG p o) []))=_;rw[Jq];rfl
 ·rw[Qa (fun h=>c h.1),Qa c]
def XM(h:t.hd.kind≠8):Zg f t=t:=by
 unfold Zg;rw[Qa (fun e=>h e.2)]
def pS(ps:List (Aa × Aa)):Prop:=ps.Pairwise fun a b=>Rm a.1.hd<Rm b.1.hd
def Wp:∀(ps:List (Aa × Aa)) (i:Qv),Gd (Qq ps) (some i)=true->(∀p∈ps,i<Rm p.1.hd)/\pS ps
 | [],i,_=>⟨sM,List.Pairwise.nil⟩
 |p::ps,i,h=>by
  rw[Xm,Gd,X1,Zz]at h;obtain⟨h1,h2⟩:=Wp ps _ h.2;refine⟨fun q j=>?_,List.Pairwise.cons h1 h2⟩;rcases Xg.1 j with rfl|j
  ·exact h.1
  ·exact List.lt_trans h.1 (h1 q j)
def dV(h:Gd (Qq ps) none=true):pS ps:=by
 cases ps with
 |nil=>exact List.Pairwise.nil
 |cons p ps=>
  rw[Xm,Gd]at h;obtain⟨j,q⟩:=Wp ps _ h;exact List.Pairwise.cons j q
def tS{p:Aa × Aa}{l:List (Aa × Aa)}(h:∀q∈l,Rm q.1.hd<Rm p.1.hd):BG p l=l++[p]:=by
 have e:(l.reverse.takeWhile fun q=>Ny p.1 q.1)=[]:=by
  cases hr:l.reverse with
  |nil=>rfl
  |cons q r=>
   rw[List.takeWhile_cons,Qa];unfold Ny Qap;have j:q∈l:=by rw[<-UM,hr];simp
   rw[X1,Zz];exact fun e=>List.lt_asymm (h q j) e.2
 unfold BG;simp only;rw[e,Vp,FX,Vc,FR]
def Wq:∀(ps o:List (Aa × Aa)),pS (o++ps)->KV o ps=o++ps
 | [],o,_=>by rw[Hy];rfl
 |p::ps,o,h=>by
  have h1:=(OY.1 h).2.2;show KV (BG p o) ps=_;rw[tS fun q j=>h1 q j p sM,Wq ps (o++[p]) (by rw[Y1];exact h),Y1];rfl
def tU(h:f=3->pS ps):CR f ps=ps:=by
 unfold CR;split
 ·rename_i c;exact Wq ps [] (h c)
 ·rfl
def dW:∀(ps:List (Aa × Aa)) (has:List (Aa × Aa)),(∀p∈ps,(Xe p.1).2=true)->(ps.map V3).Nodup->has.Perm (ps.map fun p=>((.node (Xy (V3 p)) []:Aa),p.2))->
  Jh (Zs (Qq ps)) has=(ps,[])
 | [],has,_,_,hp=>by
  rw[EV]at hp;rw[hp.eq_nil,show Qq []=[] from rfl];simp[Zs,Jh]
 |p::ps,has,hr,hn,hp=>by
  rw[Zy]at hp hn;rw[Mp]at hn;have hkey:∀q∈has,q.1.hd.s=V3 p->q=((.node (Xy (V3 p)) []:Aa),p.2):=by
   intro q m e;rcases Xg.1 (hp.mem_iff.1 m)with h|h
   ·exact h
   ·obtain⟨r,v,rfl⟩:=Xq.1 h;exact absurd (Xq.2 ⟨r,v,e⟩) hn.1
  have y:((.node (Xy (V3 p)) []:Aa),p.2)∈has:=hp.mem_iff.2 sM;have b:has.find? (fun q=>decide (q.1.hd.s=(Xe p.1).1))=some ((.node (Xy (V3 p)) []:Aa),p.2):=by
   cases hh:has.find? (fun q=>decide (q.1.hd.s=(Xe p.1).1))with
   |none=>
    rw[KR]at hh
    have:=hh _ y;simp[V3,Xy]at this
   |some q=>
    have v:=List.find?_some hh;have n:=GA hh;rw[hkey q n (Zo v)]
  have j:(has.filter fun z=>decide (z.1.hd.s≠(Xe p.1).1)).Perm (ps.map fun p=>((.node (Xy (V3 p)) []:Aa),p.2)):=by
   refine(hp.filter _).trans ?_;rw[Wk,Qa (by simp[V3,Xy])];rw[pR.2];intro z u;obtain⟨r,v,rfl⟩:=Xq.1 u;rw[Zz];intro e;exact hn.1 (Xq.2 ⟨r,v,e⟩)
  rw[Xm,Zs,Jh,Qe (hr p sM),b];simp only;rw[dW ps _ (fun q m=>hr q (by simp[m])) hn.2 j]
section
variable{X:Hd->Dc × Bool}{f:Int}{own:List Aj->Option Aa}
def Ws:∀(l:Qp) (p:List Aj) (i:Nat),IJ X f own l p i=(List.range l.length).map fun j=>Ge X f own (Xp l j) (p++[X4 (i+j)])
 | [],_,_=>by rw[IJ];rfl
 |x::l,p,i=>by
  rw[IJ,Ws l p (i+1),Xf,Pa,Zy,Ka];congr 1;refine EW fun j _=>?_
  show Ge X f own (Xp l j) (p++[X4 (i+1+j)])=Ge X f own (Xp (x::l) (j+1)) (p++[X4 (i+(j+1))]);rw[show i+1+j=i+(j+1) by omega];rfl
def KX:∀(qs:List (Qo × Aa)) (p:List Aj),BS X f own (Zt qs) p=Zt (qs.map fun q=>(q.1,Ge X f own q.2 (p++[Yb q.1])))
 | [],_=>by rw[show Zt []=[] from rfl,BS];rfl;intro k x l h;cases h
 |q::qs,p=>by
  show BS X f own (.node (Xy q.1) []::q.2::Zt qs) p=_;rw[BS,KX qs p];rfl
def SM:∀(qs:List (Qo × Aa)),Y8 f (Zt qs)=Zt (qs.map fun q=>(q.1,Zf f q.2))
 | []=>by rw[show Zt []=[] from rfl,Y8];rfl;intro k x l h;cases h
 |q::qs=>by
  show Y8 f (.node (Xy q.1) []::q.2::Zt qs)=_;rw[Y8,SM qs];rfl
def M2{x c sh out:Aa}{l:Qp}(hx:AX X f x c)(hs:AA sh)(hf:Zn f sh c l=x):CD X f (some sh) c out l=x:=by
 show(if Q5 sh 2=60 then out else if(Q8 X (Zn f sh c l) f).2=0/\(Q8 X (Zn f sh c l) f).1.same c=true then Zn f sh c l else out)=x;rw[Qa (hs.check 2),hf,hx.common,Qe ⟨rfl,(Ru _ _).2 rfl⟩]
def IK(f:Int)(x c:Aa):Option Aa:=if(Xu x).same (Xu (Zf f c))then none else some (Xu x)
def tV{x c:Aa}(hs:AX X f x c)(hl:Xn (Q3 x).hd=false):CD X f (IK f x c) c (Zf f c) []=x:=by
 have q:=hs.own;have b:=hs.leaf hl;have k:Xu x=x:=by unfold Xu;rw[hl];rfl
 unfold IK;rw[k];by_cases c1:x.same (Xu (Zf f c))=true
 ·rw[Qe c1];show Zf f c=x;have e:=(Ru _ _).1 c1;generalize hz:Zf f c=z at e|-;cases h2:Xn (Q3 z).hd with
  |false=>
   rw[e];unfold Xu;rw[h2];rfl
  |true=>
   exfalso;have n:Xu z=Xo (Zk (Q3 z)) z:=by unfold Xu;rw[Qe h2]
   obtain⟨y,hy⟩:=X0 (Zk (Q3 z));have j:=Ry h2;have r:Xn y.hd=true:=by rw[<-hy];exact h2
   rw[hy]at n j;have d:∀t:Aa,(∀z∈(Xo y t).flat,Xc z=true)->Q3 (Xo y t)=y:=by
    refine Aa.ind fun h m p v=>?_
    cases c2:Ze (.node h m)with
    |false=>rw[Z7 c2,Y7 j.1]
    |true=>
     have e5:Xo y (.node h m)=.node {Qh 9 with u:=h.u} [D7 y m]:=by rw[Xo,Qe c2]
     cases m with
     |nil=>rw[e5,D7,CA (RJ j.2),Y7 j.1]
     |cons y2 l3=>
      rw[e5,D7]at v|-;rw[CA (RJ (Ms j y2))];exact p y2 sM (Gs v)
   have h3:Xn (Q3 x).hd=true:=by
    rw[e,n,d _ (by rw[<-n,<-e];exact q)];exact r
   rw[hl]at h3;cases h3
 ·rw[Qa c1];refine M2 hs hs.fine.right ?_;unfold Zn;rw[Qe (.inr b)]
def Fy{x:Aa}(hl:Xn (Q3 x).hd=true):Xu x=Xo (Zk (Q3 x)) x:=by unfold Xu;rw[Qe hl]
def Qaw{x c:Aa}{ms cs:Qp}(hs:AX X f x c)(h7:(Q3 x).hd.kind=7)(hm:AX X f (Xo (Hu ms) x) (Hu cs)):
  CD X f (IK f x c) (Hu cs) (Zg f (Hu ms)) ms=Xo (Hu ms) x:=by
 have j:=hs.own
 have z:Xn (Q3 x).hd=true:=by unfold Xn;simp[h7]
 obtain⟨k,b,_⟩:=hs.arr h7
 have v:Zg f (Hu ms)=Hu ms:=XM (show(7:Int)≠8 by decide)
 have n:Xu (Zf f c)=Hu []:=by
  rw[b];unfold Hu;rw[Zf,Qa (show¬(Qh 7).kind=3 by decide),Qe (show(Qh 7).kind=7 from rfl)];rw[Fy (by rw[Qf1];rfl),Qf1,Qek];rfl
 have q:=Fy z
 rw[v]
 unfold IK
 by_cases u:(Xu x).same (Xu (Zf f c))=true
 ·rw[Qe u];show Hu ms=_;have e:=(Ru _ _).1 u;rw[n,q]at e;have d:=FD (y:=Zk (Q3 x)) (t:=x) (by rw[e];decide);rw[Z7 d]
 ·rw[Qa u];refine M2 hm (Eg hs.fine.right) ?_;have m:Q3 (Xu x)=Zk (Q3 x):=by rw[q];exact Ec (Ry z) x j
  unfold Zn;rw[m,Qa (by
   rintro(h|h)
   ·exact h h7
   ·cases h),Qe (show(Hu cs).hd.kind=7 from rfl),q,E4 (Ry z) x j]
  rfl
def dX{a b:List (Qo × Aa)}(hn:(b.map Prod.fst).Nodup)(hp:(a.map Prod.fst).Perm (b.map Prod.fst)):(a.mergeSort FO).map Prod.fst=(b.mergeSort FO).map Prod.fst:=by
 have j:∀c:List (Qo × Aa),((c.mergeSort FO).map Prod.fst).Pairwise fun x y=>XE y x=false:=fun c=>by
  rw[UV];refine(RF P7 P8 c).imp fun h=>?_
  simpa[FO,XE] using h
 refine List.Perm.eq_of_pairwise (le:=fun x y=>XE y x=false) ?_ (j a) (j b) (((I8 a FO).map _).trans (hp.trans ((I8 b FO).map _).symm));intro x y _ _ q v;exact cB v q
def Qax{ps ps':List (Aa × Aa)}(h:ps.map Prod.fst=ps'.map Prod.fst):ps.map V3=ps'.map V3:=by
 have j:=congrArg (List.map fun k=>(Xe k).1) h;rw[Ka,Ka]at j;exact j
def KY(ps:List (Aa × Aa))(qs:List (Qo × Aa)):List (Qo × Aa):=qs.map fun q=>(q.1,(Wl ps q.1).getD Ya)
def Qay{x c:Aa}{ps ps':List (Aa × Aa)}(hs:AX X f x c)(eb:Q3 x=.node (Qh 8) (Qq ps))(hk:ps'.map Prod.fst=ps.map Prod.fst)
  (hm:AX X f (Xo (.node (Qh 8) (Qq ps')) x) (.node (Qh 8) (Zt ((ps'.map (BX X)).mergeSort FO)))):
  CD X f (IK f x c) (.node (Qh 8) (Zt ((ps'.map (BX X)).mergeSort FO))) (Zg f (.node (Qh 8) (Zt (KY ps' ((ps'.map (BX X)).mergeSort FO))))) (Zt (KY ps' ((ps'.map (BX X)).mergeSort FO)))=Xo (.node (Qh 8) (Qq ps')) x:=by
 have n:=hs.own
 have h8:(Q3 x).hd.kind=8:=by rw[eb];rfl
 have hl:Xn (Q3 x).hd=true:=by unfold Xn;simp[h8]
 obtain⟨z,ae,b9,d,ec,_⟩:=hs.map h8
 obtain rfl:z=ps:=by
  rw[eb]at ae;have m:Qq ps=Qq z:=by injection ae
  have h2:=congrArg Xa m;rw[Jq,Jq]at h2;exact h2.symm
 have a6:ps'.map V3=z.map V3:=Qax hk
 have a9:(ps'.map V3).Nodup:=by rw[a6];exact d.2
 have u:∀p∈ps',(Xe p.1).2=true:=fun p hp=>by
  have m:p.1∈z.map Prod.fst:=by rw[<-hk];exact Xq.2 ⟨p,hp,rfl⟩
  obtain⟨q,hq,e⟩:=Xq.1 m;rw[<-e];exact(d.1 q hq).1
 obtain⟨qs,a5⟩:=X0 ((ps'.map (BX X)).mergeSort FO)
 obtain⟨ac,a4⟩:=X0 ((z.map (BX X)).mergeSort FO)
 have a0:∀l:List (Aa × Aa),(l.map (BX X)).map Prod.fst=l.map V3:=fun l=>by rw[Ka];rfl
 have aa:qs.map Prod.fst=ac.map Prod.fst:=by
  rw[<-a5,<-a4];refine dX (by rw[a0,<-a6];exact a9) ?_;rw[a0,a0,a6]
 rw[a5]at hm|-
 rw[a4]at ec
 have b8:qs.Perm (ps'.map (BX X)):=by rw[<-a5];exact I8 _ _
 generalize a1:KY ps' qs=vs
 unfold KY at a1
 have a2:∀r∈ps',(Wl ps' (V3 r)).getD Ya=r.2:=fun r hr=>by rw[Wm a9 hr];rfl
 have a7:=Fy hl
 have af:Zk (Q3 x)=.node (Qh 8) (Qq (z.map fun p=>(p.1,Ya))):=by
  rw[eb];show Aa.node (Qh 8) (BY 8 (Qq z))=_;unfold BY;rw[Qe rfl,OB]
 have ag:Zg f (.node (Qh 8) (Zt vs))=.node (Qh 8) (Qq (CR f (vs.map Rf))):=by rw[Vs,Eh]
 obtain⟨ds,b1⟩:∃ds:List (Qo × Aa),ds=ac.map fun q=>(q.1,Zf f q.2):=⟨_,rfl⟩
 have b6:Xu (Zf f c)=.node (Qh 8) (Qq ((CR f (ds.map Rf)).map fun p=>(p.1,Ya))):=by
  rw[ec,Zf,Qa (show¬(Qh 8).kind=3 by decide),Qa (show¬(Qh 8).kind=7 by decide),Qe (show(Qh 8).kind=8 from rfl),SM,<-b1,Vs,Eh];rw[Fy (by rw[Qf2];rfl),Qf2,Qel];show Aa.node (Qh 8) (BY 8 _)=_;unfold BY;rw[Qe rfl,Aa.Ag,OB]
 have ab:(CR f (ds.map Rf)).map Prod.fst=(CR f (vs.map Rf)).map Prod.fst:=by
  refine tR f ?_;have m:∀l:List (Qo × Aa),(l.map Rf).map Prod.fst=(l.map Prod.fst).map fun s=>(Aa.node (Xy s) []:Aa):=fun l=>by rw[Ka,Ka];rfl
  have h2:ds.map Prod.fst=ac.map Prod.fst:=by rw[b1,Ka];rfl
  have h3:vs.map Prod.fst=qs.map Prod.fst:=by rw[<-a1,Ka];rfl
  rw[m,m,h2,h3,aa]
 rw[ag]
 unfold IK
 by_cases c1:(Xu x).same (Xu (Zf f c))=true
 ·rw[Qe c1];show Aa.node (Qh 8) (Qq (CR f (vs.map Rf)))=_;have e:=(Ru _ _).1 c1;rw[b6,a7]at e;have ht:=FD (y:=Zk (Q3 x)) (t:=x) (by rw[e];exact(show(8:Int)≠9 by decide));rw[Z7 ht,af]at e;rw[Z7 ht];have e3:Qq (z.map fun p=>(p.1,Ya))=Qq ((CR f (ds.map Rf)).map fun p=>(p.1,Ya)):=by injection e
  have e4:ps'.map Prod.fst=(CR f (vs.map Rf)).map Prod.fst:=by
   have m:=congrArg Xa e3;rw[Jq,Jq]at m;have h2:=congrArg (List.map Prod.fst) m;rw[Ka,Ka]at h2;rw[<-ab,hk];exact h2
  congr 2;have ad:(CR f (vs.map Rf)).length=ps'.length:=by
   have:=congrArg List.length e4;simpa using this.symm
  refine List.ext_getElem ad fun j m h2=>?_
  have hz:(CR f (vs.map Rf))[j]∈CR f (vs.map Rf):=Zp m;obtain⟨v,hv,e6⟩:=Xq.1 ((KW f _).mem_iff.1 hz);rw[<-a1]at hv;obtain⟨q,hq,e7⟩:=Xq.1 hv;have h5:ps'[j].1=(CR f (vs.map Rf))[j].1:=by
   have:=List.getElem_of_eq e4 (i:=j) (by simpa using h2);simpa using this
  rw[<-e6,<-e7]at h5|-;have b2:=Zp h2;have b:(Xe ps'[j].1).2=true:=u _ b2;have a3:V3 ps'[j]=q.1:=by
   unfold V3;rw[h5]at b|-;unfold Xe at b|-;split at b
   ·cases b
   ·split at b
    ·cases b
    ·rename_i c1 c2;rw[Qa c1,Qa c2];rfl
  show((.node (Xy q.1) []:Aa),(Wl ps' q.1).getD Ya)=ps'[j];have h6:ps'[j].1=.node (Xy q.1) []:=h5;rw[<-a3,a2 _ b2,a3,<-h6]
 ·rw[Qa c1];refine M2 hm (Eg hs.fine.right) ?_;have b4:Q3 (Xu x)=Zk (Q3 x):=by rw[a7];exact Ec (Ry hl) x n
  have b0:∀l:Qp,Ze (.node (Qh 8) l)=false:=fun l=>Qg6 l
  have ah:Vg f (Zk (Q3 x)) (Zt vs)=.node (Qh 8) (Qq ps'):=by
   have a8:(vs.map Rf).Perm (ps'.map fun p=>((.node (Xy (V3 p)) []:Aa),p.2)):=by
    rw[<-a1,Ka];have m:=b8.map (fun q:Qo × Aa=>Rf (q.1,(Wl ps' q.1).getD Ya));rw[Ka]at m;refine m.trans (List.Perm.of_eq ?_);refine EW fun r hr=>?_
    show Rf (V3 r,(Wl ps' (V3 r)).getD Ya)=_;rw[a2 r hr];rfl
   unfold Vg;simp only;have b7:(Zk (Q3 x)).l=Zs (Qq ps'):=by
    rw[af,OB];show Qq (z.map fun p=>(p.1,Ya))=_;have m:∀l:List (Aa × Aa),(l.map fun p=>(p.1,Ya))=(l.map Prod.fst).map fun k=>(k,Ya):=fun l=>by rw[Ka];rfl
    rw[m,m,hk]
   rw[b7,Vs,Jq,dW ps' _ u a9 a8,Hy,Eh,tU];intro e3;have b3:=BJ X _ hm.own;have b5:Q3 (Xo (.node (Qh 8) (Qq ps')) x)=.node (Qh 8) (Qq ps'):=Ec ⟨b0 _,.inl (show(8:Int)≠7 by decide)⟩ x n;rw[b5]at b3;exact dV (hm.rise e3 _ b3.1 rfl)
  unfold Zn;rw[b4,Qa (by
   rintro(h|h)
   ·exact h h8
   ·cases h),Qa (show¬(Aa.node (Qh 8) (Zt qs)).hd.kind=7 from(show¬(8:Int)=7 by decide)),ah,a7,E4 (Ry hl) x n]
def lE{x:Aa}(ho:∀y∈x.flat,Xc y=true)(e:Q3 x=Hu (Q3 x).l):Xo (Hu (Q3 x).l) x=x:=by
 rw[<-e];exact SL x ho
def Qg8{g:Aa}{p:List Aj}{l:Qp}(hg:MI g p=some (Hu l)){j:Nat}(hj:j<l.length):MI g (p++[X4 j])=some l[j]:=by
 refine P1.2 ⟨_,hg,Cy.2 ⟨j,zG rfl hj,?_⟩⟩;show some (Xp l j)=_;unfold Xp;rw[K9,Km hj];rfl
def Qg9{g:Aa}{p:List Aj}{qs:List (Qo × Aa)}(hg:MI g p=some (.node (Qh 8) (Zt qs)))(hn:(qs.map Prod.fst).Nodup){q:Qo × Aa}(hq:q∈qs):MI g (p++[Yb q.1])=some q.2:=by
 obtain⟨i,j,v⟩:=Qg7 (t:=.node (Qh 8) (Zt qs)) (ps:=qs.map Rf) rfl (by rw[Aa.Ag,Vs]) (fun z y=>by
  obtain⟨q,_,rfl⟩:=Xq.1 y;rfl) (by rw[Ka];exact hn) (Xq.2 ⟨q,hq,rfl⟩)
 exact P1.2 ⟨_,hg,Cy.2 ⟨i,j,by rw[v];rfl⟩⟩
def dY(i:Nat):X5 (X4 i)=true:=by
 unfold X5 X4;simp
def tW{c:Aa}{qs:List (Qo × Aa)}(hc:AA c)(e:c=.node (Qh 8) (Zt qs)){q:Qo × Aa}(hq:q∈qs):X5 (Yb q.1)=true:=by
 have v:(Aa.node (Xy q.1) []:Aa)∈c.l:=by
  rw[e];show _∈Zt qs;unfold Zt;exact Nm.2 ⟨q,hq,sM⟩
 have j:=hc.1 _ (Hz v);unfold Xc at j;simp[Xy,Qh,Zr]at j;have y:=Zo j.1;unfold X5 Yb;simp[j.2,y]
def Qem{qs:List (Qo × Aa)}{q:Qo × Aa}(hq:q∈qs):q.2∈Zt qs:=by
 unfold Zt;exact Nm.2 ⟨q,hq,sM⟩
def lF{p:List Aj}{c:Aa}(hp:∀s∈p,X5 s=true)(h:p.length+c.depth<=17):Xv p=true:=by
 have:1<=c.depth:=by obtain⟨h,l⟩:=c;rw[Aa.depth];omega
 unfold Xv;rw[X1,Zz,Vf];exact⟨oM,hp⟩
def Wt{p:List Aj}{s:Aj}(hp:∀s∈p,X5 s=true)(hs:X5 s=true):∀x∈p++[s],X5 x=true:=by
 intro x hx;rcases Kn.1 hx with h|h
 ·exact hp x h
 ·rw[Zm]at h;rw[h];exact hs
def Qaz:∀(c:Aa) (x g n:Aa) (p:List Aj),AX X f x c->p.foldl Kq n=x->MI g p=some c->(∀s∈p,X5 s=true)->p.length+c.depth<=17->
  (∀q d,MI g q=some d->Xv q=true->own q=IK f (q.foldl Kq n) d)->Ge X f own c p=x:=by
 refine Aa.ind fun hd l ih x g n p hs hx hg hp aa a0=>?_
 have ad:=lF hp aa
 have ho:=a0 p _ hg ad
 rw[hx]at ho
 have a1:=hs.own
 cases hl:Xn (Q3 x).hd with
 |false=>
  have a2:=hs.leaf hl;have ac:hd.kind≠7/\hd.kind≠8:=by
   unfold Xn at a2;rw[Bool.or_eq_false_iff]at a2;exact⟨M0 a2.1,M0 a2.2⟩
  rw[Ge,Qa ac.1,Qa ac.2,ho];exact tV hs hl
 |true=>
  by_cases h7:(Q3 x).hd.kind=7
  ·obtain⟨e7,b,z⟩:=hs.arr h7;have u:=lE a1 e7;have b1:=h7;obtain⟨m,hm⟩:∃m,(Q3 x).l=m:=⟨_,rfl⟩;rw[hm]at e7 b z u;have a6:hd=Qh 7:=by unfold Hu at b;injection b
   have el:l=m.map fun y=>(y.proj X).1:=by unfold Hu at b;injection b
   subst a6;have a3:IJ X f own l p 0=m:=by
    rw[Ws];have a7:l.length=m.length:=by rw[el,Vq]
    refine List.ext_getElem (by rw[Vq,KS,a7]) fun j h1 h2=>?_
    rw[Of,List.getElem_range,Z3];have hj:j<l.length:=by omega
    have b0:Xp l j=l[j]:=by unfold Xp;rw[K9,Km hj];rfl
    have ah:Xp m j=m[j]:=by unfold Xp;rw[K9,Km h2];rfl
    have af:l[j]=(m[j].proj X).1:=by simp only[el,Of]
    have ae:=Co (t:=.node (Qh 7) l) (k:=l[j]) (Zp hj);rw[b0];refine ih l[j] (Zp hj) m[j] g n _ (by rw[af];exact z _ (Zp h2)) ?_ (Qg8 hg hj) (Wt hp (dY j)) ?_ a0
    ·rw[O5,hx];show Kq x (X4 j)=_;rw[KU h7,hm,ah]
    ·rw[Zv];simp only[Xf,Vp];omega
   rw[Ge,Qe (show(Qh 7).kind=7 from rfl),a3,ho]
   have:=Qaw (ms:=m) (cs:=l) hs b1 (by rw[u];exact hs);rw[u]at this;exact this
  ·have h8:(Q3 x).hd.kind=8:=by
    unfold Xn at hl;simp only[Y2,Zz]at hl;omega
   obtain⟨ps,eb,b2,a5,b,z⟩:=hs.map h8;have u:Xo (.node (Qh 8) (Qq ps)) x=x:=by rw[<-eb];exact SL x a1
   have v:=Qay (ps':=ps) hs eb rfl (by rw[u,<-b];exact hs);rw[<-b,u]at v;obtain⟨qs,a8⟩:∃qs,(ps.map (BX X)).mergeSort FO=qs:=⟨_,rfl⟩;rw[a8]at b v;have a6:hd=Qh 8:=by injection b
   have el:l=Zt qs:=by injection b
   subst a6;have ab:qs.Perm (ps.map (BX X)):=by rw[<-a8];exact I8 _ _
   have a4:(ps.map V3).Nodup:=a5.2;have ag:(qs.map Prod.fst).Nodup:=by
    have h1:=ab.map Prod.fst;rw[Ka]at h1;exact h1.nodup_iff.2 a4
   have a3:BS X f own l p=Zt (KY ps qs):=by
    rw[el,KX];unfold KY;congr 1;refine EW fun q hq=>?_
    obtain⟨r,hr,e⟩:=Xq.1 (ab.mem_iff.1 hq);have e:q=(V3 r,(r.2.proj X).1):=e.symm;have a9:q.2∈l:=by rw[el];exact Qem hq
    have hv:(Wl ps q.1).getD Ya=r.2:=by rw[e,Wm a4 hr];rfl
    have ae:=Co (t:=.node (Qh 8) l) (k:=q.2) a9;rw[hv];congr 1;refine ih q.2 a9 r.2 g n _ (by rw[e];exact z r hr) ?_ (Qg9 (by rw[<-el];exact hg) ag hq) (Wt hp (tW hs.right b hq)) ?_ a0
    ·rw[O5,hx];show Kq x (Yb q.1)=_;rw[e];exact KT eb a4 hr
    ·rw[Zv];simp only[Xf,Vp];omega
   rw[Ge,Qa (show¬(Qh 8).kind=7 by decide),Qe (show(Qh 8).kind=8 from rfl),a3,ho];exact v
end
def Wu:∀{l:Qp} {p:Qo × Aa},p∈Kv l->p.2∈l
 | [],p,h=>by cases h
 | [_],p,h=>by cases h
 |k::x::l,p,h=>by
  rw[Kv]at h;rcases Xg.1 h with rfl|h
  ·simp
  ·have:=Wu h;simp[this]
def Qa0:∀t:Aa,O1 t.ord:=by
 refine Aa.ind fun h l y=>?_
 rw[Aa.ord];have q:∀k∈Gv l,O1 k:=fun k q=>by
  rw[EI]at q;obtain⟨x,hx,rfl⟩:=Xq.1 q;exact y x hx
 split
 ·rename_i v;refine EJ (fun _=>IF _) fun k j=>?_
  unfold Jg at j;obtain⟨p,z,j⟩:=Nm.1 j;rcases Xg.1 j with rfl|j
  ·exact Ln _
  ·rw[Zm.1 j];exact q _ (Wu (My.1 z))
 ·rename_i v;exact EJ (fun e=>absurd e v) q
def SN{α β:Type}[DecidableEq α](F:α->Option β)(p:α)(pred:α × β->Bool):∀L:List α,(∀q∈L,∀y,pred (q,y)=decide (q=p))->
  ((L.filterMap fun q=>(F q).map fun x=>(q,x)).find? pred).map Prod.snd=if p∈L then F p else none
 | [],_=>sM
 |q::L,h=>by
  have ih:=SN F p pred L fun r j=>h r (Kk _ j)
  have v:=h q sM;rw[ZD];cases hf:F q with
  |none=>
   show((L.filterMap fun q=>(F q).map fun x=>(q,x)).find? pred).map Prod.snd=_;rw[ih];by_cases e:p=q
   ·subst e;rw[hf];simp
   ·have:(p∈q::L)↔p∈L:=by simp[e]
    simp only[this]
  |some x=>
   show(((q,x)::L.filterMap fun q=>(F q).map fun x=>(q,x)).find? pred).map Prod.snd=_;rw[LD,v];by_cases e:q=p
   ·subst e;rw[Kp rfl,Qe sM,hf];rfl
   ·rw[Z4 e];simp only;rw[ih];have:(p∈q::L)↔p∈L:=by simp[Ne.symm e]
    simp only[this]
section
variable{X:Hd->Dc × Bool}{f:Int}
def pT{g d:Aa}{q:List Aj}(hq:Xv q=true)(hg:MI g q=some d):D8 g q=some d:=by unfold D8;rw[Qe hq,hg]
def Qa1{n:Aa}(h:(Gz X n f).2=0):∀q d,MI (Q8 X n f).1 q=some d->Xv q=true->KM (Gz X n f).1 q=IK f (q.foldl Kq n) d:=by
 intro q d m v;have u:(Q8 X n f).2=0:=by
  unfold Gz at h;by_cases c:(Q8 X n f).2=0
  ·exact c
  ·rw[Qe c]at h;exact h
 have t:¬(f=3/\Kz n=false):=fun c=>by
  unfold Gz at h;rw[Qa (fun e=>e u),Qe c]at h;cases h
 have e:(Gz X n f).1=(Th (Q8 X n f).1).filterMap fun p=>(IK f (p.foldl Kq n) ((D8 (Q8 X n f).1 p).getD (.node (Qh 0) []))).map fun x=>(p,x):=by
  unfold Gz;rw[Qa (fun e=>e u),Qa t];show List.filterMap _ _=_;congr 1;funext p;unfold IK;split
  ·rename_i c;rw[Qe c];rfl
  ·rename_i c;rw[Qa c];rfl
 unfold KM;rw[Qe v,e,SN (fun p=>IK f (p.foldl Kq n) ((D8 (Q8 X n f).1 p).getD (.node (Qh 0) []))) q]
 ·rw[Qe (Tz.2 ⟨v,d,m⟩),pT v m];rfl
 ·intro p b y;have j:=(Tz.1 b).1;show(Xv p&&decide (Z1 p=Z1 q))=_;rw[j,MY];by_cases z:p=q
  ·rw[z,Kp rfl,Kp rfl]
  ·rw[Z4 z,Z4 fun h=>z (dQ j v h)]
def Qen{n:Aa}(h:(Gz X n f).2=0):(Q8 X n f).2=0/\(f=3->Kz n=true):=by
 unfold Gz at h;by_cases c:(Q8 X n f).2=0
 ·refine⟨c,fun e=>?_⟩;cases hs:Kz n with
  |true=>rfl
  |false=>
   rw[Qa (fun e=>e c),Qe ⟨e,hs⟩]at h;cases h
 ·rw[Qe c]at h;exact absurd h c
def pU{n:Aa}(hc:n.count<=1152921504606846976)(h:(Q8 X n f).2=0)(hs:f=3->Kz n=true):AX X f n (Q8 X n f).1:=by
 obtain⟨c,d,b,v⟩:=KQ X h;have t:=(DH hc).1 c;have z:(n.proj X).1.count<=n.count:=Aa.AN X n;refine⟨t,by rw[v];exact Prod.ext rfl d,by rw[v];exact(Ef oM).1 b,fun e y u m=>?_⟩;have j:=hs e;unfold Kz at j;rw[X1,Vf]at j;have q:=j.2 y u;rw[Z4 (fun e=>e m),Bool.false_or]at q;exact q
def Qa2{n:Aa}(hc:n.count<=1152921504606846976)(h:(Gz X n f).2=0):XK X (Q8 X n f).1 f (Gz X n f).1=(n,0):=by
 obtain⟨q,y⟩:=Qen h;have j:=pU hc q y;have v:=Qaz (own:=KM (Gz X n f).1) (Q8 X n f).1 n (Q8 X n f).1 n [] j rfl rfl sM (by have:=j.right.2.1;simp;omega) (Qa1 h);unfold XK;rw[Qa (by rw[(tL X q).2.2.1];decide)];simp only;rw[v,Qa (fun e=>e j.fine.check)]
end
def OC(w:Qm)(k:Nat)(s:Qo)(pos:Nat):Ac (fun b _=>b≠k) w (w.iterAt k s pos):=
 ⟨rfl,rfl,rfl,by rw[Lib.iterAt_size];exact Q6 _,fun b o q j=>(Lib.iterAt_other w k b s pos j).trans q⟩
def PH(l:Qv):Nat:=(l.takeWhile Za).length
def Qeo(l:Qv):PH l<=l.length:=(List.takeWhile_prefix Za).length_le
def pV:∀(l:Qv) (k:Nat),k<l.length->(∀j,j<k->Za (Zi l j)=true)->Za (Zi l k)=true->k<PH l
 |x::l,0,_,_,h=>by
  have h0:Za x=true:=h;unfold PH;rw[GB h0];simp
 |x::l,k+1,h,hp,hk=>by
  have h0:Za x=true:=hp 0 oM
  have:=pV l k (by simpa using h) (fun j q=>hp (j+1) oM) hk;unfold PH at this|-;rw[GB h0];simp only[Xf];omega
def KZ:∀(l:Qv) (k:Nat),k<l.length->(∀j,j<k->Za (Zi l j)=true)->Za (Zi l k)=false->PH l=k
 |x::l,0,_,_,h=>by
  have h0:Za x=false:=h;unfold PH;rw[List.takeWhile_cons_of_neg (by simp[h0])];rfl
 |x::l,k+1,h,hp,hk=>by
  have h0:Za x=true:=hp 0 oM
  have:=KZ l k (by simpa using h) (fun j q=>hp (j+1) oM) hk;unfold PH at this|-;rw[GB h0];simp only[Xf];omega
def dZ:∀(l:Qv),(∀j,j<l.length->Za (Zi l j)=true)->PH l=l.length
 | [],_=>rfl
 |x::l,hp=>by
  have h0:Za x=true:=hp 0 sM
  have:=dZ l (fun j q=>hp (j+1) (by simpa using q));unfold PH at this|-;rw[GB h0];simp only[Xf];omega
def lG{P Q:Prop}(h:Q)(f:Wz Q->P:=by
 intro zz;simp only[Exit.noGoto];refine bodyPost_end (Dr rfl _ _ _) rfl ?_;exact zz.o):P:=f ⟨h⟩
def eA(s:Qo)(bs:Nat)(Sb Si:Nat->Obj->Prop)(W:Qm)
  (hs:s.size<=9223372036854775807)(hbs:Boxed W bs 9 (.string s))(hSb:∀c f,Sb bs (.cells c 9 f))(hSb2:∀b o,W.heap.size<=b->o.isCells=false->Sb b o)
  (hSi:∀b o,Si b o->b<W.heap.size∨o.isCells=true):
  Hk prog 393 #[.pointer (some ⟨bs,0,none⟩)] (PH (Qf s)) (fun i v _=>v=#[.int .i32 (Zi (Qf s) i)]) Sb Si (fun _=>True) (fun _ _=>True) W:=by
 rintro l J Jx ah hJ b5 hY h0
 obtain⟨r,hl⟩:=ah 0 W h0
 have n1:=J2 hbs.cell hl
 have zl:=Qg hl
 have z1:=Qg hbs
 have b4:=hbs.cell
 have d:=Q9 s
 refine Nf func393 rfl trivial ?_ rfl
 simp only[ntmps393]
 refine Ie ?_
 replace d:=Qc d
 refine Jy ?_
 gi_wp2
 refine Ez ?_
 gi_wp2
 have ab:Qd W (W.iter s 0):=(Ac.refl _ W).alloc _
 gi_loopw [4] (fun _ wr=>∃k:Nat,k<=s.size/\(∀j,j<k->Za (Zi (Qf s) j)=true)/\wr.heap[W.heap.size]? =some (.stringIter s k)/\J k wr/\Boxed wr bs 9 (.string s))
  (fun _ wr=>s.size-wr.iterPos W.heap.size)
 case atStart=>exact⟨0,Xi _,fun j hj=>absurd hj (Nat.not_lt_zero j),World.iter_heap W s 0,hJ _ _ _ h0 (Ac.of_same ab),ab.boxed hbs trivial⟩
 case round=>
  obtain⟨k,hk,hp,a0,hj,ac⟩:=hrel;have c1:=ac.cell;replace hp:=Qc hp;have a1:wr.iterPos W.heap.size=k:=by simp[World.iterPos,a0]
  replace a1:=Qc a1;by_cases z:k<s.size
  ·obtain⟨W1,a3⟩:=X0 (wr.iterAt W.heap.size s (k+(Utf8.decode s k).2));have a2:=fun ty=>Lib.run_next_any_at (P:=prog) wr W.heap.size s k ty a0 z
   rw[a3]at a2;have a9:Ac (fun b _=>b≠W.heap.size) wr W1:=by rw[<-a3];exact OC wr _ s _
   have x:W1.heap[W.heap.size]? =some (.stringIter s (k+(Utf8.decode s k).2)):=by rw[<-a3];exact Lib.iterAt_heap wr _ s k _ a0
   replace x:=Qc x;clear a3;have aa:=a9.boxed ac oM;have d1:=aa.cell;have a6:J k W1:=hJ _ _ _ hj (a9.mono fun b o hb h=>by
    rintro rfl;rw[a0]at hb;cases hb;rcases hSi _ _ h with h|h
    ·omega
    ·cases h)
   have n:=Cc s z;replace n:=Qc n;by_cases hg:Za (Zi (Qf s) k)=true
   ·have a7:Zi (Qf s) k<128:=by
     simp[Za]at hg;omega
    have u:=decode_ascii s k z (by rw[<-n.out];exact a7);rw[<-n.out]at u;rw[u]at a2;have t:W1.heap[W.heap.size]? =some (.stringIter s (k+1)):=by have:=x.out;rw[u]at this;exact this
    replace t:=Qc t;clear u;have ae:=pV (Qf s) k (by rw[d.out];exact z) hp.out hg;obtain⟨fn,b3,ag,b2,b0,hR⟩:=hY k _ _ ae a6 rfl;have q:=fun W=>I3 (Zi (Qf s) k) W
    rw[hg]at q;replace hg:=Qc hg;gi_wp2_with(gi_at_call 270;refine(Qr (q _)).mono ?_;rintro e w' ⟨rfl,rfl⟩);refine hR.mono ?_;rintro e W3 ⟨a8,p⟩;have af:=a8.boxed aa ⟨n1,hSb _ _⟩;have b1:=af.cell;have a5:W3.heap[W.heap.size]? =some (.stringIter s (k+1)):=a8.same _ _ t.out ⟨oM,hSb2 _ _ (Q6 _) rfl⟩;have m:W3.iterPos W.heap.size=k+1:=by simp[World.iterPos,a5]
    replace m:=Qc m;clear hR b0 a2 a6 q;rcases p with⟨rfl,p⟩| ⟨rfl,p⟩
    ·gi_wp2;go_roundw
     case rel=>
      refine⟨k+1,oM,fun j hj=>?_,a5,p,af⟩;by_cases e:j=k
      ·subst e;exact hg.out
      ·exact hp.out j oM
     case measure=>rw[a1.out,m.out];omega
    ·gi_wp2;refine lG ?_;exact⟨⟨_,rfl⟩,.inr ⟨k,ae,p,trivial⟩⟩
   ·have y:Za (Zi (Qf s) k)=false:=by simpa using hg
    have a4:Za (Utf8.decode s k).1=false:=by
     by_cases h:Zi (Qf s) k<128
     ·have:=decode_ascii s k z (by rw[<-n.out];exact h);rw[this];rw[<-n.out];exact y
     ·have:=(decode_high s k z (by rw[<-n.out];omega)).1;simp[Za];omega
    have e1:=KZ (Qf s) k (by rw[d.out];exact z) hp.out y;have q:=fun W=>I3 (Utf8.decode s k).1 W
    rw[a4]at q;have E1:=Qc e1;clear a4 e1 hg y;gi_wp2_with(gi_at_call 270;refine(Qr (q _)).mono ?_;rintro e w' ⟨rfl,rfl⟩);refine lG ?_;exact⟨⟨_,rfl⟩,.inl ⟨by rw[E1.out];exact a6,trivial⟩⟩
  ·have a2:=fun ty=>Lib.run_next_end_at (P:=prog) wr W.heap.size s k ty a0 z
   have ad:k=s.size:=oM;have e1:=dZ (Qf s) fun j hj=>hp.out j (by rw[d.out]at hj;omega)
   rw[d.out,<-ad]at e1;replace e1:=Qc e1;subst ad;gi_wp2;refine lG ?_;exact⟨⟨_,rfl⟩,.inl ⟨by rw[e1.out];exact hj,trivial⟩⟩
def Vb(s:Qo)(cs:Qv):Bool:=decide (0<s.size)&&cs.contains (Zi (Qf s) 0)
def Zx(s:Qo):Qo:=s.extract 1 s.size
def Ca(s:Qo):Qo:=s.extract 0 (PH (Qf s))
def Ei(s:Qo):Qo:=s.extract (PH (Qf s)) s.size
def IL(s:Qo):Qo × Qo:=if Vb s [48]then(⟨#[48]⟩,Zx s)else(Ca s,Ei s)
def IM(s:Qo):Qo × Qo:=if Vb s [46]=true/\(Ca (Zx s)).size≠0 then(Ca (Zx s),Ei (Zx s))else(⟨#[]⟩,s)
abbrev RB(rb:Nat)(s:Qo)(w:Qm):Prop:=w.heap[rb]? =some (.cells #[.string s] 305 (0,0))
def T1(rb:Nat)(s:Qo)(b:Bool)(w:Qm)(e:Ending)(w':Qm):Prop:=e=.returned (.bool b)/\RB rb (if b then Zx s else s) w'/\Ac (fun k _=>k≠rb) w w'
def Wv(rb lb:Nat)(s:Qo)(cs:Qv)(w:Qm)(hrb:RB rb s w)(hlb:∀j,j<cs.length->w.cell? ⟨lb,j,none⟩=some (.int .u8 (Zi cs j)))(hl:cs.length<=10)(hs:s.size<=1099511627776):
  Calls prog 293 #[.pointer (some ⟨rb,0,none⟩),.slice (some ⟨lb,0,none⟩) cs.length cs.length] w (T1 rb s (Vb s cs) w):=by
 have c0:=Q4 hrb
 have r:=Jd hrb
 replace hlb:=Qc hlb
 go_in
 go_wp2
 go_loop [6,9] (fun _ i=>∃k:Nat,k<=cs.length/\i=i6 (k:Int)/\Vb s cs=Vb s (cs.drop k)) (fun _ i=>cs.length-(RowKit.intOf i).toNat)
 case atStart=>exact⟨0,Xi _,rfl,rfl⟩
 case round=>
  obtain⟨k,hk,rfl,y⟩:=hrel;by_cases n:k<cs.length
  ·have p:=hlb.out k n;have v:cs.drop k=Zi cs k::cs.drop (k+1):=by
    rw[Dq n];congr 1;simp[Zi,n]
   rw[v]at y;by_cases c:s.size=0
   ·have d:s.toList=[]:=by
     have:s=ByteArray.empty:=by simpa using c
     rw[this,Hx];rfl
    have q:Vb s cs=Vb s (cs.drop (k+1)):=by
     rw[y];unfold Vb;simp[c]
    have f:=Qc q;clear y q v c;go_wp2_with fail;go_round
    case rel=>exact⟨k+1,oM,by go_num,f.out⟩
    case measure=>simp[RowKit.intOf];omega
   ·have z:0<s.size:=oM;have u:=Cc s z;have d:s.toList.isEmpty=false:=by
     rw[Hx];cases h:s.data.toList with
     |nil=>
      have:s.data.toList.length=s.size:=sM;rw[h]at this;simp at this;omega
     |cons x l=>rfl
    have e2:(s.toList==[])=false:=by cases h:s.toList with
     |nil=>rw[h]at d;cases d
     |cons x l=>rfl
    clear d;by_cases m:Zi (Qf s) 0=Zi cs k
    ·have q:Vb s cs=true:=by
      rw[y];unfold Vb;simp[z,m]
     have b:((s[0]).toNat:Int)=(Zi cs k:Int):=by rw[<-u,m]
     have f:=Qc q;rw[u]at m;rw[<-m]at p;clear y q v c b u m;go_wp2_with fail;go_ret;rw[f.out];exact⟨rfl,Qk hrb 0 _,(Ac.refl _ _).setCell _ fun o _ h _=>h rfl⟩
    ·have q:Vb s cs=Vb s (cs.drop (k+1)):=by
      rw[y];unfold Vb;simp[m]
     have b:(((s[0]).toNat:Int)==(Zi cs k:Int))=false:=by rw[u]at m;simp;omega
     replace q:=Qc q;clear y v c u m;go_wp2_with fail;go_round
     case rel=>exact⟨k+1,oM,by go_num,q.out⟩
     case measure=>simp[RowKit.intOf];omega
  ·obtain rfl:k=cs.length:=oM;have t:Vb s cs=false:=by rw[y,FR];unfold Vb;simp
   replace t:=Qc t;clear y;go_wp2_with fail;go_ret;rw[t.out];exact⟨rfl,hrb,Ac.refl _ _⟩
def tX(s:Qo)(w:Qm):Calls prog 371 #[.string s] w fun e w'=>e=.returned (.func (.func 393) #[] #[.pointer (some ⟨w.heap.size,0,none⟩)])/\w'=w.alloc (.cells #[.string s] 9):=by
 go_in;exact Nv
def GC(rb:Nat)(r:Qo × Qo)(w:Qm)(e:Ending)(w':Qm):Prop:=e=.returned (.string r.1)/\RB rb r.2 w'/\Ac (fun k _=>k≠rb) w w'
def DI(rb:Nat)(s:Qo)(w:Qm)(hrb:RB rb s w)(hs:s.size<=1099511627776):
  Calls prog 343 #[.pointer (some ⟨rb,0,none⟩)] w (GC rb (Ca s,Ei s) w):=by
 have a2:=Qeo (Qf s)
 rw[Q9]at a2
 have a9:=Qg hrb
 generalize hd:PH (Qf s)=d at a2
 have HD:=Qc hd
 refine(J5 (n:=0)).1 (Vy func343 rfl trivial ?_ rfl)
 simp only[ntmps343]
 refine Ie ?_
 have c0:=X9 (Q4 hrb)
 gi_wp2_with(first
  | (gi_at_call 371;refine(Qr (tX _ _)).mono ?_;rintro e w' ⟨rfl,rfl⟩))
 clear c0
 generalize u:World.alloc _ (.cells #[.string s] 9)=W1
 have hz:W1.heap.size=w.heap.size+2:=by rw[<-u];simp
 have a3:Qd w W1:=by rw[<-u];exact(((Ac.refl _ w).alloc _).alloc _)
 have b1:Boxed W1 w.heap.size 3 (i6 ((0:Nat):Int)):=by rw[<-u];exact CH
 have b2:Boxed W1 (w.heap.size+1) 9 (.string s):=by rw[<-u];exact CH
 clear u
 have a1:=a3.s hrb
 refine Rx (gf:=393) (lb:=#[pt (w.heap.size+1)])
  rfl (X3 func393 kM rfl) d (fun i v _=>v=#[.int .i32 (Zi (Qf s) i)]) (fun b o=>b≠w.heap.size∨∀c f,o≠ .cells c 3 f) (fun b o=>b<w.heap.size+4∨o.isCells=true)
  (fun _=>True) (fun _ _=>True) ?hit ?hSb ?hSi (fun i A=>Boxed A w.heap.size 3 (i6 (i:Int))) (fun _ _ _=>False) ?hI (fun _ _ _ _ h _=>h) ?hE (fun _ _ _ _=>trivial) (fun _ _ _ _ _=>trivial) ?hEs b1 ?hround ?hdone (fun _ _ _ _ _ _ h=>h.elim)
 case hit=>
  intro W2 a8 a4
  have:=eA s (w.heap.size+1) (fun b o=>b≠w.heap.size∨∀c f,o≠ .cells c 3 f) (fun b o=>b<w.heap.size+4∨o.isCells=true) W2 oM (a8.boxed b2 trivial) (fun c f=>.inr sM) (fun b o _ t=>.inr fun c f e=>by subst e;cases t) (fun b o h=>by rw[a4,hz];exact h);rw[HD.out]at this;exact this
 case hSb=>exact fun b o hb t=>.inr fun c f e=>by subst e;cases t
 case hSi=>exact fun b o _ h _=>.inl oM
 case hI=>exact fun i A B h hk=>hk.boxed h ⟨.inr rfl,.inr rfl⟩
 case hE=>exact fun i v A B h _=>h
 case hEs=>rintro i v A rfl;rfl
 case hround=>
  intro i v hv;obtain⟨x,rfl⟩:=E7 rfl hv;apply Exists.intro;apply And.intro
  ·exact LX
  ·rintro l2 A ab _ hi h1 _;have c0:=h1.cell;have f0:=h1.frozen;gi_wp2;refine⟨(Ac.refl _ A).setCell _ fun o t hs _=>?_,by have:=h1.set (i6 ((i:Int)+1));simpa using this⟩;have a5:A.heap[w.heap.size]? =some (.cells #[i6 (i:Int)] 3 (0,0)):=h1;rw[show((ad w.heap.size 0):Addr).block=w.heap.size from rfl,a5]at t;cases t;rcases hs with hs|hs
   ·exact hs rfl
   ·exact hs _ _ rfl
 case hdone=>
  rintro D A hD h1 _ hk a7;have j:RB rb s A:=hk.same _ _ a1 ⟨.inl oM,.inl oM⟩;have c0:=Q4 j;have c1:=h1.cell;have m:Qd w A:=Ho a3 hk fun b o hb=>⟨.inl (Ku hb),.inl (Ku hb)⟩
  gi_wp2_with fail;refine Ja (fun Z=>RB rb s Z/\Boxed Z w.heap.size 3 (i6 (d:Int))) reads (fun _=>trivial) rfl kM kM ⟨j,h1⟩ ?_;repeat refine sX ?_
  refine Jc ?_;gi_wp2_with fail;refine Gh (fun Z=>RB rb s Z/\Boxed Z w.heap.size 3 (i6 (d:Int))) reads (fun _=>trivial) rfl kM rfl kM kM ⟨j,h1⟩ ?_;simp only[Vz];repeat refine sX ?_
  refine DA ?_;have aa:=Jd j;go_simp;gi_wp2;have q:Ac (fun k _=>k≠rb) A (A.setCell (ad rb 0) (.string (s.extract d s.size))).drew.drew:=(((Ac.refl _ _).setCell _ fun o _ h _=>h rfl).drew).drew;have a0:=q.same _ _ a7 oM;have p:RB rb (s.extract d s.size) (A.setCell (ad rb 0) (.string (s.extract d s.size))).drew.drew:=Qk j 0 _;generalize(A.setCell (ad rb 0) (.string (s.extract d s.size))).drew.drew=B at q a0 p|-;refine⟨sM,.inl ⟨_,_,rfl,Vx a0,?_⟩⟩;have z:=(Ac.refl (fun k o=>k≠D∨o.isCells=true) B).putObj (r:=D) (.deferred none) fun o t hs _=>by rw[a0]at t;cases t;rcases hs with h|h;exact h rfl;cases h
  refine⟨_,Gn rfl _ _ _,⟨?_,?_,?_⟩⟩
  ·unfold Ca;rw[HD.out];rfl
  ·show RB rb (Ei s) _;unfold Ei;rw[HD.out];exact z.same _ _ p (.inr rfl)
  ·exact⟨z.os.trans (q.os.trans m.os),z.tape.trans (q.tape.trans m.tape),z.output.trans (q.output.trans m.output),Qj m.size (Qj q.size z.size),fun y o hy a6=>z.same y o (q.same y o (m.same y o hy trivial) a6) (.inl (Ku hy))⟩
def Cp(s:Qo):(Zx s).size<=s.size:=by unfold Zx;rw[L7];omega
def DJ(s:Qo):(Ca s).size<=s.size:=by unfold Ca;rw[L7];omega
def Ww(s:Qo):(Ei s).size<=s.size:=by unfold Ei;rw[L7];omega
def OD(rb:Nat)(s:Qo)(c:Nat)(w:Qm)(hrb:RB rb s w)(hs:s.size<=1099511627776):
  Calls prog 293 #[.pointer (some ⟨rb,0,none⟩),.slice (some ⟨w.heap.size,0,none⟩) 1 1] (w.alloc (.cells #[.int .u8 (c:Int)] 5)) (T1 rb s (Vb s [c]) (w.alloc (.cells #[.int .u8 (c:Int)] 5))):=
 Wv rb w.heap.size s [c] _ (Qb hrb) (fun j q=>by
  obtain rfl:j=0:=by simpa using q
  exact Q4 (Qt w _)) sM hs
def Qep(rb:Nat)(s:Qo)(c d:Nat)(w:Qm)(hrb:RB rb s w)(hs:s.size<=1099511627776):
  Calls prog 293 #[.pointer (some ⟨rb,0,none⟩),.slice (some ⟨w.heap.size,0,none⟩) 2 2] (w.alloc (.cells #[.int .u8 (c:Int),.int .u8 (d:Int)] 5)) (T1 rb s (Vb s [c,d]) (w.alloc (.cells #[.int .u8 (c:Int),.int .u8 (d:Int)] 5))):=
 Wv rb w.heap.size s [c,d] _ (Qb hrb) (fun j q=>by
  have:j=0∨j=1:=by simp at q;omega
  rcases this with rfl|rfl
  ·exact(Ys (Qt w _)).1
  ·exact(Ys (Qt w _)).2) sM hs
def DK{rb:Nat}{w w':Qm}{o:Obj}(h:Ac (fun k _=>k≠rb) (w.alloc o) w'):Ac (fun k _=>k≠rb) w w':=((Ac.refl _ w).alloc o).trans h
def Qa3(rb:Nat)(s:Qo)(w:Qm)(hrb:RB rb s w)(hs:s.size<=1099511627776):
  Calls prog 294 #[.pointer (some ⟨rb,0,none⟩)] w (GC rb (IL s) w):=by
 have j:=OD rb s 48 w hrb hs
 obtain⟨b,z⟩:=X0 (Vb s [48])
 have y:IL s=if b then(⟨#[48]⟩,Zx s)else(Ca s,Ei s):=by unfold IL;rw[z]
 rw[z]at j
 replace y:=Qc y
 clear z
 go_in
 go_wp2_with fail
 refine j.mono ?_
 rintro e d ⟨rfl,q,m⟩
 have v:=DK m
 clear j
 cases b with
 |true=>
  go_wp2_with fail;go_ret;rw[y.out];exact⟨rfl,q,v⟩
 |false=>
  have n:=DI rb s d q hs;go_wp2_with fail;refine n.mono ?_;rintro e f ⟨rfl,c,u⟩;go_wp2_with fail;go_ret;rw[y.out];exact⟨rfl,c,v.trans u⟩
def Qeq(rb:Nat)(s:Qo)(w:Qm)(hrb:RB rb s w)(hs:s.size<=1099511627776):
  Calls prog 295 #[.pointer (some ⟨rb,0,none⟩)] w (GC rb (IM s) w):=by
 have m:=OD rb s 46 w hrb hs
 obtain⟨b,d⟩:=X0 (Vb s [46])
 have z:IM s=if b=true/\(Ca (Zx s)).size≠0 then(Ca (Zx s),Ei (Zx s))else(⟨#[]⟩,s):=by unfold IM;rw[d]
 rw[d]at m
 replace z:=Qc z
 clear d
 have r:=Q4 hrb
 go_in
 go_wp2_with fail
 refine m.mono ?_
 rintro e p ⟨rfl,y,t⟩
 have n:=DK t
 clear m r
 cases b with
 |true=>
  have j:=DI rb (Zx s) p y (Qj (Cp s) hs);generalize hD:Ca (Zx s)=D at j z;generalize k:Ei (Zx s)=R at j z;clear hD k;go_wp2_with fail;refine j.mono ?_;rintro e w2 ⟨rfl,v,c⟩;by_cases u:D.size=0
  ·have e1:D.toList=[]:=by
    have:D=ByteArray.empty:=by simpa using u
    rw[this,Hx];rfl
   have q:=Qc (show IM s=(⟨#[]⟩,s) from by rw[z.out];simp[u]);have c2:=Q4 v;have f:=Jd v;clear u j;go_wp2_with fail;go_ret;rw[q.out];exact⟨rfl,Qk v 0 _,(n.trans c).setCell _ fun o _ h _=>h rfl⟩
  ·have e1:(D.toList==[])=false:=by
    cases h:D.toList with
    |nil=>
     have:D.toList.length=D.size:=by rw[Hx];simp
     rw[h]at this;simp at this;omega
    |cons x l=>rfl
   have q:=Qc (show IM s=(D,R) from by rw[z.out];simp[u]);clear u j;go_wp2_with fail;go_ret;rw[q.out];exact⟨rfl,v,n.trans c⟩
 |false=>
  have q:=Qc (show IM s=(⟨#[]⟩,s) from by rw[z.out];simp);have c2:=Q4 y;have f:=Jd y;go_wp2_with fail;go_ret;rw[q.out];exact⟨rfl,Qk y 0 _,n.setCell _ fun o _ h _=>h rfl⟩
def FF(s:Qo):Int × Qo:=if Vb s [45]then(-1,Zx s)else(1,if Vb s [43]then Zx s else s)
def FG(d:Qo):Int:=match Lib.atoiAll d.data.toList with
 | .ok v=>v
 | .range=>Lib.atoiSat d.data.toList
 |_=>0
def Fz(d:Qo):Bool:=match Lib.atoiAll d.data.toList with
 | .ok _=>true
 |_=>false
def G0(s:Qo):(Int × Bool) × Qo:=
 if Vb s [101,69]=true/\(Ca (FF (Zx s)).2).size≠0 then
  ((wrap64 ((FF (Zx s)).1*FG (Ca (FF (Zx s)).2)),Fz (Ca (FF (Zx s)).2)&&decide ((Ca (FF (Zx s)).2).size<=4)),Ei (FF (Zx s)).2)
 else((0,true),s)
def Bo(b:Bool)(ev:Q0):Prop:=if b then ev=.nilIface else∃t p,ev=.iface t (.pointer (some p))
def Wx{N:Nat}{E:Am}(d:Qo)(w:Qm)(hG:Ah N E w)(hs:d.size<=1099511627776):
  Calls prog 344 #[.string d] w fun e w'=>∃ev,e=.returned (.tuple #[.int .i64 (FG d),ev])/\Bo (Fz d) ev/\Qd w w':=by
 unfold FG Fz
 cases h:Lib.atoiAll d.data.toList with
 |ok v=>
  refine(strconv_Atoi_ok d oM v h w).mono ?_;rintro e w' ⟨rfl,z⟩;refine⟨_,rfl,rfl,?_⟩;rcases z with rfl| ⟨t,rfl⟩
  ·exact Ac.refl _ _
  ·exact Ac.AB (nH _ _ _)
 |range=>
  obtain⟨j,p,y⟩:=hG.range;refine(strconv_Atoi_range_var d oM h j p w y).mono ?_;rintro e w' ⟨n,rfl,_,_,q⟩;exact⟨_,rfl,⟨_,_,rfl⟩,Ac.AB q⟩
 |_=>
  obtain⟨j,p,y⟩:=hG.syn;refine(strconv_Atoi_syntax_var d oM h j p w y).mono ?_;rintro e w' ⟨n,rfl,_,_,q⟩;exact⟨_,rfl,⟨_,_,rfl⟩,Ac.AB q⟩
def Qha(rb:Nat)(r:(Int × Bool) × Qo)(w:Qm)(e:Ending)(w':Qm):Prop:=e=.returned (.tuple #[.int .i64 r.1.1,.bool r.1.2])/\RB rb r.2 w'/\Ac (fun k _=>k≠rb) w w'
def Bo.Bd{b:Bool}{ev:Q0}(h:Bo b ev):ev=.nilIface∨∃t p,ev=.iface t (.pointer (some p)):=by
 cases b with
 |true=>exact .inl h
 |false=>exact .inr h
def GD(d:Qo): -9223372036854775808<=FG d/\FG d<=9223372036854775807:=by
 unfold FG;cases h:Lib.atoiAll d.data.toList with
 |range=>simp only[Lib.atoiSat];split<;>simp
 |ok v=>
  simp only;unfold Lib.atoiAll at h;split at h
  ·cases h
  ·dsimp only at h;split at h
   ·cases h
   ·cases h
   ·split at h
    ·cases h
    ·split at h
     ·cases h
     ·rename_i j q;injection h with h;subst h;split<;>omega
 |_=>simp
def Qa4{N:Nat}{E:Am}(rb:Nat)(s:Qo)(w:Qm)(hG:Ah N E w)(hN:N<=rb)(hrb:RB rb s w)(hs:s.size<=1099511627776):
  Calls prog 296 #[.pointer (some ⟨rb,0,none⟩)] w (Qha rb (G0 s) w):=by
 have b7:=Qep rb s 101 69 w hrb hs
 have aa:=Qj (Cp s) hs
 have af:=Qj (Cp (Zx s)) aa
 obtain⟨b1,a2⟩:∃b,Vb s [101,69]=b:=⟨_,rfl⟩
 rw[a2]at b7
 replace a2:=Qc a2
 have c0:=Q4 hrb
 go_in
 go_wp2_with fail
 refine b7.mono ?_
 rintro e w1 ⟨rfl,ab,ba⟩
 have bc:=DK ba
 clear b7 c0
 cases b1 with
 |false=>
  have y:=Qc (show G0 s=((0,true),s) from by unfold G0;rw[a2.out];simp);have c2:=Q4 ab;have b6:=Jd ab;go_wp2_with fail;go_ret2;rw[y.out];exact⟨rfl,Qk ab 0 _,bc.setCell _ fun o _ h _=>h rfl⟩
 |true=>
  simp only[BE]at ab;have a9:=OD rb (Zx s) 45 w1 ab aa;obtain⟨b2,a3⟩:∃b,Vb (Zx s) [45]=b:=⟨_,rfl⟩;rw[a3]at a9;replace a3:=Qc a3;go_wp2_with fail;refine a9.mono ?_;rintro e w2 ⟨rfl,ag,bb⟩;have b4:=bc.trans (DK bb);clear a9 bb ba;cases b2 with
  |true=>
   simp only[BE]at ag;have c:=DI rb (Zx (Zx s)) w2 ag af;obtain⟨D,hD⟩:=X0 (Ca (Zx (Zx s)));obtain⟨R,hR⟩:=X0 (Ei (Zx (Zx s)));have a5:D.size<=1099511627776:=by rw[<-hD];exact Qj (DJ _) af
   have n:G0 s=if D.size≠0 then((wrap64 (-1*FG D),Fz D&&decide (D.size<=4)),R)else((0,true),s):=by
    unfold G0;rw[a2.out];have a7:FF (Zx s)=(-1,(Zx (Zx s))):=by unfold FF;simp[a3.out]
    rw[a7];simp only[hD,hR,true_and]
   rw[hD,hR]at c;have d:=Qc n;clear n hD hR;go_wp2_with fail;refine c.mono ?_;rintro e w7 ⟨rfl,ac,a6⟩;have m:=b4.trans a6;have z:=Wx D w7 (hG.Af m fun k b8 _=>oM) a5;have ad:=GD D;obtain⟨av,f⟩:∃v,FG D=v:=⟨_,rfl⟩;obtain⟨ao,a1⟩:∃v,Fz D=v:=⟨_,rfl⟩;rw[f]at z d ad;rw[a1]at z d;clear f a1 c;go_wp2_with fail;refine z.mono ?_;rintro e w8 ⟨ev,rfl,u,a0⟩;have q:=a0.s ac;have j:=m.trans (Ac.of_same a0);clear z;by_cases h0:D.size=0
   ·have e1:D.toList=[]:=by
     have:D=ByteArray.empty:=by simpa using h0
     rw[this,Hx];rfl
    have y:=Qc (show G0 s=((0,true),s) from by rw[d.out];simp[h0]);have c2:=Q4 q;have b6:=Jd q;have b5:=u.Bd;clear h0;go_wp2_with fail;go_ret2;rw[y.out];exact⟨rfl,Qk q 0 _,j.setCell _ fun o _ h _=>h rfl⟩
   ·have e1:(D.toList==[])=false:=by
     cases h:D.toList with
     |nil=>
      have:D.toList.length=D.size:=by rw[Hx];simp
      rw[h]at this;simp at this;omega
     |cons x l=>rfl
    have y:=Qc (show G0 s=((wrap64 (-1*av),ao&&decide (D.size<=4)),R) from by rw[d.out];simp[h0]);clear h0;cases ao with
    |true=>
     have r:ev=.nilIface:=u;subst r;by_cases h4:D.size<=4
     ·have ae:decide ((D.size:Int)<=4)=true:=by simp;omega
      go_wp2_with fail;go_ret2;rw[y.out];exact⟨by simp[h4]<;>(unfold wrap64;omega),q,j⟩
     ·have ae:decide ((D.size:Int)<=4)=false:=by simp;omega
      go_wp2_with fail;go_ret2;rw[y.out];exact⟨by simp[h4]<;>(unfold wrap64;omega),q,j⟩
    |false=>
     obtain⟨tt,pp,rfl⟩:∃t p,ev=.iface t (.pointer (some p)):=u;go_wp2_with fail;go_ret2;rw[y.out];exact⟨by simp<;>(unfold wrap64;omega),q,j⟩
  |false=>
   simp only[I7,Nk]at ag;have a4:=OD rb (Zx s) 43 w2 ag aa;obtain⟨b3,a8⟩:∃b,Vb (Zx s) [43]=b:=⟨_,rfl⟩;rw[a8]at a4;replace a8:=Qc a8;go_wp2_with fail;refine a4.mono ?_;rintro e w3 ⟨rfl,ah,b9⟩;have b0:=b4.trans (DK b9);clear a4 b9;cases b3 with
   |true=>
    simp only[BE]at ah;have c:=DI rb (Zx (Zx s)) w3 ah af;obtain⟨D,hD⟩:=X0 (Ca (Zx (Zx s)));obtain⟨R,hR⟩:=X0 (Ei (Zx (Zx s)));have a5:D.size<=1099511627776:=by rw[<-hD];exact Qj (DJ _) af
    have n:G0 s=if D.size≠0 then((wrap64 (1*FG D),Fz D&&decide (D.size<=4)),R)else((0,true),s):=by
     unfold G0;rw[a2.out];have a7:FF (Zx s)=(1,(Zx (Zx s))):=by unfold FF;simp[a3.out,a8.out]
     rw[a7];simp only[hD,hR,true_and]
    rw[hD,hR]at c;have d:=Qc n;clear n hD hR;go_wp2_with fail;refine c.mono ?_;rintro e w7 ⟨rfl,ac,a6⟩;have m:=b0.trans a6;have z:=Wx D w7 (hG.Af m fun k b8 _=>oM) a5;have ad:=GD D;obtain⟨av,f⟩:∃v,FG D=v:=⟨_,rfl⟩;obtain⟨ao,a1⟩:∃v,Fz D=v:=⟨_,rfl⟩;rw[f]at z d ad;rw[a1]at z d;clear f a1 c;go_wp2_with fail;refine z.mono ?_;rintro e w8 ⟨ev,rfl,u,a0⟩;have q:=a0.s ac;have j:=m.trans (Ac.of_same a0);clear z;by_cases h0:D.size=0
    ·have e1:D.toList=[]:=by
      have:D=ByteArray.empty:=by simpa using h0
      rw[this,Hx];rfl
     have y:=Qc (show G0 s=((0,true),s) from by rw[d.out];simp[h0]);have c2:=Q4 q;have b6:=Jd q;have b5:=u.Bd;clear h0;go_wp2_with fail;go_ret2;rw[y.out];exact⟨rfl,Qk q 0 _,j.setCell _ fun o _ h _=>h rfl⟩
    ·have e1:(D.toList==[])=false:=by
      cases h:D.toList with
      |nil=>
       have:D.toList.length=D.size:=by rw[Hx];simp
       rw[h]at this;simp at this;omega
      |cons x l=>rfl
     have y:=Qc (show G0 s=((wrap64 (1*av),ao&&decide (D.size<=4)),R) from by rw[d.out];simp[h0]);clear h0;cases ao with
     |true=>
      have r:ev=.nilIface:=u;subst r;by_cases h4:D.size<=4
      ·have ae:decide ((D.size:Int)<=4)=true:=by simp;omega
       go_wp2_with fail;go_ret2;rw[y.out];exact⟨by simp[h4]<;>(unfold wrap64;omega),q,j⟩
      ·have ae:decide ((D.size:Int)<=4)=false:=by simp;omega
       go_wp2_with fail;go_ret2;rw[y.out];exact⟨by simp[h4]<;>(unfold wrap64;omega),q,j⟩
     |false=>
      obtain⟨tt,pp,rfl⟩:∃t p,ev=.iface t (.pointer (some p)):=u;go_wp2_with fail;go_ret2;rw[y.out];exact⟨by simp<;>(unfold wrap64;omega),q,j⟩
   |false=>
    simp only[I7,Nk]at ah;have c:=DI rb (Zx s) w3 ah aa;obtain⟨D,hD⟩:=X0 (Ca (Zx s));obtain⟨R,hR⟩:=X0 (Ei (Zx s));have a5:D.size<=1099511627776:=by rw[<-hD];exact Qj (DJ _) aa
    have n:G0 s=if D.size≠0 then((wrap64 (1*FG D),Fz D&&decide (D.size<=4)),R)else((0,true),s):=by
     unfold G0;rw[a2.out];have a7:FF (Zx s)=(1,(Zx s)):=by unfold FF;simp[a3.out,a8.out]
     rw[a7];simp only[hD,hR,true_and]
    rw[hD,hR]at c;replace n:=Qc n;clear hD hR;go_wp2_with fail;refine c.mono ?_;rintro e w7 ⟨rfl,ac,a6⟩;have m:=b0.trans a6;have z:=Wx D w7 (hG.Af m fun k b8 _=>oM) a5;have ad:=GD D;obtain⟨av,f⟩:∃v,FG D=v:=⟨_,rfl⟩;obtain⟨ao,a1⟩:∃v,Fz D=v:=⟨_,rfl⟩;rw[f]at z n ad;rw[a1]at z n;clear f a1 c;go_wp2_with fail;refine z.mono ?_;rintro e w8 ⟨ev,rfl,u,a0⟩;have q:=a0.s ac;have j:=m.trans (Ac.of_same a0);clear z;by_cases h0:D.size=0
    ·have e1:D.toList=[]:=by
      have:D=ByteArray.empty:=by simpa using h0
      rw[this,Hx];rfl
     have y:=Qc (show G0 s=((0,true),s) from by rw[n.out];simp[h0]);have c2:=Q4 q;have b6:=Jd q;have b5:=u.Bd;clear h0;go_wp2_with fail;go_ret2;rw[y.out];exact⟨rfl,Qk q 0 _,j.setCell _ fun o _ h _=>h rfl⟩
    ·have e1:(D.toList==[])=false:=by
      cases h:D.toList with
      |nil=>
       have:D.toList.length=D.size:=by rw[Hx];simp
       rw[h]at this;simp at this;omega
      |cons x l=>rfl
     have y:=Qc (show G0 s=((wrap64 (1*av),ao&&decide (D.size<=4)),R) from by rw[n.out];simp[h0]);clear h0;cases ao with
     |true=>
      have r:ev=.nilIface:=u;subst r;by_cases h4:D.size<=4
      ·have ae:decide ((D.size:Int)<=4)=true:=by simp;omega
       go_wp2_with fail;go_ret2;rw[y.out];exact⟨by simp[h4]<;>(unfold wrap64;omega),q,j⟩
      ·have ae:decide ((D.size:Int)<=4)=false:=by simp;omega
       go_wp2_with fail;go_ret2;rw[y.out];exact⟨by simp[h4]<;>(unfold wrap64;omega),q,j⟩
     |false=>
      obtain⟨tt,pp,rfl⟩:∃t p,ev=.iface t (.pointer (some p)):=u;go_wp2_with fail;go_ret2;rw[y.out];exact⟨by simp<;>(unfold wrap64;omega),q,j⟩
def BK(s:Qo):Qo × Qo:=IL (if Vb s [45]then Zx s else s)
def Ej(s:Qo):Qo × Qo:=IM (BK s).2
def F0(s:Qo):(Int × Bool) × Qo:=G0 (Ej s).2
def LF(s:Qo):Dc × Int:=Jo (Vb s [45]) ((BK s).1++(Ej s).1) (wrap64 ((F0 s).1.1-((Ej s).1.size:Int)))
def Rp(s:Qo):Dc × Qo × Int:=
 if(BK s).1.size=0∨(F0 s).1.2=false then(Ko,s,40)
 else if(LF s).2≠0 then(Ko,s,(LF s).2)else((LF s).1,(F0 s).2,0)
def eB(s:Qo):(IL s).1.size<=s.size+1/\(IL s).2.size<=s.size:=by
 unfold IL;split
 ·exact⟨by show 1<=_;omega,Cp s⟩
 ·exact⟨Nat.le_succ_of_le (DJ s),Ww s⟩
def lH(s:Qo):(IM s).1.size<=s.size/\(IM s).2.size<=s.size:=by
 unfold IM;split
 ·exact⟨Qj (DJ _) (Cp s),Qj (Ww _) (Cp s)⟩
 ·exact⟨Xi _,Q6 _⟩
def Lr(T:Array Q0)(W:Qm)(bx:Nat)(d:Dc)(r:Qo)(e:Int)(h2:T.getD 2 undef=.pointer (some ⟨bx,0,none⟩))(h3:T.getD 3 undef=.string r)(h4:T.getD 4 undef=.int .i64 e)
  (hrow:W.heap[bx]? =some (.cells #[.bool d.neg,.string d.digits,.int .i64 d.exp] 23 (0,0))):(results f235 T).run prog W=.ok (.tuple #[FY d,.string r,.int .i64 e]) W:=by
 have j:=Pr (P:=prog) W bx 23 23 _ (0,0) _ hrow underlying23 rfl kM
 have q:f235.results=#[.cell 2 23,.tmp 3,.tmp 4]:=rfl
 unfold results
 rw[q]
 simp[-Array.getD_eq_getD_getElem?,h2,h3,h4,asAddr,j,Result.andThen]
def tY{N:Nat}{E:Am}(s:Qo)(w:Qm)(hG:Ah N E w)(hN:N<=w.heap.size)(hs:s.size<=274877906944):
  Calls prog 235 #[.string s] w fun e w'=>e=.returned (.tuple #[FY (Rp s).1,.string (Rp s).2.1,.int .i64 (Rp s).2.2])/\Qd w w':=by
 have h1:(if Vb s [45]then Zx s else s).size<=s.size:=by
  split
  ·exact Cp s
  ·exact Q6 _
 have h2:=eB (if Vb s [45]then Zx s else s)
 have h3:=lH (BK s).2
 have be:(BK s).1.size<=s.size+1/\(BK s).2.size<=s.size:=by unfold BK;omega
 have c:Rp s=if(BK s).1.size=0∨(F0 s).1.2=false then(Ko,s,40)else if(LF s).2≠0 then(Ko,s,(LF s).2)else((LF s).1,(F0 s).2,0):=rfl
 obtain⟨R,hR⟩:=X0 (Rp s)
 rw[hR]at c|-
 replace c:=Qc c
 clear hR
 have a6:=fun W (hr:RB (w.heap.size+1) s W)=>OD (w.heap.size+1) s 45 W hr oM
 have p:=fun W hr=>Qa3 (w.heap.size+1) (if Vb s [45]then Zx s else s) W hr oM
 have a3:=fun W hr=>Qeq (w.heap.size+1) (BK s).2 W hr oM
 have a4:=fun W hg hr=>Qa4 (N:=N) (E:=E) (w.heap.size+1) (Ej s).2 W hg oM hr (by have:(Ej s).2.size<=_:=h3.2;omega)
 have ba:(Ej s).1.size<=s.size:=by have:(Ej s).1.size<=_:=h3.1;omega
 have m:=fun W=>I4 (Vb s [45]) ((BK s).1++(Ej s).1) (wrap64 ((F0 s).1.1-((Ej s).1.size:Int))) W (by rw[Nw];omega) (by unfold wrap64;omega)
 have bc:IL (if Vb s [45]then Zx s else s)=BK s:=rfl
 have bd:IM (BK s).2=Ej s:=rfl
 have bg:G0 (Ej s).2=F0 s:=rfl
 have f:Jo (Vb s [45]) ((BK s).1++(Ej s).1) (wrap64 ((F0 s).1.1-((Ej s).1.size:Int)))=LF s:=rfl
 rw[bc]at p
 rw[bd]at a3
 rw[bg]at a4
 rw[f]at m
 clear bc bd bg f h1 h2 h3
 obtain⟨⟨q,m2⟩,hm⟩:∃r,LF s=r:=⟨_,rfl⟩
 obtain⟨⟨⟨q1,q2⟩,q3⟩,hq⟩:∃r,F0 s=r:=⟨_,rfl⟩
 obtain⟨⟨p1,p2⟩,hp⟩:∃r,Ej s=r:=⟨_,rfl⟩
 obtain⟨⟨v1,v2⟩,hv⟩:∃r,BK s=r:=⟨_,rfl⟩
 rw[hm]at m c
 rw[hq]at a4 m c
 rw[hp]at a3 a4 m ba
 rw[hv]at p a3 m c be
 clear hm hq hp hv
 simp only at p a3 a4 m c be ba
 obtain⟨b,hb⟩:=X0 (Vb s [45])
 rw[hb]at a6 p m
 clear hb
 unfold T1 at a6
 obtain⟨s1,b5⟩:=X0 (if b=true then Zx s else s)
 rw[b5]at p
 simp only[b5]at a6
 clear b5
 go_in
 go_wp2_with fail
 have aa:RB (w.heap.size+1) s ((w.alloc (.cells #[.bool false,.string ⟨#[]⟩,.int .i64 0] 23)).alloc (.cells #[.string s] 305)):=Ql sM
 have a8:((w.alloc (.cells #[.bool false,.string ⟨#[]⟩,.int .i64 0] 23)).alloc (.cells #[.string s] 305)).heap[w.heap.size]? =some (.cells #[.bool false,.string ⟨#[]⟩,.int .i64 0] 23 (0,0)):=Qb (Qt w _)
 have b2:Qd w ((w.alloc (.cells #[.bool false,.string ⟨#[]⟩,.int .i64 0] 23)).alloc (.cells #[.string s] 305)):=Xd
 have b1:((w.alloc (.cells #[.bool false,.string ⟨#[]⟩,.int .i64 0] 23)).alloc (.cells #[.string s] 305)).heap.size=w.heap.size+1+1:=sM
 have a2:=a6 _ aa
 generalize((w.alloc (.cells #[.bool false,.string ⟨#[]⟩,.int .i64 0] 23)).alloc (.cells #[.string s] 305))=W0 at aa a8 b2 b1 a2|-
 rw[b1]at a2
 clear b1
 refine a2.mono ?_
 rintro e w1 ⟨rfl,bb,b3⟩
 have ad:=(Ac.of_same b2).trans (DK b3)
 have ah:=(DK b3).same _ _ a8 oM
 clear a6 a2 b3 a8 aa b2
 go_wp2_with fail
 refine(p _ bb).mono ?_
 rintro e w2 ⟨rfl,bh,b4⟩
 have ag:=ad.trans b4
 have af:=b4.same _ _ ah oM
 clear p b4 ad ah bb
 go_wp2_with fail
 refine(a3 _ bh).mono ?_
 rintro e w3 ⟨rfl,bf,b0⟩
 have a7:=ag.trans b0
 have ae:=b0.same _ _ af oM
 clear a3 b0 ag af bh
 go_wp2_with fail
 refine(a4 _ (hG.Af a7 fun k c2 _=>oM) bf).mono ?_
 rintro e w4 ⟨rfl,ab,b8⟩
 have j:=a7.trans b8
 have v:=b8.same _ _ ae oM
 have a0:Qd w w4:=⟨j.os,j.tape,j.output,j.size,fun k o ho _=>j.same k o ho (Ku ho)⟩
 clear a4 b8 a7 ae bf j
 simp only at ab
 by_cases h0:v1.size=0
 ·have e1:v1.toList=[]:=by
   have:v1=ByteArray.empty:=by simpa using h0
   rw[this,Hx];rfl
  have t:=Qc (show R=(Ko,s,40) from by rw[c.out,Qe (.inl h0)]);clear h0 m;have c0:=Q1 v;obtain⟨x0,x1,x2⟩:=c0;have b7:=Jd v;go_wp2_with fail
  (try simp only[Exit.inBlock,Exit.then]);obtain⟨p3,p4⟩:=D5 (x:=.bool false) (y:=.string ⟨#[]⟩) (z:=.int .i64 0) a0 v oM;exact Xs (Lr _ _ w.heap.size Ko s 40 rfl rfl rfl p3) rfl ⟨by rw[t.out]<;>rfl,p4⟩
 ·have e1:(v1.toList==[])=false:=by
   cases h:v1.toList with
   |nil=>
    have:v1.toList.length=v1.size:=by rw[Hx];simp
    rw[h]at this;simp at this;omega
   |cons x l=>rfl
  cases q2 with
  |false=>
   have t:=Qc (show R=(Ko,s,40) from by rw[c.out,Qe (.inr rfl)]);clear h0 m;have c0:=Q1 v;obtain⟨x0,x1,x2⟩:=c0;have b7:=Jd v;go_wp2_with fail
   (try simp only[Exit.inBlock,Exit.then]);obtain⟨p3,p4⟩:=D5 (x:=.bool false) (y:=.string ⟨#[]⟩) (z:=.int .i64 0) a0 v oM;exact Xs (Lr _ _ w.heap.size Ko s 40 rfl rfl rfl p3) rfl ⟨by rw[t.out]<;>rfl,p4⟩
  |true=>
   have ac:R=if m2≠0 then(Ko,s,m2)else(q,q3,0):=by rw[c.out,Qa (by rintro(h|h);exact h0 h;cases h)]
   replace ac:=Qc ac;clear h0;obtain⟨ex,b6⟩:=X0 (wrap64 (q1-(p1.size:Int)));rw[b6]at m;go_wp2_with fail;rw[b6];refine(m _).mono ?_;rintro e w5 ⟨rfl,a5⟩;have u:=Qb (o:=.cells #[.bool q.neg,.string q.digits,.int .i64 q.exp] 23) (a5.s v);have a1:RB (w.heap.size+1) q3 (w5.alloc (.cells #[.bool q.neg,.string q.digits,.int .i64 q.exp] 23)):=Qb (a5.s ab);have d:=Qt w5 (.cells #[.bool q.neg,.string q.digits,.int .i64 q.exp] 23);have a9:Qd w (w5.alloc (.cells #[.bool q.neg,.string q.digits,.int .i64 q.exp] 23)):=(a0.trans a5).alloc _;have c1:w.heap.size+1<w5.heap.size:=Qg (a5.s ab);clear m a0 a5 v ab b6;by_cases f:m2=0
   ·subst f;have t:=Qc (show R=(q,q3,0) from by rw[ac.out];simp);go_wp2_with fail;generalize(w5.alloc (.cells #[.bool q.neg,.string q.digits,.int .i64 q.exp] 23))=w6 at u a1 d a9|-;generalize w5.heap.size=db at d c1|-;have z0:=Q4 a1;have z1:=Q1 d;obtain⟨x0,x1,x2⟩:=Q1 u;have b7:=Jd u;refine(Vd (n:=0)).1 ?_;refine Ja (n:=0) (fun Z=>RB (w.heap.size+1) q3 Z/\Z.heap[db]? =some (.cells #[.bool q.neg,.string q.digits,.int .i64 q.exp] 23 (0,0))) reads (fun _=>trivial) rfl kM kM ⟨a1,d⟩ ?_;repeat refine sX ?_
    refine Kd rfl rfl ?_;intro K hK;go_simp;obtain⟨p3,p4⟩:=D5 (x:=.bool q.neg) (y:=.string q.digits) (z:=.int .i64 q.exp) a9 u oM;have b9:Ac (fun k _=>k≠w.heap.size) w6 (((w6.setCell ⟨w.heap.size,0,none⟩ (.bool q.neg)).setCell ⟨w.heap.size,1,none⟩ (.string q.digits)).setCell ⟨w.heap.size,2,none⟩ (.int .i64 q.exp)):=(((Ac.refl _ w6).setCell _ fun o _ h _=>h rfl).setCell _ fun o _ h _=>h rfl).setCell _ fun o _ h _=>h rfl
    refine hK _ _ ⟨b9.same _ _ a1 oM,b9.same _ _ d oM⟩ ?_;clear hK K;repeat refine sX ?_
    refine Jc ?_;go_wp2_with fail
    (try simp only[Exit.inBlock,Exit.then]);exact Xs (Lr _ _ w.heap.size q q3 0 rfl rfl rfl p3) rfl ⟨by rw[t.out]<;>rfl,p4.drew⟩
   ·have c3:(m2 !=0)=true:=by simpa using f
    have t:=Qc (show R=(Ko,s,m2) from by rw[ac.out,Qe f]);clear f;have c0:=Q1 u;obtain⟨x0,x1,x2⟩:=c0;have b7:=Jd u;go_wp2_with fail
    (try simp only[Exit.inBlock,Exit.then]);obtain⟨p3,p4⟩:=D5 (x:=.bool false) (y:=.string ⟨#[]⟩) (z:=.int .i64 0) a9 u oM;exact Xs (Lr _ _ w.heap.size Ko s m2 rfl rfl rfl p3) rfl ⟨by rw[t.out]<;>rfl,p4⟩
def PI(d:Dc)(h:Q2 d=true):Z2 d=(Xh (Hc d.neg++Qf (G9 d)),0):=by
 unfold Z2;rw[Qe h,U2,Ym];congr 2;cases d.neg<;>rfl
def Wy(d:Dc)(h:Q2 d=true):d.digits.size<=100/\ -100<=d.exp/\d.exp<=100:=by
 unfold Q2 at h;rw[Y2]at h;rcases h with h|h
 ·have h:=Zo h;subst h;decide
 ·simp only[X1,Zz,Kt]at h;omega
def tZ{w w':Qm}{k:Nat}{os:Array Obj}(e:w'=Go.Sort.grow (w.drewN k) os):Qd w w':=by
 subst e;refine⟨rfl,rfl,rfl,?_,fun b o q _=>?_⟩
 ·show _<=(w.heap++os).size;rw[Array.size_append];omega
 ·have j:=Qg q;show(w.heap++os)[b]? =some o;rw[Qgz j,q]
def Qer(d:Dc)(w:Qm)(hs:d.digits.size<=1099511627776)(h:Q2 d=false):
  Calls prog 123 #[FY d] w fun e w'=>e=.returned (.tuple #[.string (Z2 d).1,.int .i64 (Z2 d).2])/\Qd w w':=by
 have j:=fun W=>Yn d W hs
 rw[h]at j
 have v:Z2 d=(⟨#[]⟩,40):=by
  unfold Z2;rw[h];rfl
 rw[v]
 clear v h
 obtain⟨y,u,n⟩:=d
 simp only at*
 go_in
 go_wp2_with fail
 refine(j _).mono ?_
 rintro e m ⟨rfl,z⟩
 have q:Qd w m:=Xd
 go_wp2_with fail
 go_ret2
 exact⟨rfl,q⟩
def lI{P Q:Prop}(h:Q)(f:Wz Q->P:=by
 intro zz;obtain⟨hd1,hd2,hd3⟩:=Wy d h;have hdr:=fun W=>Yn d W oM
 rw[h]at hdr;have hwi:=fun W=>Fg d.exp 20 W dM
 revert hd1 hd2 hd3 hdr hwi;exact zz.o):P:=f ⟨h⟩
def Qes(d:Dc)(w:Qm)(h:Q2 d=true)(hw:Kt d.exp 20=false)(htab:Lib.TabIs prog w "internal/strconv.uint64pow10" .u64 Lib.pow10Tab)(hgl:∀W,Qd w W->Lib.TabIs prog W "internal/strconv.uint64pow10" .u64 Lib.pow10Tab):
  Calls prog 123 #[FY d] w fun e w'=>e=.returned (.tuple #[.string (Z2 d).1,.int .i64 (Z2 d).2])/\Qd w w':=by
 refine lI ?_
 intro hd1 hd2 hd3 hdr hwi
 have hw:Kt d.exp 20=false:=by first|assumption| (unfold Kt;simp;omega)
 rw[hw]at hwi
 have j:=PI d h
 have a2:G9 d=d.digits++⟨#[101]⟩++⟨(Lib.itoa d.exp).toArray⟩:=by
  unfold G9;simp only[hw,BE]
 rw[a2]at j
 have a3:=fun W (hW:Qd w W)=>strconv_Itoa d.exp oM oM W (hgl W hW)
 have a4:=Lib.itoa_length_le d.exp oM oM
 obtain⟨it,p⟩:∃it:Qo,(⟨(Lib.itoa d.exp).toArray⟩:Qo)=it:=⟨_,rfl⟩
 have b0:it.size<=21:=by
  rw[<-p];show(Lib.itoa d.exp).toArray.size<=21;simpa using a4
 rw[p]at a3 j
 obtain⟨de,m⟩:∃de:Qo,d.digits++⟨#[101]⟩=de:=⟨_,rfl⟩
 rw[m]at j
 have b4:de.size<=101:=by rw[<-m,Nw];show _+1<=_;omega
 have HD:=Qc m
 obtain⟨tx,v⟩:∃tx:Qo,de++it=tx:=⟨_,rfl⟩
 rw[v]at j
 have b5:tx.size<=200:=by rw[<-v,Nw];omega
 replace v:=Qc v
 replace j:=Qc j
 clear p a4 m a2 hw h
 obtain⟨ac,dg,ex⟩:=d
 simp only at*
 go_in
 go_wp2_with fail
 refine(hdr _).mono ?_
 rintro e w1 ⟨rfl,hk1⟩
 refine Qd6 ?_
 intro hbx1 hkw1 hlt1 hbx2 hB0 hkw2 hz2
 generalize b3:w1.heap.size=bb at hB0 hz2 hlt1
 have b2:w.heap.size<=bb:=by have:=hkw1.size;omega
 obtain⟨c0,c1,c2⟩:=Q1 hbx2
 cases ac
 focus
  go_wp2_with fail
  generalize(w1.alloc _)=w3 at hB0 hbx2 hkw2 hz2 c0 c1 c2|-
  have a0:(Hc false).length<=1:=dM
  have u:∀x∈(Hc false),x<256:=dM
  have q:EU bb bb (Hc false) w3:=hB0
  generalize(Hc false)=xs at a0 u q j
 rotate_left
 focus
  go_wp2_with fail
  refine(Ks bb bb 45 [] _ hB0 dM hz2).mono ?_
  rintro e w3 ⟨rfl,q,t⟩
  replace hbx2:=t.same _ _ hbx2 ⟨oM,.inl hlt1⟩
  replace hkw2:Qd w w3:=Ho hkw2 t fun b o hb=>(by have:=Qg hb;exact⟨oM,.inl oM⟩)
  replace hz2:=Qj hz2 t.size
  clear hB0 c0 c1 c2 t
  obtain⟨c0,c1,c2⟩:=Q1 hbx2
  go_wp2_with fail
  have a0:(Hc true).length<=1:=dM
  have u:∀x∈(Hc true),x<256:=dM
  replace q:EU bb bb (Hc true) w3:=q
  generalize(Hc true)=xs at a0 u q j
 all_goals
  refine(hwi _).mono ?_
  rintro x w4 ⟨rfl,h9⟩
  replace h9:=h9.symm
  subst h9
  go_wp2_with fail
  refine(Vd (n:=0)).1 ?_
  refine gR (n:=0) hbx2 ?_
  repeat refine sX ?_
  have ab:¬9223372036854775807<dg.size+1:=oM
  refine K6 rfl rfl ?_
  intro K y w' hs
  go_simp
  rw[HD.out]
  refine y _ _ ?_
  clear y K hs w'
  repeat refine sX ?_
  refine Kd rfl rfl ?_
  intro K y
  go_simp
  refine(Qr (a3 _ hkw2.drew)).mono ?_
  rintro x w5 ⟨rfl,ko,b1,aa⟩
  have z:=tZ aa
  clear aa
  have k:=z.s hbx2
  have a5:EU bb bb xs w3.drew:=q
  have ae:=V1 a5 z (fun c f=>trivial) (fun g c f _ _=>trivial)
  have a8:Qd w w5:=hkw2.drew.trans z
  have a6:bb<=w5.heap.size:=Qj hz2 z.size
  refine y _ _ k ?_
  clear y K
  have ah:¬9223372036854775807<de.size+it.size:=oM
  refine K6 rfl rfl ?_
  intro K y w' hs
  go_simp
  rw[v.out]
  refine y _ _ ?_
  clear y K hs w'
  refine Kd rfl rfl ?_
  intro K y
  go_simp
  refine(Qr (Ke bb bb tx xs _ ae oM a6)).mono ?_
  rintro x w6 ⟨⟨v6,rfl⟩,af,r⟩
  have a9:=r.same _ _ k ⟨oM,.inl hlt1⟩
  have a1:Qd w w6:=Ho a8 r fun b o hb=>(by have:=Qg hb;exact⟨oM,.inl oM⟩)
  have ad:bb<=w6.heap.size:=Qj a6 r.size
  refine y _ _ a9 ?_
  clear y K
  refine Jc ?_
  go_wp2_with fail
  refine(J4 bb bb (xs++Qf tx) w6 af (fun x hx=>(Kn.1 hx).elim (u x) (Yj _ x)) ad).mono ?_
  rintro x w7 ⟨rfl,ag⟩
  have a7:Qd w w7:=Ho a1 ag fun b o hb=>(by have:=Qg hb;exact .inl oM)
  go_wp2_with fail
  go_ret2
  exact⟨by rw[j.out];rfl,a7⟩
def Qet(d:Dc)(w:Qm)(h:Q2 d=true)(h0:d.exp<0)(h20: -20<=d.exp)(hn:0< (d.digits.size:Int)+d.exp):
  Calls prog 123 #[FY d] w fun e w'=>e=.returned (.tuple #[.string (Z2 d).1,.int .i64 (Z2 d).2])/\Qd w w':=by
 refine lI ?_
 intro hd1 hd2 hd3 hdr hwi
 have hw:Kt d.exp 20=true:=by first|assumption| (unfold Kt;simp;omega)
 rw[hw]at hwi
 have c:=PI d h
 have a4:G9 d=d.digits.extract 0 ((d.digits.size:Int)+d.exp).toNat++⟨#[46]⟩++d.digits.extract ((d.digits.size:Int)+d.exp).toNat d.digits.size:=by
  unfold G9;rw[hw];simp only[oV,Nk];rw[Qa oM,Qe hn]
 rw[a4]at c
 obtain⟨x1,a1⟩:∃x1:Qo,d.digits.extract 0 ((d.digits.size:Int)+d.exp).toNat=x1:=⟨_,rfl⟩
 obtain⟨x3,a0⟩:∃x3:Qo,d.digits.extract ((d.digits.size:Int)+d.exp).toNat d.digits.size=x3:=⟨_,rfl⟩
 have b1:x1.size<=100:=by rw[<-a1,L7];omega
 have b0:x3.size<=100:=by rw[<-a0,L7];omega
 rw[a1,a0]at c
 obtain⟨x2,u⟩:∃x2:Qo,x1++⟨#[46]⟩=x2:=⟨_,rfl⟩
 have ag:x2.size<=101:=by rw[<-u,Nw];show _+1<=_;omega
 rw[u]at c
 obtain⟨tx,r⟩:∃tx:Qo,x2++x3=tx:=⟨_,rfl⟩
 rw[r]at c
 have b4:tx.size<=300:=by rw[<-r,Nw];omega
 have H1:=Qc a1
 have H3:=Qc a0
 have H2:=Qc u
 have HT:=Qc r
 have HR:=Qc c
 have af:decide ((0:Int)<=d.exp)=false:=Z4 oM
 have ah:decide ((0:Int)< (d.digits.size:Int)+d.exp)=true:=Kp hn
 have b3:(0:Int)<=(d.digits.size:Int)+d.exp/\(d.digits.size:Int)+d.exp<=d.digits.size:=oM
 clear a1 a0 u r c a4 hw h
 obtain⟨a9,dg,ex⟩:=d
 simp only at*
 go_in
 go_wp2_with fail
 refine(hdr _).mono ?_
 rintro e w1 ⟨rfl,hk1⟩
 refine Qd6 ?_
 intro hbx1 hkw1 hlt1 hbx2 hB0 hkw2 hz2
 obtain⟨m,ae⟩:=X0 w1.heap.size
 rw[ae]at hB0 hz2 hlt1
 have b2:w.heap.size<=m:=by have:=hkw1.size;omega
 obtain⟨c0,c1,c2⟩:=Q1 hbx2
 cases a9
 focus
  go_wp2_with fail
  generalize(w1.alloc _)=w3 at hB0 hbx2 hkw2 hz2 c0 c1 c2|-
  have a2:(Hc false).length<=1:=dM
  have p:∀x∈(Hc false),x<256:=dM
  have f:EU m m (Hc false) w3:=hB0
  generalize(Hc false)=xs at a2 p f HR
 rotate_left
 focus
  go_wp2_with fail
  refine(Ks m m 45 [] _ hB0 dM hz2).mono ?_
  rintro e w3 ⟨rfl,f,y⟩
  replace hbx2:=y.same _ _ hbx2 ⟨oM,.inl hlt1⟩
  replace hkw2:Qd w w3:=⟨y.os.trans hkw2.os,y.tape.trans hkw2.tape,y.output.trans hkw2.output,Qj hkw2.size y.size,fun b o hb _=>y.same b o (hkw2.same b o hb trivial) (by have:=Qg hb;exact⟨oM,.inl oM⟩)⟩
  replace hz2:=Qj hz2 y.size
  clear hB0 c0 c1 c2 y
  obtain⟨c0,c1,c2⟩:=Q1 hbx2
  go_wp2_with fail
  have a2:(Hc true).length<=1:=dM
  have p:∀x∈(Hc true),x<256:=dM
  replace f:EU m m (Hc true) w3:=f
  generalize(Hc true)=xs at a2 p f HR
 all_goals
  refine(hwi _).mono ?_
  rintro x w4 ⟨rfl,h9⟩
  replace h9:=h9.symm
  subst h9
  go_wp2_with fail
  refine(Vd (n:=0)).1 ?_
  refine gR (n:=0) hbx2 ?_
  iterate 3 (refine K6 rfl rfl ?_;intro K j w' t;obtain⟨p0,p1,p2⟩:=Q1 t;go_simp;refine j _ _ ?_;clear j K p0 p1 p2 t w')
  refine K6 rfl rfl ?_
  intro K j w' t
  go_simp
  rw[H1.out]
  refine j _ _ ?_
  clear j K t w'
  have a8:¬9223372036854775807<x1.size+1:=oM
  refine K6 rfl rfl ?_
  intro K j w' t
  go_simp
  rw[H2.out]
  refine j _ _ ?_
  clear j K t w'
  iterate 3 (refine K6 rfl rfl ?_;intro K j w' t;obtain⟨p0,p1,p2⟩:=Q1 t;go_simp;refine j _ _ ?_;clear j K p0 p1 p2 t w')
  refine K6 rfl rfl ?_
  intro K j w' t
  go_simp
  rw[H3.out]
  refine j _ _ ?_
  clear j K t w'
  have ad:¬9223372036854775807<x2.size+x3.size:=oM
  refine K6 rfl rfl ?_
  intro K j w' t
  go_simp
  rw[HT.out]
  refine j _ _ ?_
  clear j K t w'
  have a3:w3.drew.heap[w.heap.size]? =_:=hbx2
  have v:Qd w w3.drew:=hkw2.drew
  have ab:EU m m xs w3.drew:=f
  have a5:m<=w3.drew.heap.size:=hz2
  refine Kd rfl rfl ?_
  intro K j
  go_simp
  refine(Qr (Ke m m tx xs _ ab oM a5)).mono ?_
  rintro x w6 ⟨⟨v6,rfl⟩,ac,z⟩
  have a7:=z.same _ _ a3 ⟨oM,.inl hlt1⟩
  have q:Qd w w6:=⟨z.os.trans v.os,z.tape.trans v.tape,z.output.trans v.output,Qj v.size z.size,fun b o hb _=>z.same b o (v.same b o hb trivial) (by have:=Qg hb;exact⟨oM,.inl oM⟩)⟩
  have aa:m<=w6.heap.size:=Qj a5 z.size
  refine j _ _ a7 ?_
  clear j K
  refine Jc ?_
  go_wp2_with fail
  refine(J4 m m (xs++Qf tx) w6 ac (fun x hx=>(Kn.1 hx).elim (p x) (Yj _ x)) aa).mono ?_
  rintro x w7 ⟨rfl,k⟩
  have a6:Qd w w7:=⟨k.os.trans q.os,k.tape.trans q.tape,k.output.trans q.output,Qj q.size k.size,fun b o hb _=>k.same b o (q.same b o hb trivial) (by have:=Qg hb;exact .inl oM)⟩
  go_wp2_with fail
  go_ret2
  exact⟨by rw[HR.out];rfl,a6⟩
def Qeu(d:Dc)(w:Qm)(h:Q2 d=true)(h0:d.exp<0)(h20: -20<=d.exp)(hn:(d.digits.size:Int)+d.exp<=0):
  Calls prog 123 #[FY d] w fun e w'=>e=.returned (.tuple #[.string (Z2 d).1,.int .i64 (Z2 d).2])/\Qd w w':=by
 refine lI ?_
 intro hd1 hd2 hd3 hdr hwi
 have hw:Kt d.exp 20=true:=by first|assumption| (unfold Kt;simp;omega)
 rw[hw]at hwi
 have q:=PI d h
 have a4:G9 d=⟨#[48,46]⟩++I6 (-((d.digits.size:Int)+d.exp))++d.digits:=by
  unfold G9;rw[hw];simp only[oV,Nk];rw[Qa oM,Qa oM]
 rw[a4]at q
 have a0:=fun W=>DX (-((d.digits.size:Int)+d.exp)) W oM oM
 obtain⟨zs,k⟩:∃zs:Qo,I6 (-((d.digits.size:Int)+d.exp))=zs:=⟨_,rfl⟩
 have b2:zs.size<=20:=by
  rw[<-k];show(List.replicate (-((d.digits.size:Int)+d.exp)).toNat (48:UInt8)).toArray.size<=20;simp;omega
 have r:(⟨(List.replicate (-((d.digits.size:Int)+d.exp)).toNat (48:UInt8)).toArray⟩:Qo)=zs:=k
 rw[r]at a0
 rw[k]at q
 obtain⟨x2,j⟩:∃x2:Qo,⟨#[48,46]⟩++zs=x2:=⟨_,rfl⟩
 have b0:x2.size<=22:=by rw[<-j,Nw];show 2+_<=_;omega
 rw[j]at q
 obtain⟨tx,t⟩:∃tx:Qo,x2++d.digits=tx:=⟨_,rfl⟩
 rw[t]at q
 have b5:tx.size<=300:=by rw[<-t,Nw];omega
 have H2:=Qc j
 have HT:=Qc t
 have HR:=Qc q
 have ah:decide ((0:Int)<=d.exp)=false:=Z4 oM
 have b1:decide ((0:Int)< (d.digits.size:Int)+d.exp)=false:=Z4 oM
 clear k r j t q a4 hw h
 obtain⟨ab,dg,ex⟩:=d
 simp only at*
 go_in
 go_wp2_with fail
 refine(hdr _).mono ?_
 rintro e w1 ⟨rfl,hk1⟩
 refine Qd6 ?_
 intro hbx1 hkw1 hlt1 hbx2 hB0 hkw2 hz2
 generalize b4:w1.heap.size=bb at hB0 hz2 hlt1
 have b3:w.heap.size<=bb:=by have:=hkw1.size;omega
 obtain⟨c0,c1,c2⟩:=Q1 hbx2
 cases ab
 focus
  go_wp2_with fail
  generalize(w1.alloc _)=w3 at hB0 hbx2 hkw2 hz2 c0 c1 c2|-
  have a2:(Hc false).length<=1:=dM
  have u:∀x∈(Hc false),x<256:=dM
  have v:EU bb bb (Hc false) w3:=hB0
  generalize(Hc false)=xs at a2 u v HR
 rotate_left
 focus
  go_wp2_with fail
  refine(Ks bb bb 45 [] _ hB0 dM hz2).mono ?_
  rintro e w3 ⟨rfl,v,p⟩
  replace hbx2:=p.same _ _ hbx2 ⟨oM,.inl hlt1⟩
  replace hkw2:Qd w w3:=Ho hkw2 p fun b o hb=>(by have:=Qg hb;exact⟨oM,.inl oM⟩)
  replace hz2:=Qj hz2 p.size
  clear hB0 c0 c1 c2 p
  obtain⟨c0,c1,c2⟩:=Q1 hbx2
  go_wp2_with fail
  have a2:(Hc true).length<=1:=dM
  have u:∀x∈(Hc true),x<256:=dM
  replace v:EU bb bb (Hc true) w3:=v
  generalize(Hc true)=xs at a2 u v HR
 all_goals
  refine(hwi _).mono ?_
  rintro x w4 ⟨rfl,h9⟩
  replace h9:=h9.symm
  subst h9
  go_wp2_with fail
  refine(Vd (n:=0)).1 ?_
  refine gR (n:=0) hbx2 ?_
  repeat refine sX ?_
  refine Kd rfl rfl ?_
  intro K z
  go_simp
  rw[show IntKind.i64.wrap (-((dg.size:Int)+ex))= -((dg.size:Int)+ex) from by rw[BW];omega]
  refine(Qr (a0 _)).mono ?_
  rintro x w5 ⟨rfl,m⟩
  have y:=m.s hbx2
  have a5:EU bb bb xs w3.drew:=v
  have ad:=V1 a5 m (fun c f=>trivial) (fun g c f _ _=>trivial)
  have a8:Qd w w5:=hkw2.drew.trans m
  have a6:bb<=w5.heap.size:=Qj hz2 m.size
  refine z _ _ y ?_
  clear z K
  have f0:=Q1 y
  have aa:¬9223372036854775807<2+zs.size:=oM
  refine K6 rfl rfl ?_
  intro K z w' hs
  go_simp
  rw[H2.out]
  refine z _ _ ?_
  clear z K hs w'
  repeat refine sX ?_
  have ag:¬9223372036854775807<x2.size+dg.size:=oM
  refine K6 rfl rfl ?_
  intro K z w' hs
  go_simp
  rw[HT.out]
  refine z _ _ ?_
  clear z K hs w'
  refine Kd rfl rfl ?_
  intro K z
  go_simp
  refine(Qr (Ke bb bb tx xs _ ad oM a6)).mono ?_
  rintro x w6 ⟨⟨v6,rfl⟩,ae,a1⟩
  have a9:=a1.same _ _ y ⟨oM,.inl hlt1⟩
  have a3:Qd w w6:=Ho a8 a1 fun b o hb=>(by have:=Qg hb;exact⟨oM,.inl oM⟩)
  have ac:bb<=w6.heap.size:=Qj a6 a1.size
  refine z _ _ a9 ?_
  clear z K
  refine Jc ?_
  go_wp2_with fail
  refine(J4 bb bb (xs++Qf tx) w6 ae (fun x hx=>(Kn.1 hx).elim (u x) (Yj _ x)) ac).mono ?_
  rintro x w7 ⟨rfl,af⟩
  have a7:Qd w w7:=Ho a3 af fun b o hb=>(by have:=Qg hb;exact .inl oM)
  go_wp2_with fail
  go_ret2
  exact⟨by rw[HR.out];rfl,a7⟩
def W6{N:Nat}{E:Am}(d:Dc)(w:Qm)(hG:Ah N E w)(hs:d.digits.size<=1099511627776):
  Calls prog 123 #[FY d] w fun e w'=>e=.returned (.tuple #[.string (Z2 d).1,.int .i64 (Z2 d).2])/\Qd w w':=by
 cases h:Q2 d with
 |false=>exact Qer d w hs h
 |true=>
  cases hw:Kt d.exp 20 with
  |false=>exact Qes d w h hw hG.pow fun W v=>(hG.same v).pow
  |true=>
   have j: -20<=d.exp/\d.exp<=20:=by
    unfold Kt at hw;simp only[X1,Zz]at hw;exact hw
   by_cases q:0<=d.exp
   ·exact U3 d w hs h q j.2
   ·by_cases y:0< (d.digits.size:Int)+d.exp
    ·exact Qet d w h oM j.1 y
    ·exact Qeu d w h oM j.1 oM
def Ky(h:Hd):Dc × Bool:=
 if h.u≠100∨(Rp h.s).2.2≠0∨(Rp h.s).2.1.size≠0 then(Ko,false)
 else if(Z2 (Rp h.s).1).2≠0∨(Z2 (Rp h.s).1).1≠h.s then(Ko,false)
 else((Rp h.s).1,true)
def FH(s:Qo)(h:(Rp s).2.2=0):Q2 (Rp s).1=true:=by
 unfold Rp at h|-;split at h
 ·cases h
 ·rename_i v;rw[Qa v];split at h
  ·rename_i j;exact absurd h j
  ·rename_i j;rw[Qa j];have q:(LF s).2=0:=Decidable.not_not.1 j;unfold LF at q|-;exact C7 _ _ _ q
def DL(h:Hd)(hx:(Ky h).2=true):Q2 (Ky h).1=true:=by
 unfold Ky at hx|-;split at hx
 ·cases hx
 ·rename_i j;rw[Qa j];split at hx
  ·cases hx
  ·rename_i q;rw[Qa q];exact FH _ (Decidable.not_not.1 fun e=>j (.inr (.inl e)))
def PJ(T:Array Q0)(W:Qm)(bx:Nat)(d:Dc)(e:Bool)(h2:T.getD 2 undef=.pointer (some ⟨bx,0,none⟩))(h3:T.getD 3 undef=.bool e)
  (hrow:W.heap[bx]? =some (.cells #[.bool d.neg,.string d.digits,.int .i64 d.exp] 23 (0,0))):(results f150 T).run prog W=.ok (U9 (d,e)) W:=by
 exact cE
def Qa5{P:Prop}(h:P:=by
 go_wp2_with fail;(try simp only[Exit.inBlock,Exit.then]);obtain⟨p3,p4⟩:=D5 (x:=.bool false) (y:=.string ⟨#[]⟩) (z:=i6 0) hkw4 hbr4 oM;exact Xs (PJ _ _ (w.heap.size+1) Ko false rfl rfl p3) rfl ⟨by rw[HR1.out]<;>rfl,p4⟩):P:=h
def Qa6{P:Prop}(h:P:=by
 go_wp2_with fail;(try simp only[Exit.inBlock,Exit.then]);obtain⟨p3,p4⟩:=D5 (x:=.bool false) (y:=.string ⟨#[]⟩) (z:=i6 0) hkw2 hbr2 oM;exact Xs (PJ _ _ (w.heap.size+1) Ko false rfl rfl p3) rfl ⟨by rw[HR1.out]<;>rfl,p4⟩):P:=h
def JA{N:Nat}{E:Am}(h:Hd)(a:Jr)(n cap:Nat)(w:Qm)(hG:Ah N E w)(hN:N<=w.heap.size)(hs:h.s.size<=274877906944):
  Calls prog 150 #[Qu h (.slice a n cap)] w fun e w'=>e=.returned (U9 (Ky h))/\Qd w w':=by
 have m:=fun W (hW:Qd w W)=>tY h.s W (hG.same hW) (Qj hN hW.size) hs
 have b:=FH h.s
 obtain⟨R,hR⟩:=X0 (Ky h)
 have j:R=if h.u≠100∨(Rp h.s).2.2≠0∨(Rp h.s).2.1.size≠0 then(Ko,false)else if(Z2 (Rp h.s).1).2≠0∨(Z2 (Rp h.s).1).1≠h.s then(Ko,false)else((Rp h.s).1,true):=hR.symm
 rw[hR]
 clear hR
 obtain⟨⟨d,q,er⟩,aa⟩:∃r,Rp h.s=r:=⟨_,rfl⟩
 rw[aa]at m b j
 simp only at m b j
 have v:=fun W (hW:Qd w W) (hdd:er=0)=>W6 d W (hG.same hW) (Qj (Wy d (b hdd)).1 dM)
 obtain⟨⟨fs,fe⟩,a6⟩:∃r,Z2 d=r:=⟨_,rfl⟩
 rw[a6]at v j
 simp only at v j
 clear aa a6
 replace j:=Qc j
 go_in
 go_wp2_with fail
 refine(m _ Xd).mono ?_
 rintro x w1 ⟨rfl,a9⟩
 have p:=a9.same w.heap.size _ (show _=some (.cells (nR h (.slice a n cap)) 27 (0,0)) from Qb (Qt w _)) trivial
 have a3:=a9.same (w.heap.size+1) _ (show _=some (.cells #[.bool false,.string ⟨#[]⟩,i6 0] 23 (0,0)) from Ql sM) trivial
 have a4:Qd w w1:=Xd
 have a2:=Qb (o:=.cells #[.bool d.neg,.string d.digits,i6 d.exp] 23) p
 have hbr2:=Qb (o:=.cells #[.bool d.neg,.string d.digits,i6 d.exp] 23) a3
 have k:=Qt w1 (.cells #[.bool d.neg,.string d.digits,i6 d.exp] 23)
 have hkw2:Qd w (w1.alloc (.cells #[.bool d.neg,.string d.digits,i6 d.exp] 23)):=a4.trans ((Ac.refl _ _).alloc _)
 have n0:=Qi a2
 have z0:=Q1 hbr2
 have x0:=Q1 k
 have m0:=Qi p
 have a8:=Jd hbr2
 by_cases hu:h.u=100
 ·have k1:((h.u:Int)==100)=true:=by simp[hu]
  have ac:((h.u:Int)!=100)=false:=by simp[hu]
  by_cases he:er=0
  ·subst he;by_cases t:q.size=0
   ·have k3:q.toList=[]:=by
     have:q=ByteArray.empty:=by simpa using t
     rw[this,Hx];rfl
    have c:=Qc (show R=if fe≠0∨fs≠h.s then(Ko,false)else(d,true) from by rw[j.out,Qa (by rintro(e|e|e);exact e hu;exact e rfl;exact e t)]);clear hu j t b m;go_wp2_with fail;refine(v _ hkw2 trivial).mono ?_;rintro x w4 ⟨rfl,a1⟩;have a7:=a1.s a2;have hbr4:=a1.s hbr2;have a5:=a1.s k;have hkw4:=hkw2.trans a1;clear n0 z0 x0 m0 a8 v a2 p a3 hbr2 k a1 hkw2;have n0:=Qi a7;have z0:=Q1 hbr4;have x0:=Q1 a5;have a8:=Jd hbr4;by_cases a0:fe=0
    ·subst a0;by_cases f:fs=h.s
     ·have k4:(fs.toList==h.s.toList)=true:=Pd f;have ab:(fs.toList !=h.s.toList)=false:=by unfold bne;rw[k4];rfl
      have HR1:=Qc (show R=(d,true) from by rw[c.out,Qa (by rintro(e|e);exact e rfl;exact e f)]);clear f c;go_wp2_with fail
      (try simp only[Exit.inBlock,Exit.then]);obtain⟨p3,p4⟩:=D5 (x:=.bool d.neg) (y:=.string d.digits) (z:=i6 d.exp) hkw4 hbr4 oM;exact Xs (PJ _ _ (w.heap.size+1) d true rfl rfl p3) rfl ⟨by rw[HR1.out]<;>rfl,p4⟩
     ·have k4:(fs.toList==h.s.toList)=false:=Pe f;have ab:(fs.toList !=h.s.toList)=true:=by unfold bne;rw[k4];rfl
      have HR1:=Qc (show R=(Ko,false) from by rw[c.out,Qe (.inr f)]);clear f c;exact Qa5
    ·have k2:((fe:Int)==0)=false:=by simpa using a0
     have ad:((fe:Int)!=0)=true:=by simpa using a0
     have HR1:=Qc (show R=(Ko,false) from by rw[c.out,Qe (.inl a0)]);clear a0 c;exact Qa5
   ·have k3:(q.toList==[])=false:=X6.2 fun e=>t (by rw[Hx]at e;show q.data.size=0;rw[<-aA,e];rfl)
    have ae:(q.toList !=[])=true:=by unfold bne;rw[k3];rfl
    have HR1:=Qc (show R=(Ko,false) from by rw[j.out,Qe (.inr (.inr t))]);clear hu j v b m t;exact Qa6
  ·have k2:((er:Int)==0)=false:=by simpa using he
   have ad:((er:Int)!=0)=true:=by simpa using he
   have HR1:=Qc (show R=(Ko,false) from by rw[j.out,Qe (.inr (.inl he))]);clear hu j v b m he;exact Qa6
 ·have k1:((h.u:Int)==100)=false:=by simp;omega
  have ac:((h.u:Int)!=100)=true:=by simp;omega
  have HR1:=Qc (show R=(Ko,false) from by rw[j.out,Qe (.inl hu)]);clear hu j v b m;exact Qa6
def GE:Aa:=Rb ⟨false,⟨#[50]⟩,0⟩
def XN:Aa:=.node {Qh 4 with u:=4607182418800017408,w:=64} []
def tg1:Aa:=.node {Qh 9 with u:=1} [GE]
def JB:Aa:=Hu [XN,tg1,GE]
def wB:Aa:=Hu [Rb ⟨false,⟨#[49]⟩,0⟩,GE,GE]
def eC:Q8 Ky JB 2=(wB,0):=by kernel_rfl
def lJ:Gz Ky JB 2=([([X4 0],XN),([X4 1],tg1)],0):=by kernel_rfl
def Qib:XK Ky wB 2 [([X4 0],XN),([X4 1],tg1)]=(JB,0):=by
 have h:=Qa2 (X:=Ky) (f:=2) (n:=JB) dM (by rw[lJ]);rw[eC,lJ]at h;exact h
end Go.Tm
namespace Go.Tm
open Go.Proofs Go.RowKit Go.Shelf Go.Sort Go.Proofs.Tryz
def J1(S:Qz)(t:Aa)(w:Qm):Ending->Qm->Prop:=fun e w'=>∃v,e=.returned (Qu t.hd v)/\Ad S w' t.l v/\t.hd.ok/\Qd w w'
def Qa7(t:Aa):Prop:=∀(S:Qz) (lv:Q0) (w:Qm),t.hd.ok->Ad S w t.l lv->(∀k,w.heap.size<=k->S k)->Calls prog 34 #[Qu t.hd lv] w (J1 S t w)
def WA(h:Hd)(l:Qp)(ih:∀x∈l,Qa7 x)(hl40:l.length<=40):Qa7 (.node h l):=by
 intro S lv w ho hr hS;simp only[Aa.Ae,Aa.Ag]at ho hr;unfold J1;refine UH ?_;refine Qfw ?_;intro hr0 hS0 S0 hSS;have ag:∀b,S0 b->S b:=fun b hb=>by rw[hSS]at hb;exact hb.1
 have a8:∀b,S0 b->b≠w.heap.size/\b≠w.heap.size+1:=fun b hb=>by rw[hSS]at hb;have:=hb.2;omega
 replace hS0:∀k,w.heap.size+2<=k->S0 k:=fun k hk=>by rw[hSS];exact hS0 k hk
 rw[<-hSS]at hr0;clear hSS hr hS;have t:=fun W (hs:Qd w W)=>UY l S0 lv W (hr0.same hs) oM
 obtain⟨a,cap,rfl⟩:=hr0.Ab;generalize hn:l.length=n at t hl40|-;refine Qfx ?_;intro hbn hbr hk1 hz1;replace t:=t _ hk1;clear hr0;go_in;go_wp2_with fail;refine t.mono ?_;rintro e w3 ⟨v',rfl,hown,z⟩;rw[hz1]at hown;obtain⟨va,vc,rfl⟩:=hown.Ab;rw[hn]at hown;have hbn3:=z.s hbn;have a3:=z.s hbr;have a4:=hk1.trans z;have ac:w.heap.size+2<=w3.heap.size:=by have:=z.size;omega
 refine Qfy ?_;intro n0 hfz hk4 hbn4;clear z hk1 hz1 hbn hbr t;go_wp2_with fail;generalize(w3.setCell (ad w.heap.size 8) (.slice va n vc))=w4 at hk4 hbn4|-;have a7:=hk4.same _ _ a3 oM;have a5:Qd w w4:=Ho a4 hk4 fun k o hk=>(Ku hk)
 have p:Ar S0 w4 (w.heap.size+2) (.slice va n vc) l:=hown.Af hk4 fun b hb c f=>by
  rcases hb with hb|hb
  ·exact(a8 b hb).1
  ·omega
 have af:w.heap.size+2<=w4.heap.size:=Qj ac hk4.size;clear hk4 hbn3 a3 a4 hown n0 hfz ac;have n0:=Qi hbn4;go_wp2_with fail;go_loopw [12] (fun iv wr=>∃k:Nat,k<=n/\iv=i6 (k:Int)/\wr.heap[w.heap.size]? =some (.cells (nR h (.slice va n vc)) 27 (0,0))/\wr.heap[w.heap.size+1]? =some (.cells zR 27 (0,0))/\
  Ar S0 wr (w.heap.size+2) (.slice va n vc) l/\Qd w wr/\w.heap.size+2<=wr.heap.size) (fun iv _=>n-(RowKit.intOf iv).toNat)
 case atStart=>exact⟨0,Xi _,rfl,hbn4,a7,p,a5,af⟩
 case round=>
  obtain⟨k,b5,rfl,hb,hz,hown,hsm,b7⟩:=hrel;clear n0 hbn4 a7 p a5 af;by_cases b3:k<n
  ·have a2:k<l.length:=oM;obtain⟨g,b9,rfl,b6,b1⟩:=hown.block oM;have v:l.set k l[k]=l:=List.set_getElem_self a2;obtain⟨b0,a1,r,a0⟩:=hown.get k a2;have m:=ih l[k] (Zp a2);generalize ah:l[k]=xt at a1 r a0 m v;have j:=fun W (hs:Qd wr W)=>m (fun b=>S0 b/\b≠g) b0 W a1 (r.same hs) (fun b hb=>⟨hS0 b (by have:=hs.size;omega),by have:=hs.size;have:=Qg b1;omega⟩)
   unfold J1 at j;obtain⟨q,xl⟩:=xt;simp only[Aa.Ae,Aa.Ag]at a1 r a0 j v;obtain⟨xa,xc,rfl⟩:=r.Ab;have HN:=Qc v;have ae:k<l.length:=a2;clear v m ah ih r;have c0:=Rv a0;go_wp2_with fail;refine Qai ?_;intro hbx5 hk5 hz5;generalize(wr.alloc (.cells (nR q (.slice xa xl.length xc)) 27))=W5 at hbx5 hk5 hz5|-;refine pP ?_;intro hb5 hzr5 hown5 hsm5 n0 m0;clear c0 a0 hb hz hown;repeat refine sX ?_
   refine Vr ?_;intro K hK;refine(Qr (j _ (hk5.trans Xd))).mono ?_;rintro x' w6 ⟨b4,rfl,hr6,_,hk6⟩;refine Qaj ?_;intro hk56 hb6 hbx6 hzr6 hown6 hsm6 hz6;obtain⟨a6,a9,rfl⟩:=hr6.Ab;refine hK _ _ ⟨hb6,hbx6⟩ ?_;clear hK K j hb5 hbx5 hzr5 hown5 hsm5 hk6 hk56 n0 m0;repeat refine sX ?_
   refine DA ?_;obtain⟨g',b2,e6,_,hgc6⟩:=hown6.block oM;cases e6;have hfz:=Jd hgc6;obtain⟨b8,_,_,hya⟩:=hown6.get k ae;have c0:=Rv hya;go_simp;have hset:=hown6.set k ae q xl (.slice a6 xl.length a9) a1 hr6;rw[Jj 9 k]at hset;have hk67:=PC w6 g (k*9) (i6 q.kind) (.bool q.b) (.bool q.d.neg) (.string q.d.digits) (i6 q.d.exp) (.int .u64 q.u) (i6 q.w) (.string q.s) (.slice a6 xl.length a9);rw[HN.out]at hset;generalize hw7:World.Br w6 g (k*9) (i6 q.kind) (.bool q.b) (.bool q.d.neg) (.string q.d.digits) (i6 q.d.exp) (.int .u64 q.u) (i6 q.w) (.string q.s) (.slice a6 xl.length a9)=w7 at hset hk67;exact Qfz
  ·obtain rfl:k=n:=oM;have n0:=Qi hb;have q0:=Qi hz;have hfz:=Jd hz;have aa:=hown.rep hS0 oM;clear ih hown;go_wp2_with fail
   (try simp only[Exit.inBlock,Exit.then]);obtain⟨h9,ab⟩:=Yw hz h (.slice va k vc);refine DS rfl rfl h9 rfl ⟨_,rfl,?_,ho,?_⟩
   ·exact(aa.Af ab fun y hy _ _=>(a8 y hy).2).mono fun y _ hy=>ag y hy
   ·exact Ho hsm ab fun y o hy=>(Ku hy)
def R8:∀t:Aa,(∀x∈t.flat,x.l.length<=40)->Qa7 t:=by
 refine Aa.ind fun h l q j=>?_
 exact WA h l (fun x hx=>q x hx fun y v=>j y (K4 h l x hx y v)) (j _ (Z8 _))
end Go.Tm
namespace Go.Tm
open Go.Proofs Go.RowKit Go.Proofs.Tryz
variable{S S':Qz}{K:Nat->Obj->Prop}{w w':Qm}{s:Qo}{B b clock i k n r:Nat}{t x:Aa}{lv v:Q0}{F:Fence}{P:Program}{a:Act}{Q:Exit->Act->Qm->Prop}{ps:List (Aa × Aa)}
def eD:=@List.eraseIdx_cons_succ
def GF:=@List.mem_iff_getElem
def SO:=@Lib.toList_data
def CS:=@List.not_mem_nil
def CT:=@or_false
def pW:=@List.length_pos_iff
def Qa8:=@List.head?_eq_none_iff
def IN:=@wp_scope_straight
abbrev JC:TypeId:=71
abbrev Qic:TypeId:=9
def An(S:Qz)(w:Qm):List (Qo × Aa)->List MapEntry->Prop
 | [],es=>es=[]
 |p::ps,es=>∃lv born rest,es={key:=.string p.1,val:=Qu p.2.hd lv,born:=born}::rest/\p.2.hd.ok/\Ad S w p.2.l lv/\An S w ps rest
def An.Af(hk:Ac K w w')(hN:∀b,S b->∀c f,K b (.cells c 27 f)):∀{ps:List (Qo × Aa)} {es:List MapEntry},An S w ps es->An S w' ps es
 | [],es,h=>by rw[An]at h|-;exact h
 |p::ps,es,h=>by
  rw[An]at h|-;obtain⟨lv,born,rest,e,h1,h2,h3⟩:=h;exact⟨lv,born,rest,e,h1,h2.Af hk hN,An.Af hk hN h3⟩
def An.mono(hS:∀b,b<w.heap.size->S b->S' b):∀{ps:List (Qo × Aa)} {es:List MapEntry},An S w ps es->An S' w ps es
 | [],es,h=>by rw[An]at h|-;exact h
 |p::ps,es,h=>by
  rw[An]at h|-;obtain⟨lv,born,rest,e,h1,h2,h3⟩:=h;exact⟨lv,born,rest,e,h1,h2.mono hS,An.mono hS h3⟩
def An.append:∀{ps qs:List (Qo × Aa)} {es fs:List MapEntry},An S w ps es->An S w qs fs->An S w (ps++qs) (es++fs)
 | [],qs,es,fs,h1,h2=>by rw[An]at h1;subst h1;exact h2
 |p::ps,qs,es,fs,h1,h2=>by
  rw[An]at h1;obtain⟨lv,born,rest,rfl,h3,h4,h5⟩:=h1;rw[Y0,An];exact⟨lv,born,rest++fs,rfl,h3,h4,An.append h5 h2⟩
def An.keys:∀{ps:List (Qo × Aa)} {es:List MapEntry},An S w ps es->es.map (·.key)=ps.map fun p=>.string p.1
 | [],es,h=>by rw[An]at h;subst h;rfl
 |p::ps,es,h=>by
  rw[An]at h;obtain⟨lv,born,rest,rfl,h1,h2,h3⟩:=h;rw[Zy,Zy,h3.keys]
def An.isKey{ps:List (Qo × Aa)}{es:List MapEntry}(h:An S w ps es):∀x∈es,MapKept.IsKey .string x.key:=fun x hx=>by
 have:x.key∈es.map (·.key):=Xq.2 ⟨x,hx,rfl⟩;rw[h.keys]at this;obtain⟨p,_,e⟩:=Xq.1 this;rw[<-e];trivial
def An.get:∀{ps:List (Qo × Aa)} {es:List MapEntry},An S w ps es->∀i (x:MapEntry),es[i]? =some x->∃(hi:i<ps.length) (lv:Q0),x.key=.string ps[i].1/\x.val=Qu ps[i].2.hd lv/\ps[i].2.hd.ok/\Ad S w ps[i].2.l lv
 | [],es,h,i,x,hx=>by rw[An]at h;subst h;simp at hx
 |p::ps,es,h,i,x,hx=>by
  rw[An]at h;obtain⟨lv,born,rest,rfl,h1,h2,h3⟩:=h;cases i with
  |zero=>
   simp only[List.getElem?_cons_zero,Fp]at hx;subst hx;exact⟨sM,lv,rfl,rfl,h1,h2⟩
  |succ i=>
   simp only[Qad]at hx;obtain⟨hi,j,v,z,q,y⟩:=h3.get i x hx;exact⟨by simpa using hi,j,v,z,q,y⟩
def An.erase:∀{ps:List (Qo × Aa)} {es:List MapEntry},An S w ps es->∀i,An S w (ps.eraseIdx i) (es.eraseIdx i)
 | [],es,h,i=>by rw[An]at h;subst h;simp[An]
 |p::ps,es,h,i=>by
  rw[An]at h;obtain⟨lv,born,rest,rfl,h1,h2,h3⟩:=h;cases i with
  |zero=>exact h3
  |succ i=>
   rw[eD,eD,An];exact⟨lv,born,rest.eraseIdx i,rfl,h1,h2,h3.erase i⟩
def An.Bk{ps:List (Qo × Aa)}{es:List MapEntry}(h:An S w ps es)(hs:s∉ps.map Prod.fst):Instr.findNow .string (.string s) es 0=some none:=by
 rcases RN (d:=.string) (k:=.string s) trivial es 0 h.isKey with⟨y,_⟩| ⟨j,e,_,z,q⟩
 ·exact y
 ·obtain⟨v,n,m,_⟩:=h.get j e z;rw[m]at q;cases q;exact absurd (Xq.2 ⟨_,Zp v,rfl⟩) hs
def An.Bj{ps:List (Qo × Aa)}{es:List MapEntry}(h:An S w ps es)(hs:s∈ps.map Prod.fst):∃(j:Nat) (hj:j<ps.length) (lv:Q0),Instr.findNow .string (.string s) es 0=some (some (j,Qu ps[j].2.hd lv))/\ps[j].1=s/\ps[j].2.hd.ok/\Ad S w ps[j].2.l lv:=by
 rcases RN (d:=.string) (k:=.string s) trivial es 0 h.isKey with⟨_,q⟩| ⟨j,e,q,n,v⟩
 ·exfalso;obtain⟨p,m,rfl⟩:=Xq.1 hs;have:(Value.string p.1)∈es.map (·.key):=by rw[h.keys];exact Xq.2 ⟨p,m,rfl⟩
  obtain⟨x,hx,e⟩:=Xq.1 this;exact q x hx e
 ·obtain⟨hj,lv,u,b,z,y⟩:=h.get j e n;rw[u]at v;rw[Z3,b]at q;exact⟨j,hj,lv,q,by cases v;rfl,z,y⟩
def As(S:Qz)(w:Qm)(r:Nat)(ps:List (Qo × Aa)):Prop:=∃es clock,w.heap[r]? =some (.map es clock)/\An S w ps es.toList
def As.Af{ps:List (Qo × Aa)}(h:As S w r ps)(hk:Ac K w w')(hm:∀es c,K r (.map es c))(hN:∀b,S b->∀c f,K b (.cells c 27 f)):As S w' r ps:=by
 obtain⟨es,j,q,v⟩:=h;exact⟨es,j,hk.same _ _ q (hm _ _),v.Af hk hN⟩
def As.same{ps:List (Qo × Aa)}(h:As S w r ps)(hk:Qd w w'):As S w' r ps:=h.Af hk (fun _ _=>trivial) fun _ _ _ _=>trivial
def As.mono{ps:List (Qo × Aa)}(h:As S w r ps)(hS:∀b,b<w.heap.size->S b->S' b):As S' w r ps:=by
 obtain⟨y,j,q,v⟩:=h;exact⟨y,j,q,v.mono hS⟩
def As.new(h:w.heap[r]? =some (.map #[] 0)):As S w r []:=⟨#[],0,h,rfl⟩
def Cq{es:Array MapEntry}(hb:w.heap[r]? =some (.map es clock))(o:Obj):Ac (fun b _=>b≠r) w (w.putObj r o)/\Ac (fun _ o=>o.isCells=true) w (w.putObj r o):=
 ⟨(Ac.refl _ w).putObj _ fun _ _ h _=>h rfl,(Ac.refl _ w).putObj _ fun o j q _=>by
  rw[hb]at j;cases j;cases q⟩
def eE{es:Array MapEntry}(hb:w.heap[r]? =some (.map es clock))(o:Obj):(w.putObj r o).heap[r]? =some o:=by
 have:=Qg hb;simp[World.putObj,this]
def As.update{ps:List (Qo × Aa)}(h:As S w r ps)(hs:s∉ps.map Prod.fst)(hxo:x.hd.ok)(hxr:Ad S w x.l lv):
  ∃w',(Instr.mapUpdate JC (.map (some r)) (.string s) (Qu x.hd lv)).run prog w=.ok () w'/\As S w' r (ps++[(s,x)])/\Ac (fun b _=>b≠r) w w'/\Ac (fun _ o=>o.isCells=true) w w':=by
 obtain⟨y,j,q,v⟩:=h
 refine⟨_,Qs (d:=.string) (.string s) (Qu x.hd lv) underlying71 underlying9 trivial q (v.Bk hs),⟨_,_,eE q _,?_⟩,(Cq q _).1,(Cq q _).2⟩
 rw[Array.toList_push]
 refine(v.Af (Cq q _).2 fun _ _ _ _=>rfl).append ?_
 rw[An]
 exact⟨lv,j,[],rfl,hxo,hxr.Af (Cq q _).2 fun _ _ _ _=>rfl,by rw[An]⟩
def As.lookup{ps:List (Qo × Aa)}(h:As S w r ps)(hs:s∈ps.map Prod.fst):
  ∃(j:Nat) (hj:j<ps.length) (lv:Q0),(Instr.lookup JC (.map (some r)) (.string s) true).run prog w=.ok (.tuple #[Qu ps[j].2.hd lv,.bool true]) w/\ps[j].1=s/\ps[j].2.hd.ok/\Ad S w ps[j].2.l lv:=by
 obtain⟨b,q,z,m⟩:=h
 obtain⟨j,hj,lv,v,n,u,y⟩:=m.Bj hs
 exact⟨j,hj,lv,Xj (d:=.string) (.string s) underlying71 underlying9 trivial z v true,n,u,y⟩
def uA(w:Qm):(zeroValue 27).run prog w=.ok (Qu (Qh 0) (.slice none 0 0)) w:=by kernel_rfl
def As.AJ{ps:List (Qo × Aa)}(h:As S w r ps)(hs:s∉ps.map Prod.fst):
  (Instr.lookup JC (.map (some r)) (.string s) true).run prog w=.ok (.tuple #[Qu (Qh 0) (.slice none 0 0),.bool false]) w:=by
 obtain⟨y,j,q,v⟩:=h
 exact H9 (d:=.string) (.string s) underlying71 underlying9 trivial uA q (v.Bk hs) true
def As.delete{ps:List (Qo × Aa)}(ty:TypeId)(h:As S w r ps)(hs:s∈ps.map Prod.fst):
  ∃(j:Nat) (hj:j<ps.length) (w':Qm),(Builtin.delete_ #[JC,Qic] ty #[.map (some r),.string s]).run prog w=.ok (.tuple #[]) w'/\ps[j].1=s/\As S w' r (ps.eraseIdx j)/\Ac (fun b _=>b≠r) w w'/\Ac (fun _ o=>o.isCells=true) w w':=by
 obtain⟨y,q,v,m⟩:=h
 obtain⟨j,hj,d,n,u,f,c⟩:=m.Bj hs
 have z:j<y.size:=by
  have:=congrArg List.length m.keys;simp only[Vq,aA]at this;omega
 refine⟨j,hj,w.putObj r (.map (y.eraseIdxIfInBounds j) q),?_,u,⟨_,_,eE v _,?_⟩,(Cq v _).1,(Cq v _).2⟩
 ·simp[Builtin.delete_,Rh underlying71,Pb v,VM underlying9 (show MapKept.IsKey .string (.string s) from trivial),VN underlying9 n,gU _ v,Result.andThen];try rfl
 ·have e:(y.eraseIdxIfInBounds j).toList=y.toList.eraseIdx j:=by
   unfold Array.eraseIdxIfInBounds;rw[dif_pos z,Array.toList_eraseIdx]
  rw[e];exact(m.Af (Cq v _).2 fun _ _ _ _=>rfl).erase j
abbrev EM(s:Aj):Kb:=[.int .i64 s.index,.string s.key]
abbrev Yp(s:Aj):Q0:=.agg #[.int .i64 s.index,.string s.key]
def Qix(k l:Qo):(k==l)=decide (k=l):=by
 obtain⟨k⟩:=k;obtain⟨l⟩:=l;have:(ByteArray.mk k==ByteArray.mk l)=(k==l):=rfl;rw[this];by_cases e:k=l<;>simp[e]
def PK(i:Int)(k:Qo)(w:Qm):(Go.part 3 #[.int .i64 i,.string k] 0).run prog w=.ok (.int .i64 i) w:=by kernel_rfl
def PL(i:Int)(k:Qo)(w:Qm):(Go.part 9 #[.int .i64 i,.string k] 1).run prog w=.ok (.string k) w:=by kernel_rfl
def Qa9:prog.stoodInHeld 62=false:=by kernel_rfl
def Qid(n:Nat)(i j:Int)(w:Qm):(Op.equalIn (n+1) 3 (.int .i64 i) (.int .i64 j)).run prog w=.ok (i==j) w:=by
 have q:=underlying3;rw[Op.equalIn];simp only[Vv,Rh q,Yd];rfl
def Qhb(n:Nat)(i j:Qo)(w:Qm):(Op.equalIn (n+1) 9 (.string i) (.string j)).run prog w=.ok (i==j) w:=by
 have q:=underlying9;rw[Op.equalIn];simp only[Vv,Rh q,Yd];rfl
def Qev(n:Nat)(s t:Aj)(w:Qm):(Op.equalIn (n+2) 62 (Yp s) (Yp t)).run prog w=.ok (decide (s=t)) w:=by
 have z:=underlying62;obtain⟨i,k⟩:=s;obtain⟨j,l⟩:=t;have m:=PK i k w;have u:=PL i k w;have c:=PK j l w;have f:=PL j l w;have q:=Qid n i j w;have v:=Qhb n k l w;have y:=Qa9;rw[Qix]at v;rw[Op.equalIn];simp only[Vv,Rh z,Yd];by_cases e:i=j
 ·by_cases b:k=l
  ·subst e;subst b;simp[y,m,u,q,v]
  ·subst e;simp[y,m,u,c,f,q,v,b]
 ·have d:(i==j)=false:=by simp[e]
  rw[d]at q;simp[y,m,c,q,e]
def Qhc(s t:Aj)(w:Qm):(Op.equal 62 (Yp s) (Yp t)).run prog w=.ok (decide (s=t)) w:=Qev 9998 s t w
def uB(em:Bool)(n:Nat)(i:Int)(w:Qm):(Instr.checkKey em (n+1) 3 (.int .i64 i)).run prog w=.ok () w:=by
 have j:=underlying3;rw[Instr.checkKey];simp only[Vv,Rh j,Yd];rfl
def uC(em:Bool)(n:Nat)(i:Qo)(w:Qm):(Instr.checkKey em (n+1) 9 (.string i)).run prog w=.ok () w:=by
 have j:=underlying9;rw[Instr.checkKey];simp only[Vv,Rh j,Yd];rfl
def lL(em:Bool)(n:Nat)(s:Aj)(w:Qm):(Instr.checkKey em (n+2) 62 (Yp s)).run prog w=.ok () w:=by
 have j:=underlying62;have z:=PK s.index s.key w;have v:=PL s.index s.key w;have y:=uB em n s.index w;have q:=uC em n s.key w;rw[Instr.checkKey];simp only[Vv,Rh j,Yd];simp[z,v,y,q]
def JD(em:Bool)(s:Aj)(w:Qm):(Instr.checkKey em 10000 62 (Yp s)).run prog w=.ok () w:=lL em 9998 s w
def Az(es:List MapEntry)(l:List Aj):Prop:=es.map (fun e=>(e.key,e.val))=l.map fun s=>(Yp s,Value.bool true)
def eF(s:Aj)(w:Qm):∀(l:List Aj) (es:List MapEntry) (i:Nat),Az es l->
  ∃j,(Instr.findAsking 62 (Yp s) es i).run prog w=.ok (if s∈l then some (j,.bool true)else none) w
 | [],es,i,h=>by
  have:es=[]:=by
   cases es with
   |nil=>rfl
   |cons e es=>simp[Az]at h
  subst this;exact⟨0,by simp[Instr.findAsking]⟩
 |t::l,es,i,h=>by
  match es,h with
  | [],h=>simp[Az]at h
  |e::es,h=>
   obtain⟨v,n⟩:(e.key=Yp t/\e.val=.bool true)/\Az es l:=by simpa[Az] using h
   have q:=Qhc s t w;obtain⟨j,z⟩:=eF s w l es (i+1) n;by_cases y:s=t
   ·subst y;rw[Kp rfl]at q;refine⟨i,?_⟩;rw[Qe Yr];simp only[Instr.findAsking,Vv,v.1,v.2,q,Yd,BE,N4]
   ·rw[Z4 y]at q;refine⟨j,?_⟩;have m:(s∈t::l)↔s∈l:=by simp[y]
    simp only[Instr.findAsking,Vv,v.1,q,Yd,I7,Nk,z,m]
def JE(s:Aj)(w:Qm)(l:List Aj)(es:List MapEntry)(h:Az es l):
  ∃j,(Instr.findKey 62 (Yp s) es).run prog w=.ok (if s∈l then some (j,.bool true)else none) w:=by
 have q:=underlying62
 cases es with
 |nil=>
  have:l=[]:=by
   cases l with
   |nil=>rfl
   |cons e es=>simp[Az]at h
  subst this;exact⟨0,by simp[Instr.findKey,Instr.findNow,Rh q]⟩
 |cons e es=>
  obtain⟨j,v⟩:=eF s w l (e::es) 0 h;refine⟨j,?_⟩;simp only[Instr.findKey,Vv,Rh q,Yd,Instr.findNow,Instr.sameNow];exact v
def IP(s:Aj)(w:Qm)(l:List Aj)(es:List MapEntry)(b n:Nat)(h:Az es l)(hb:w.heap[b]? =some (.map es.toArray n)):
  (Instr.lookup 205 (.map (some b)) (Yp s) false).run prog w=.ok (.bool (decide (s∈l))) w:=by
 have q:=underlying205
 have y:(zeroValue 4).run prog w=.ok (.bool false) w:=kM
 obtain⟨j,v⟩:=JE s w l es h
 simp only[Instr.lookup,Vv,Rh q,Yd,Pb hb,JD,v,N4]
 by_cases e:s∈l
 ·simp[e]
 ·simp[e,y]
def eG(s:Aj)(w:Qm)(l:List Aj)(es:List MapEntry)(b n:Nat)(h:Az es l)(hs:s∉l)(hb:w.heap[b]? =some (.map es.toArray n)):
  (Instr.mapUpdate 205 (.map (some b)) (Yp s) (.bool true)).run prog w=.ok () {w with heap:=w.heap.setIfInBounds b (.map (es++[({key:=Yp s,val:=.bool true,born:=n}:MapEntry)]).toArray (n+1))}:=by
 have q:=underlying205
 obtain⟨j,v⟩:=JE s w l es h
 rw[Qa hs]at v
 simp[Instr.mapUpdate,Vv,Rh q,Yd,Pb hb,JD,v,gU _ hb]
def Az.snoc{es:List MapEntry}{l:List Aj}(h:Az es l)(s:Aj)(n:Nat):Az (es++[({key:=Yp s,val:=.bool true,born:=n}:MapEntry)]) (l++[s]):=by
 unfold Az at h|-;rw[Hg,Hg,h];rfl
def Qba{o:Obj}(h:∀o0,w.heap[b]? =some o0->¬K b o0):Ac K w {w with heap:=w.heap.setIfInBounds b o}:=
 ⟨rfl,rfl,rfl,sM,fun k v j q=>by
  by_cases e:k=b
  ·subst e;exact absurd q (h _ j)
  ·show(w.heap.setIfInBounds b o)[k]? =_;rw[Array.getElem?_setIfInBounds_ne oM];exact j⟩
def pX{op:Oper}{K:Act->Qm->Prop}{r:Result Unit}{f:Unit->Qm->Result Next}{C:Qm->Prop}(h:∃Z,r=.ok () Z/\C Z)
  (h2:∀Z,C Z->Oper.uponIn F n P op a K Q ((Result.ok () Z).andThen f)):Oper.uponIn F n P op a K Q (r.andThen f):=by
 obtain⟨Z,rfl,j⟩:=h
 exact h2 Z j
def JF(s:Aj)(l:List Aj)(es:List MapEntry)(b n:Nat)(h:Az es l)(hs:s∉l)(X:Qm)(hb:X.heap[b]? =some (.map es.toArray n)):
  ∃Z,(Instr.mapUpdate 205 (.map (some b)) (Yp s) (.bool true)).run prog X=.ok () Z/\(∃es2,Az es2 (l++[s])/\Z.heap[b]? =some (.map es2.toArray (n+1)))/\Ac (fun k _=>k≠b) X Z:=
 ⟨_,eG s X l es b n h hs hb,⟨_,h.snoc s n,by show(X.heap.setIfInBounds b _)[b]? =_;rw[Array.getElem?_setIfInBounds_self_of_lt (Qg hb)]⟩,Qba fun _ _ h=>h rfl⟩
def lM(t:Aa)(i:Nat)(v:Array Q0)(A:Qm):Prop:=∃(h0:i< (Qx t t.l.length).length),v=#[Yp ((Qx t t.l.length)[i]).1,.int .i64 (((Qx t t.l.length)[i]).2:Int)]
def WB{x:Aj × Nat}(h:Yc t k=some x)(hx:x.1∉(Qx t k).map Prod.fst)(hk:k<t.l.length):
  ∃h0:(Qx t k).length< (Qx t t.l.length).length,(Qx t t.l.length)[(Qx t k).length]=x:=by
 obtain⟨r,j⟩:=cL t t.l.length (k+1) hk
 rw[Jp h hx]at j
 simp only[j]
 refine⟨sM,sM⟩
def Qbb{P:Prop}(h:P:=by
 clear hse2 hj3;gi_wp2;exact⟨⟨k+1,oM,by push_cast;rfl,hJ9,⟨es2,_,hm3,hs9⟩,hk3⟩,by simp[RowKit.intOf];omega⟩):P:=h
def pY{P:Prop}(h:P:=by
 clear hse2;gi_wp2;refine aL ?_;exact⟨⟨_,rfl⟩,.inr ⟨_,hlt2,hj3,trivial⟩⟩):P:=h
def pZ{P:Prop}(h:P:=by
 gi_wp2;have hs9:Az es ((Qx t (k+1)).map Prod.fst):=by rw[Vm HCD.out];exact hse.out
 have hJ9:J (Qx t (k+1)).length wr:=by rw[Vm HCD.out];exact hj
 exact⟨⟨k+1,oM,by push_cast;rfl,hJ _ _ _ hJ9 (((Ac.refl _ _).alloc _).alloc _),⟨es,n,Qb (Qb hm),hs9⟩,(hkk.alloc _).alloc _⟩,by simp[RowKit.intOf];omega⟩):P:=h
def SP(S:Qz)(t:Aa)(lv:Q0)(bx:Nat)(Sb Si:Nat->Obj->Prop)(W:Qm)(hr:Ad S W t.l lv)(hbx:W.heap[bx]? =some (.cells (Qn t.hd lv).toArray 27 (0,0)))(hSb:∀b c f,Sb b (.cells c 27 f))(hSbm:∀b es n,W.heap.size<=b->Sb b (.map es n))(hSi:∀b es n,W.heap.size<=b->¬Si b (.map es n)):
  Hk prog 198 #[.pointer (some ⟨bx,0,none⟩)] (Qx t t.l.length).length (lM t) Sb Si (fun _=>True) (fun _ _=>True) W:=by
 rintro lp J Jx ah hJ ba hY h0
 obtain⟨r,hl⟩:=ah 0 W h0
 obtain⟨cb,a,bd,rfl,cc,hi⟩:=hr.shape
 have ce:=Qg hbx
 obtain⟨n0,n1,n2,n3,n4,n5,n6,n7,n8⟩:=Qi hbx
 refine Nf func198 rfl trivial ?_ rfl
 simp only[ntmps198]
 refine Ie ?_
 gi_wp2
 rw[Mg]
 have ae:Ac Si W (W.alloc (.map #[] 0)):=(Ac.refl _ _).alloc _
 have ac:J 0 (W.alloc (.map #[] 0)):=hJ _ _ _ h0 ae
 have ag:=Qt W (.map #[] 0)
 have bg:(W.alloc (.map #[] 0)).heap.size=W.heap.size+1:=sM
 have d:Ac (fun b o=>∃c f,o=.cells c 27 f) W (W.alloc (.map #[] 0)):=(Ac.refl _ _).alloc _
 generalize(W.alloc (.map #[] 0))=W0 at ae ac ag bg d|-
 have m0:=Qi (d.same _ _ hbx ⟨_,_,rfl⟩)
 clear n0 n1 n2 n3 n4 n5 n6 n7 n8
 gi_wp2
 gi_loopw [12] (fun i wr=>∃k:Nat,k<=t.l.length/\i=i6 (k:Int)/\J (Qx t k).length wr/\(∃es n,wr.heap[W.heap.size]? =some (.map (List.toArray es) n)/\Az es ((Qx t k).map Prod.fst))/\Ac (fun b o=>∃c f,o=.cells c 27 f) W wr) (fun i _=>t.l.length-(RowKit.intOf i).toNat)
 case atStart=>exact⟨0,Xi _,rfl,ac,⟨[],0,ag,rfl⟩,d⟩
 case round=>
  obtain⟨k,hk,rfl,hj,⟨es,n,hm,hse⟩,hkk⟩:=hrel;obtain⟨r1,ch⟩:=ah _ wr hj;by_cases ab:k<t.l.length
  ·obtain⟨b,ca,cf,rfl,be,bh,b5,bb,b1⟩:=hi k ab;obtain⟨cg,fz,b7⟩:=bh;have b0:=Zd hkk (fun o ho=>by rw[b7]at ho;cases ho;exact⟨_,_,rfl⟩) b1;obtain⟨a0,cd,rfl⟩:=b5.Ab;have b2:=hkk.same _ _ hbx ⟨_,_,rfl⟩;have j:Yc t k=if t.hd.kind=8/\k % 2=0/\k+1<t.l.length/\(t.l[k]).hd.kind=5 then some (Yb (t.l[k]).hd.s,k+1)else if t.hd.kind=7 then some (X4 k,k)else none:=by
    unfold Yc;rw[show Xp t.l k=t.l[k] from by unfold Xp;rw[K9,Km ab];rfl]
   generalize(t.l[k]).hd=hd0 at b0 j;generalize(t.l[k]).l.length=n0 at b0;obtain⟨c0,c1,c2,c3,c4,c5,c6,c7,c8⟩:=Z0 b0;obtain⟨q0,q1,q2,q3,q4,q5,q6,q7,q8⟩:=Qi b2;clear hi hr m0;obtain⟨tk,b4⟩:∃x,t.hd.kind=x:=⟨_,rfl⟩;rw[b4]at q0 j;have m:tk=7->(X4 k,k).1∉(Qx t k).map Prod.fst:=fun e=>by
    rw[Gu (b4.trans e) k,Ka];intro h;obtain⟨i,hi,e⟩:=Xq.1 h
    have:=KB (show X4 i=X4 k from e)
    have:=Vw.1 hi;omega
   obtain⟨xk,b6⟩:∃x,hd0.kind=x:=⟨_,rfl⟩;rw[b6]at c0 j;replace j:=Qc j;replace hse:=Qc hse;clear b2 hbx b6 b4 b1 b7 b5 bb be b0;have d0:IntKind.i64.wrap ((k:Int)+1)=(k:Int)+1:=by rw[BW];omega
   have a3:(k:Int).tmod 2=((k % 2:Nat):Int):=by rw[Int.tmod_eq_emod_of_nonneg oM];omega
   have e0:∀x y,((wr.alloc x).alloc y).cell? (ad bx 0)=some (i6 tk):=fun x y=>X9 (X9 q0 x) y
   have e8:∀x y,((wr.alloc x).alloc y).cell? (ad bx 8)=some (.slice (some (ad b ca)) t.l.length bd):=fun x y=>X9 (X9 q8 x) y
   by_cases h7:tk=7
   ·subst h7;have v:Yc t k=some (X4 k,k):=by rw[j.out];simp
    have q:(X4 k,k).1∉(Qx t k).map Prod.fst:=m rfl;obtain⟨hlt2,a4⟩:=WB v q ab;have HCD:=Qc v;have z:=Qc q;have bf:=Qc a4;clear v q a4 m;have p:∀X:Qm,X.heap[W.heap.size]? =some (.map es.toArray n)->(Instr.lookup 205 (.map (some W.heap.size)) (.agg #[i6 (k:Int),.string ⟨#[]⟩]) false).run prog X=.ok (.bool false) X:=fun X hX=>by
     have:=IP (X4 k) X _ es _ n hse.out hX;rw[Z4 z.out]at this;exact this
    have a7:∀X:Qm,X.heap[W.heap.size]? =some (.map es.toArray n)->∃Z,(Instr.mapUpdate 205 (.map (some W.heap.size)) (.agg #[i6 (k:Int),.string ⟨#[]⟩]) (.bool true)).run prog X=.ok () Z/\(∃es2,Az es2 ((Qx t k).map Prod.fst++[X4 k])/\Z.heap[W.heap.size]? =some (.map es2.toArray (n+1)))/\Ac (fun k _=>k≠W.heap.size) X Z:=fun X hX=>JF (X4 k) _ es _ n hse.out z.out X hX
    gi_wp2;rw[p _ (Qb (Qb hm))];gi_wp2;refine pX (a7 _ (Qb (Qb hm))) ?_;rintro Z ⟨⟨es2,hse2,a5⟩,u⟩;have aa:J (Qx t k).length Z:=hJ _ _ _ (hJ _ _ _ hj (((Ac.refl _ _).alloc _).alloc _)) (u.mono fun b o hb hs=>by
     rintro rfl;rw[Qb (Qb hm)]at hb;cases hb;exact hSi _ _ _ (Q6 _) hs)
    have a9:Z.heap[wr.heap.size+1]? =some (.cells #[i6 (k:Int),.string ⟨#[]⟩] 62 (0,0)):=u.same _ _ (Ql sM) (by have:=hkk.size;omega);have a6:Ac (fun b o=>∃c f,o=.cells c 27 f) wr Z:=(((Ac.refl _ _).alloc _).alloc _).trans (u.mono fun b o hb hs=>by
     rintro rfl;rw[Qb (Qb hm)]at hb;cases hb;obtain⟨c,f,e⟩:=hs;cases e)
    have a8:=ah _ Z aa;clear u p a7;obtain⟨fn,b9,af,b8,hy,hR⟩:=hY _ #[.agg #[i6 (k:Int),.string ⟨#[]⟩],i6 (k:Int)] Z hlt2 aa ⟨hlt2,by rw[bf.out];rfl⟩;have z0:=Ys a9;clear hY hJ ba ac h0 ae ag d;gi_wp2;refine hR.mono ?_;rintro e W3 ⟨a1,a2⟩;have hm3:=a1.same _ _ a5 ⟨Ku hl,hSbm _ _ _ (Q6 _)⟩;have hk3:Ac (fun b o=>∃c f,o=.cells c 27 f) W W3:=by{refine(hkk.trans a6).trans (a1.mono ?_);rintro k2 o b3 ⟨c,f,rfl⟩;refine⟨?_,hSb _ _ _⟩;rintro rfl;obtain⟨r9,h9⟩:=a8;rw[b3]at h9;cases h9};clear a1 a6 hkk a9 z0 hy a5;rcases a2 with⟨rfl,hj3⟩| ⟨rfl,hj3⟩
    ·have hJ9:J (Qx t (k+1)).length W3:=by rw[Jp HCD.out z.out,Zv];exact hj3
     have hs9:Az es2 ((Qx t (k+1)).map Prod.fst):=by rw[Jp HCD.out z.out,Hg];exact hse2
     exact Qbb
    ·exact pY
   ·by_cases h8:tk=8
    ·subst h8;by_cases h2:k % 2=0
     ·have bc:(k:Int).tmod 2=0:=by rw[a3,h2];rfl
      by_cases h1:k+1<t.l.length
      ·have c9:(k:Int)+1< (t.l.length:Int):=oM;by_cases h5:xk=5
       ·subst h5;have v:Yc t k=some (Yb hd0.s,k+1):=by rw[j.out,Qe ⟨rfl,h2,h1,rfl⟩]
        have HCD:=Qc v;replace h2:=Qc h2;clear v a3 h1 m;by_cases q:Yb hd0.s∈(Qx t k).map Prod.fst
        ·have z:=Qc q;clear q;have p:∀X:Qm,X.heap[W.heap.size]? =some (.map es.toArray n)->(Instr.lookup 205 (.map (some W.heap.size)) (.agg #[i6 (-1),.string hd0.s]) false).run prog X=.ok (.bool true) X:=fun X hX=>by
          have:=IP (Yb hd0.s) X _ es _ n hse.out hX;rw[Kp z.out]at this;exact this
         gi_wp2;rw[p _ (Qb (Qb hm))];gi_wp2;have hs9:Az es ((Qx t (k+1)).map Prod.fst):=by rw[Gt HCD.out z.out];exact hse.out
         have hJ9:J (Qx t (k+1)).length wr:=by rw[Gt HCD.out z.out];exact hj
         exact⟨⟨k+1,oM,by push_cast;rfl,hJ _ _ _ hJ9 (((Ac.refl _ _).alloc _).alloc _),⟨es,n,Qb (Qb hm),hs9⟩,(hkk.alloc _).alloc _⟩,by simp[RowKit.intOf];omega⟩
        ·obtain⟨hlt2,a4⟩:=WB HCD.out q ab;replace q:=Qc q;replace a4:=Qc a4;have p:∀X:Qm,X.heap[W.heap.size]? =some (.map es.toArray n)->(Instr.lookup 205 (.map (some W.heap.size)) (.agg #[i6 (-1),.string hd0.s]) false).run prog X=.ok (.bool false) X:=fun X hX=>by
          have:=IP (Yb hd0.s) X _ es _ n hse.out hX;rw[Z4 q.out]at this;exact this
         have a7:∀X:Qm,X.heap[W.heap.size]? =some (.map es.toArray n)->∃Z,(Instr.mapUpdate 205 (.map (some W.heap.size)) (.agg #[i6 (-1),.string hd0.s]) (.bool true)).run prog X=.ok () Z/\(∃es2,Az es2 ((Qx t k).map Prod.fst++[Yb hd0.s])/\Z.heap[W.heap.size]? =some (.map es2.toArray (n+1)))/\Ac (fun k _=>k≠W.heap.size) X Z:=fun X hX=>JF (Yb hd0.s) _ es _ n hse.out q.out X hX
         gi_wp2;rw[p _ (Qb (Qb hm))];gi_wp2;refine pX (a7 _ (Qb (Qb hm))) ?_;rintro Z ⟨⟨es2,hse2,a5⟩,u⟩;have aa:J (Qx t k).length Z:=hJ _ _ _ (hJ _ _ _ hj (((Ac.refl _ _).alloc _).alloc _)) (u.mono fun b o hb hs=>by
          rintro rfl;rw[Qb (Qb hm)]at hb;cases hb;exact hSi _ _ _ (Q6 _) hs)
         have a9:Z.heap[wr.heap.size+1]? =some (.cells #[i6 (-1),.string hd0.s] 62 (0,0)):=u.same _ _ (Ql sM) (by have:=hkk.size;omega);have a6:Ac (fun b o=>∃c f,o=.cells c 27 f) wr Z:=(((Ac.refl _ _).alloc _).alloc _).trans (u.mono fun b o hb hs=>by
          rintro rfl;rw[Qb (Qb hm)]at hb;cases hb;obtain⟨c,f,e⟩:=hs;cases e)
         have a8:=ah _ Z aa;clear u p a7;obtain⟨fn,b9,af,b8,hy,hR⟩:=hY _ #[.agg #[i6 (-1),.string hd0.s],i6 ((k:Int)+1)] Z hlt2 aa ⟨hlt2,by rw[a4.out];rfl⟩;have z0:=Ys a9;clear hY hJ ba ac h0 ae ag d;gi_wp2;refine hR.mono ?_;rintro e W3 ⟨a1,a2⟩;have hm3:=a1.same _ _ a5 ⟨Ku hl,hSbm _ _ _ (Q6 _)⟩;have hk3:Ac (fun b o=>∃c f,o=.cells c 27 f) W W3:=by{refine(hkk.trans a6).trans (a1.mono ?_);rintro k2 o b3 ⟨c,f,rfl⟩;refine⟨?_,hSb _ _ _⟩;rintro rfl;obtain⟨r9,h9⟩:=a8;rw[b3]at h9;cases h9};clear a1 a6 hkk a9 z0 hy a5;rcases a2 with⟨rfl,hj3⟩| ⟨rfl,hj3⟩
         ·have hJ9:J (Qx t (k+1)).length W3:=by rw[Jp HCD.out q.out,Zv];exact hj3
          have hs9:Az es2 ((Qx t (k+1)).map Prod.fst):=by rw[Jp HCD.out q.out,Hg];exact hse2
          exact Qbb
         ·exact pY
       ·have v:Yc t k=none:=by rw[j.out,Qa (fun h=>h5 h.2.2.2),Qa h7]
        have HCD:=Qc v;clear v m a3 h2 h1;exact pZ
      ·have v:Yc t k=none:=by rw[j.out,Qa (fun h=>h1 h.2.2.1),Qa h7]
       have c9:¬(k:Int)+1< (t.l.length:Int):=oM;have HCD:=Qc v;clear v m a3 h2 h1;exact pZ
     ·have v:Yc t k=none:=by rw[j.out,Qa (fun h=>h2 h.2.1),Qa h7]
      have bc:(k:Int).tmod 2=1:=by rw[a3];omega
      have HCD:=Qc v;clear v m a3 h2;exact pZ
    ·have v:Yc t k=none:=by rw[j.out,Qa (fun h=>h8 h.1),Qa h7]
     have HCD:=Qc v;have g7:(tk==7)=false:=X6.2 h7;have g8:(tk==8)=false:=X6.2 h8;clear v m a3;exact pZ
  ·obtain rfl:k=t.l.length:=oM;exact Ul
def JG(h:Hd)(a:Jr)(n cap:Nat)(w:Qm):
  Calls prog 118 #[Qu h (.slice a n cap)] w fun e w'=>e=.returned (.func (.func 198) #[] #[.pointer (some ⟨w.heap.size,0,none⟩)])/\w'=w.alloc (.cells (Qn h (.slice a n cap)).toArray 27):=by
 go_in
 exact Nv
def qA(t:Aa)(s:Aj):Int:=match gS t s with
 |none=> -1
 |some i=>i
def Qbc{s:Aj}(hi:i< (Qx t t.l.length).length)(h0:∀j (hj:j< (Qx t t.l.length).length),j<i->((Qx t t.l.length)[j]).1≠s)(h1:((Qx t t.l.length)[i]).1=s):
  qA t s=(((Qx t t.l.length)[i]).2:Int):=by
 have q:(Qx t t.l.length).find? (fun x=>decide (x.1=s))=some ((Qx t t.l.length)[i]):=by
  rw[List.find?_eq_some_iff_getElem];refine⟨by simpa using h1,i,hi,rfl,fun j hj=>?_⟩
  have:=h0 j oM hj;simpa using this
 unfold qA gS Ht
 rw[q]
 rfl
def Qbd{s:Aj}(h0:∀j (hj:j< (Qx t t.l.length).length),((Qx t t.l.length)[j]).1≠s):qA t s= -1:=by
 have q:(Qx t t.l.length).find? (fun x=>decide (x.1=s))=none:=by
  rw[KR];intro x hx;obtain⟨j,hj,rfl⟩:=GF.1 hx;simpa using h0 j hj
 unfold qA gS Ht;rw[q];rfl
def Qhd(t:Aa)(lv:Q0)(s:Aj)(w:Qm)(hr:Ad K3 w t.l lv):
  Calls prog 72 #[Qu t.hd lv,Yp s] w fun e w'=>e=.returned (.int .i64 (qA t s))/\Qd w w':=by
 obtain⟨a,p,rfl⟩:=hr.Ab
 have aa:=fun W=>JG t.hd a t.l.length p W
 refine(J5 (n:=0)).1 (Vy func72 rfl trivial ?_ rfl)
 simp only[ntmps72]
 refine Ie ?_
 gi_wp2_with fail
 refine Jy ?_
 gi_wp2_with fail
 refine Ez ?_
 gi_wp2_with(gi_at_call 118;refine(Qr (aa _)).mono ?_;rintro e w' ⟨rfl,rfl⟩)
 generalize d:World.alloc (World.alloc (World.alloc (World.alloc _ _) _) _) (.cells (Qn t.hd (.slice a t.l.length p)).toArray 27)=W1
 have hz:W1.heap.size=w.heap.size+4:=by rw[<-d];simp
 have a5:Qd w W1:=by rw[<-d];exact((((Ac.refl _ w).alloc _).alloc _).alloc _).alloc _
 have b1:W1.heap[w.heap.size+1]? =some (.cells #[i6 s.index,.string s.key] 62 (0,0)):=by rw[<-d];exact CH
 have b2:W1.heap[w.heap.size+1+1]? =some (.cells #[i6 (-1)] 3 (0,0)):=by rw[<-d];exact CH
 have b3:W1.heap[w.heap.size+1+1+1]? =some (.cells (Qn t.hd (.slice a t.l.length p)).toArray 27 (0,0)):=by rw[<-d];exact CH
 clear d
 have a9:=hr.same a5
 refine Jt (gf:=198) (lb:=#[pt (w.heap.size+1+1+1)])
  rfl (X3 func198 kM rfl) (Qx t t.l.length).length (lM t) (fun b o=>b=w.heap.size+1+1->∀c f,o≠ .cells c 3 f) (fun b o=>W1.heap.size+2<=b->∀es n,o≠ .map es n)
  (fun _=>True) (fun _ _=>True) ?hit ?hSb (fun b o z u y h4=>oM)
  (fun i A=>(∀j (hj:j< (Qx t t.l.length).length),j<i->((Qx t t.l.length)[j]).1≠s)/\A.heap[w.heap.size+1]? =some (.cells #[i6 s.index,.string s.key] 62 (0,0))/\A.heap[w.heap.size+1+1]? =some (.cells #[i6 (-1)] 3 (0,0)))
  (fun i c A=>c=.exit 0/\A.heap[w.heap.size+1+1]? =some (.cells #[i6 (qA t s)] 3 (0,0)))
  ?hI ?hIx (fun _ _ _ _ h _=>h) (fun _ _ _ _=>trivial) (fun _ _ _ _ _=>trivial) (fun i v A h=>by obtain⟨_,h⟩:=h;rw[h];rfl) ⟨fun _ _ h=>oM,b1,b2⟩
  (fun i v a' A=>∃(bx:Nat) (x:Aj × Nat) (h0:i< (Qx t t.l.length).length),(Qx t t.l.length)[i]=x/\A.heap[bx]? =some (.cells #[i6 x.1.index,.string x.1.key] 62 (0,0))/\a'={tmps:=#[Qu t.hd (.slice a t.l.length p),Yp s,pt w.heap.size,pt (w.heap.size+1),i6 0,pt (w.heap.size+1+1),pt bx,i6 (x.2:Int),Qu t.hd (.slice a t.l.length p),.func (.func 198) #[] #[pt (w.heap.size+1+1+1)],Yp x.1,i6 (x.2:Int),undef,undef,undef,undef,undef],defers:=[]}) ?hAx ?hassign ?hbody ?hdone ?hstop
 case hit=>
  intro W2 a6 ag;refine SP K3 t _ _ _ _ W2 (a9.same a6) (a6.s b3) (fun b c f _ c2 f2 h=>by injection h with _ h _;exact absurd h dM) (fun b es n hb h=>oM) (fun b es n hb h=>h oM es n rfl)
 case hSb=>exact fun b o hb ho h c f e=>by rw[e]at ho;cases ho
 case hI=>
  rintro i A B ⟨z,u,y⟩ hk;exact⟨z,hk.same _ _ u ⟨.inr rfl,fun h=>oM⟩,hk.same _ _ y ⟨.inr rfl,fun h=>oM⟩⟩
 case hIx=>
  rintro i c A B ⟨z,u⟩ hk;exact⟨z,hk.same _ _ u ⟨.inr rfl,fun h=>oM⟩⟩
 case hAx=>
  rintro i v a' A B ⟨bx,x,h0,hx,z,u⟩ hk;exact⟨bx,x,h0,hx,hk.same _ _ z (.inr rfl),u⟩
 case hassign=>
  rintro l i v A K hi ac ⟨h0,rfl⟩ hK;generalize hx:(Qx t t.l.length)[i]=x at hK|-;replace hx:=Qc hx;gi_wp2;refine hK _ _ ((Ac.refl _ _).alloc _) ?_ ⟨h0,by rw[hx.out]⟩ ⟨A.heap.size,x,h0,hx.out,Qt A _,rfl⟩;obtain⟨z,u,y⟩:=ac;exact⟨z,Qb u,Qb y⟩
 case hbody=>
  rintro l i v a' A hl _ hi ⟨z,u,y⟩ hv ⟨bx,x,h0,hx,ae,rfl⟩;clear hv;have c0:=Ys u;have e0:=Ys ae;have f0:=Q4 y;have b0:=Jd y;by_cases m:x.1=s
  ·have k:=Qbc h0 z (by rw[hx];exact m);rw[hx]at k;have a3:=Qc k;obtain⟨⟨ix,kx⟩,n⟩:=x;simp only at m;subst m;clear k hx z;gi_wp2;refine⟨(Ac.refl _ A).setCell _ fun o ho hs _=>?_,rfl,?_⟩
   ·have a8:A.heap[w.heap.size+1+1]? =some o:=ho;rw[y]at a8;cases a8;exact hs rfl _ _ _ rfl
   ·rw[a3.out];exact Qk y 0 (i6 (n:Int))
  ·have af:(x.1.index=s.index/\¬x.1.key=s.key)∨¬x.1.index=s.index:=by
    by_cases a0:x.1.index=s.index
    ·refine .inl ⟨a0,fun a7=>m ?_⟩;obtain⟨⟨ix,kx⟩,n⟩:=x;obtain⟨is,ks⟩:=s;simp only at a0 a7;rw[a0,a7]
    ·exact .inr a0
   have a1:∀j (hj:j< (Qx t t.l.length).length),j<i+1->((Qx t t.l.length)[j]).1≠s:=by
    intro j hj ah;by_cases e:j=i
    ·subst e;rw[hx];exact m
    ·exact z j hj oM
   have a2:=Qc a1;obtain⟨⟨ix,kx⟩,n⟩:=x;obtain⟨is,ks⟩:=s;clear hx m z a1;rcases af with⟨h8,h9⟩|h9
   ·have ad:(kx.toList==ks.toList)=false:=X6.2 fun h=>h9 (by rw[SO,SO]at h;exact E6 (oU.1 h))
    simp only at h8;subst h8;clear h9;gi_wp2;exact⟨Ac.refl _ _,a2.out,u,y⟩
   ·have ad:(ix==is)=false:=X6.2 h9;clear h9;gi_wp2;exact⟨Ac.refl _ _,a2.out,u,y⟩
 case hdone=>
  rintro D A hD ⟨z,u,y⟩ _ hk a4;have r:Qd w A:=Ho a5 hk fun b o hb=>⟨fun h=>Ku hb,fun h=>Ku hb⟩
  have k:=Qbd fun j hj=>z j hj hj
  have a3:=Qc k;have ab:=r.size;clear z k;have f0:=Q4 y;gi_wp2;simp only[Exit.noGoto];refine⟨sM,.inl ⟨_,_,rfl,Vx (w:=A) a4,?_⟩⟩;refine⟨_,Gn rfl _ _ _,by rw[a3.out];rfl,r.putObj _ fun o _ _ h=>oM⟩
 case hstop=>
  rintro D i cd A hD hi ⟨rfl,y⟩ _ hk a4;have r:Qd w A:=Ho a5 hk fun b o hb=>⟨fun h=>Ku hb,fun h=>Ku hb⟩
  generalize hq:qA t s=q at y;replace hq:=Qc hq;have ab:=r.size;have f0:=Q4 y;gi_wp2;simp only[Exit.noGoto];refine⟨sM,.inl ⟨_,_,rfl,Vx (w:=A) a4,?_⟩⟩;refine⟨_,Gn rfl _ _ _,by rw[hq.out];rfl,r.putObj _ fun o _ _ h=>oM⟩
def Qhe{P Q:Prop}(h:Q)(f:Wz Q->P:=by
 intro zz;have hdr:Qd wr wr.drew:=(Ac.refl _ _).drew;obtain⟨fn,tmps,assign,body,hy,hR⟩:=hY k _ wr.drew hlt (hJ _ _ _ hj (Ac.of_same hdr)) ⟨i0,i1,lv0,lv1,rfl,hr0'.same hdr,hr1'.same hdr,hok0,hok1⟩;revert hdr fn tmps assign body hy hR;exact zz.o):P:=f ⟨h⟩
def Qhf{P Q:Prop}(h:Q)(f:Wz Q->P:=by
 intro zz;have hp0:(p:Int)< (l.length:Int):=oM;have hq0:(q:Int)< (l.length:Int):=oM;have e1:(q:Int)+1=(p:Int):=oM;have c0:=Rv ra0;have d0:=Rv ra1;revert hp0 hq0 e1 c0 d0;exact zz.o):P:=f ⟨h⟩
def Qie{P Q:Prop}(h:Q)(f:Wz Q->P:=by
 intro zz;have rb0:=Zd hkp hKb (show wr.drew.rangeAt b (off+q*9) (Qn hd0 lv0) from ra0);have rb1:=Zd hkp hKb (show wr.drew.rangeAt b (off+p*9) (Qn hd1 lv1) from ra1);have hkq:Ac (fun b o=>b≠lp/\Sb b o) wr W3:=⟨hkp.os,hkp.tape,hkp.output,hkp.size,fun k o hk hs=>hkp.same k o hk hs⟩;revert rb0 rb1 hkq;exact zz.o):P:=f ⟨h⟩
def Qhg{P:Prop}(h:P:=by
 refine hK _ _ ⟨hc3,rb0,rb1⟩ ?_;clear hK K;repeat refine sX ?_
 refine Jc ?_;clear hwp hwq;have e2:(q:Int)+2=((2*(k+1):Nat):Int):=oM;gi_wp2;exact⟨⟨k+1,oM,by push_cast;rfl,hj3,hc3,hk3⟩,by simp[RowKit.intOf];omega⟩):P:=h
def Qhh{P:Prop}(h:P:=by
 obtain rfl:k=l.length/2:=oM;obtain⟨q,hq⟩:=X0 (2*(l.length/2));have hq1:¬((q:Int)+1< (l.length:Int)):=oM;rw[hq];gi_wp2;go_end0;exact⟨⟨_,rfl⟩,.inl hj⟩):P:=h
def R9(S:Qz)(l:Qp)(lv:Q0)(bx:Nat)(Sb Si:Nat->Obj->Prop)(W:Qm)(hr:Ad S W l lv)(hbx:Boxed W bx 25 lv)(hSb1:∀c f,Sb bx (.cells c 25 f))(hSb2:∀b c f,S b->Sb b (.cells c 27 f)):
  Hk prog 122 #[.pointer (some ⟨bx,0,none⟩)] (l.length/2) (DB S l) Sb Si (fun _=>True) (fun _ _=>True) W:=by
 rintro lp J Jx hlp hJ aa hY h0
 refine NS ?_
 intro r hl hne
 obtain⟨a7,a,u,rfl,a8,hi⟩:=hr.shape
 refine Nf func122 rfl trivial ?_ rfl
 simp only[ntmps122]
 refine Ie ?_
 gi_wp2
 gi_loopw [3] (fun i wr=>∃k:Nat,k<=l.length/2/\i=i6 ((2*k:Nat):Int)/\J k wr/\Boxed wr bx 25 (.slice a l.length u)/\Ac (fun b o=>S b/\∃c f,o=.cells c 27 f) W wr) (fun i _=>l.length-(RowKit.intOf i).toNat)
 case atStart=>exact⟨0,Xi _,rfl,h0,hbx,Ac.refl _ _⟩
 case round=>
  obtain⟨k,hk,rfl,hj,n,j⟩:=hrel;have hc:=n.cell;obtain⟨r1,v⟩:=hlp k wr hj;by_cases hlt:k<l.length/2
  ·have i0:2*k<l.length:=oM;have i1:2*k+1<l.length:=oM;obtain⟨b,off,lv0,rfl,z,a4,a1,hok0,x⟩:=hi (2*k) i0;obtain⟨b',a6,lv1,e1,ac,a9,a2,hok1,t⟩:=hi (2*k+1) i1;cases e1;obtain⟨ab,fz,d⟩:=a4;have hK:∀o,W.heap[b]? =some o->S b/\∃c f,o=.cells c 27 f:=fun o ho=>by rw[d]at ho;cases ho;exact⟨z,_,_,rfl⟩
   have ra0:=Zd j hK x;have ra1:=Zd j hK t;have hr0':=a1.Af j fun _ hb c f=>⟨hb,c,f,rfl⟩
   have hr1':=a2.Af j fun _ hb c f=>⟨hb,c,f,rfl⟩
   have y:=j.same _ _ d ⟨z,_,_,rfl⟩;refine Qhe ?_;intro hdr fn tmps assign body hy hR;have a0:b≠lp:=by rintro rfl;rw[y]at v;cases v
   generalize(l[2*k]).hd=hd0 at ra0 hy;generalize(l[2*k+1]).hd=hd1 at ra1 hy;generalize hq:2*k=q at ra0 ra1 i0 i1|-;generalize hp:q+1=p at ra1 i1;refine Qhf ?_;intro hp0 hq0 e1 c0 d0;gi_wp2;have hwp:IntKind.i64.wrap (p:Int)=(p:Int):=by rw[BW];omega
   have hwq:IntKind.i64.wrap (q:Int)=(q:Int):=by rw[BW];omega
   refine gR (And.intro n (And.intro ra0 ra1)) ?_;repeat refine sX ?_
   refine Vr ?_;intro K hK;refine hR.mono ?_;rintro e W3 ⟨hkp,m⟩;have hc3:Boxed W3 bx 25 (.slice (some (ad b off)) l.length u):=hkp.same _ _ n ⟨hne,hSb1 _ _⟩;have hKb:∀o,wr.drew.heap[b]? =some o->b≠lp/\Sb b o:=fun o ho=>by
    have h5:wr.heap[b]? =some o:=ho;rw[y]at h5;cases h5;exact⟨a0,hSb2 _ _ _ z⟩
   refine Qie ?_;intro rb0 rb1 hkq;have hk3:Ac (fun b o=>S b/\∃c f,o=.cells c 27 f) W W3:=by
    refine j.trans (hkq.mono ?_);rintro k2 o a3 ⟨a5,c,f,rfl⟩;refine⟨?_,hSb2 _ _ _ a5⟩;rintro rfl;rw[a3]at v;cases v
   rcases m with⟨rfl,hj3⟩| ⟨rfl,hj3⟩
   ·exact Qhg
   ·refine hK _ _ ⟨hc3,rb0,rb1⟩ ?_;clear hK K;repeat refine sX ?_
    refine Jc ?_;clear hwp hwq;exact nE
  ·exact Qhh
abbrev Z5:TypeId:=99
def IQ:(prog.info? Z5).map (fun i=>(i.zero,i.size,i.bytes))=some (some (bX (Qh 0) (Qh 0) (.slice none 0 0) (.slice none 0 0)),18,208):=by kernel_rfl
def SQ:∀(l ts:Qp) (xs news:Kb),Ak S w l xs->Ak S w ts news->Ak S w (l++ts) (xs++news):=by
 exact wI
def Av(S:Qz)(w:Qm)(B:Nat)(v:Q0)(ps:List (Aa × Aa)):Prop:=∃xs,w.ownsRow B Z5 18 v ps.length xs/\Ak S w (Qq ps) xs
def Av.nil(S:Qz)(w:Qm)(B:Nat):Av S w B (.slice none 0 0) []:=⟨[],Yz _ _ _ _,by rw[show Qq []=[] from rfl,Ak]⟩
def Av.Ab(h:Av S w B v ps):∃a cap,v=.slice a ps.length cap:=by
 obtain⟨j,h,_⟩:=h;exact NM
def Qbe{P:Prop}(h:P:=by
 obtain⟨xs,h,hr⟩:=h;refine⟨xs,⟨h.1,?_⟩,hr.Af hk hS⟩;rcases h.2 with h0| ⟨g,cap,cur,rfl,hb,hg,rest⟩
 ·exact .inl h0
 ·exact .inr ⟨g,cap,cur,rfl,hb,hk.same _ _ hg (hE g hb _ _),rest⟩):P:=h
def Av.Af(h:Av S w B v ps)(hk:Ac K w w')(hS:∀b,S b->∀c f,K b (.cells c 27 f))(hE:∀b,B<=b->∀c f,K b (.cells c Z5 f)):Av S w' B v ps:=by
 exact Qbe
def Av.same(h:Av S w B v ps)(hk:Qd w w'):Av S w' B v ps:=h.Af hk (fun _ _ _ _=>trivial) fun _ _ _ _=>trivial
def Qhi{P:Prop}(h:P:=by
 obtain⟨xs,h,hr⟩:=h;refine⟨xs,⟨h.1,?_⟩,hr⟩;rcases h.2 with h0| ⟨g,cap,cur,e,hb,rest⟩
 ·exact .inl h0
 ·exact .inr ⟨g,cap,cur,e,Qj hB hb,rest⟩):P:=h
def Av.base{B B':Nat}(hB:B'<=B)(h:Av S w B v ps):Av S w B' v ps:=by
 exact Qhi
def lN(i:Nat)(hi:i<ps.length):∃(h0:2*i< (Qq ps).length) (h1:2*i+1< (Qq ps).length),(Qq ps)[2*i]=ps[i].1/\(Qq ps)[2*i+1]=ps[i].2:=by
 induction ps generalizing i with
 |nil=>simp at hi
 |cons p ps ih=>
  cases i with
  |zero=>exact⟨by rw[Z6,Xf];omega,by rw[Z6,Xf];omega,rfl,rfl⟩
  |succ i=>
   obtain⟨h0,h1,j,q⟩:=ih i (by simpa using hi);exact⟨by rw[Z6,Xf]at*;omega,by rw[Z6,Xf]at*;omega,j,q⟩
def Av.get(h:Av S w B v ps)(i:Nat)(hi:i<ps.length):
  ∃g cap lk lx,v=.slice (some ⟨g,0,none⟩) ps.length cap/\ps.length<=cap/\B<=g/\g<w.heap.size/\ps[i].1.hd.ok/\Ad S w ps[i].1.l lk/\ps[i].2.hd.ok/\Ad S w ps[i].2.l lx/\w.rangeAt g (i*18) (Qn ps[i].1.hd lk++Qn ps[i].2.hd lx):=by
 obtain⟨d,q,b⟩:=h
 obtain⟨h0,h1,p,e1⟩:=lN i hi
 have k:=b.get (2*i) h0
 have t:=b.get (2*i+1) h1
 rw[p,<-Aa.eta ps[i].1,Kc]at k
 rw[e1,<-Aa.eta ps[i].2,Kc]at t
 obtain⟨o0,lk,f,r0⟩:=k
 obtain⟨o1,lx,c1,x⟩:=t
 rcases q.2 with⟨rfl,hz⟩| ⟨g,cap,a1,rfl,r,hg,y,_⟩
 ·omega
 ·refine⟨g,cap,lk,lx,rfl,y,r,Qg hg,o0,r0,o1,x,fun j u hj=>?_⟩;have c:=q.cells (g:=g) rfl;have a0:=b.length;have hx:d[i*18+j]? =some u:=by
   rw[<-f,<-c1]at hj;have z:((d.drop (9*(2*i))).take 9).length=9:=by rw[f];rfl
   by_cases n:j<9
   ·rw[L3 oM,E5 n,T6]at hj;rw[show i*18+j=9*(2*i)+j by omega];exact hj
   ·rw[MK oM,z]at hj;have m:j-9<9:=by
     exact VQ
    rw[E5 m,T6]at hj;rw[show i*18+j=9*(2*i+1)+(j-9) by omega];exact hj
  have:=c _ _ hx;rw[Ea]at this;simpa using this
def Qbf{P:Prop}(h:P:=by
 intro u hu;rcases Kn.1 hu with hu|hu
 ·exact N6 _ _ _ _ u hu
 ·exact N6 _ _ _ _ u hu):P:=h
def GG{P Q:Prop}(h:Q)(f:Wz Q->P:=by
 intro zz;have hKe:Ac (fun b _=>v.ownBlock≠some b) w w':=(Ac.refl _ w).grown h3 fun r hr o _ hs _=>hs hr
 revert hKe;exact zz.o):P:=f ⟨h⟩
def lO{P:Prop}(h:P:=by
 rcases hrow.2 with⟨rfl,_⟩| ⟨g,cap,cur,rfl,_,hg,_⟩
 ·cases e
 ·cases e;rw[hg]at hb;obtain⟨c,f,e2⟩:=hs;cases hb;cases e2):P:=h
def Ra{f:Nat × Nat}{v lk lx:Q0}(ty:TypeId)(k x:Aa)(hown:Av S w B v ps)(hb:w.heap[b]? =some (.cells (Qn k.hd lk++Qn x.hd lx).toArray Z5 f))
  (hko:k.hd.ok)(hkr:Ad S w k.l lk)(hxo:x.hd.ok)(hxr:Ad S w x.l lx)(hlen:ps.length+1<=17179869184)(hB:B<=w.heap.size):
  ∃v' w',(Builtin.append_ #[100,100] ty #[v,.slice (some ⟨b,0,none⟩) 1 1]).run prog w=.ok v' w'/\Av S w' B v' (ps++[(k,x)])/\Ac (fun b _=>v.ownBlock≠some b) w w':=by
 obtain⟨r,hrow,hr⟩:=hown
 obtain⟨i,hi,z⟩:=Hi.1 IQ
 simp only[LO]at z
 obtain⟨n,m,rfl⟩:=hkr.Ab
 obtain⟨d,t,rfl⟩:=hxr.Ab
 have q:∀j u,(Qn k.hd (.slice n k.l.length m)++Qn x.hd (.slice d x.l.length t))[j]? =some u->w.cell? (((ad b 0):Addr).add j)=some u:=by
  intro j u hj;rw[Ea,Vj _ _ _ _ Z5 f hb];simpa using hj
 have h1:∀u∈Qn k.hd (.slice n k.l.length m)++Qn x.hd (.slice d x.l.length t),u.oneCell'=true:=by
  exact Qbf
 obtain⟨v',w',y,h2,h3,_⟩:=OV (P:=prog) w B 100 ty Z5 i _ 18 208 underlying100 hi z.1 z.2.1 z.2.2 rfl dM v ps.length r hrow (ad b 0) 1 1 _ rfl q h1 (by unfold maxLen;omega) oM hB
 refine GG ?_
 intro hKe
 have p:Ac (fun _ o=>∃c f,o=.cells c 27 f) w w':=hKe.mono fun b o hb hs e=>by
  exact lO
 refine⟨v',w',y,⟨r++(Qn k.hd (.slice n k.l.length m)++Qn x.hd (.slice d x.l.length t)),?_,?_⟩,hKe⟩
 ·rw[Zv];exact h2
 ·rw[D6];refine SQ _ _ _ _ (hr.Af p fun _ _ c f=>⟨c,f,rfl⟩) ?_;show Ak S w' [k,x] _;rw[Ak];refine⟨_,_,rfl,?_,Y4 ?_⟩
  ·rw[<-Aa.eta k,Kc];exact⟨hko,_,rfl,hkr.Af p fun _ _ c f=>⟨c,f,rfl⟩⟩
  ·rw[<-Aa.eta x,Kc];exact⟨hxo,_,rfl,hxr.Af p fun _ _ c f=>⟨c,f,rfl⟩⟩
def Aw(T:TypeId)(sz:Nat)(S:Qz)(w:Qm)(v:Q0)(n:Nat)(xs:Kb):Prop:=
 xs.length=n*sz/\n<=17179869184/\((v=.slice none 0 0/\n=0)∨∃b off cap cur f,v=.slice (some ⟨b,off,none⟩) n cap/\n<=cap/\S b/\w.heap[b]? =some (.cells cur T f)/\∀j u,xs[j]? =some u->cur[off+j]? =some u)
section
variable{T:TypeId}{sz:Nat}{S S':Qz}{w w':Qm}{v:Q0}{n B:Nat}{xs:Kb}
def Aw.nil(T:TypeId)(sz:Nat)(S:Qz)(w:Qm):Aw T sz S w (.slice none 0 0) 0 []:=⟨sM,dM,.inl ⟨rfl,rfl⟩⟩
def Aw.Ab(h:Aw T sz S w v n xs):∃a cap,v=.slice a n cap/\n<=cap:=by
 rcases h.2.2 with⟨rfl,rfl⟩| ⟨b,y,cap,j,f,rfl,q,_⟩
 ·exact⟨none,0,rfl,Q6 _⟩
 ·exact⟨_,cap,rfl,q⟩
def Aw.Af{K:Nat->Obj->Prop}(h:Aw T sz S w v n xs)(hk:Ac K w w')(hK:∀b,S b->∀c f,K b (.cells c T f)):Aw T sz S w' v n xs:=by
 obtain⟨d,t,y⟩:=h;refine⟨d,t,?_⟩;rcases y with y| ⟨b,z,q,j,f,e,k,m,u,hx⟩
 ·exact .inl y
 ·exact .inr ⟨b,z,q,j,f,e,k,m,hk.same _ _ u (hK b m _ _),hx⟩
def Aw.same(h:Aw T sz S w v n xs)(hk:Qd w w'):Aw T sz S w' v n xs:=h.Af hk fun _ _ _ _=>trivial
def Aw.mono(h:Aw T sz S w v n xs)(hS:∀b,b<w.heap.size->S b->S' b):Aw T sz S' w v n xs:=by
 obtain⟨c,d,y⟩:=h;refine⟨c,d,?_⟩;rcases y with y| ⟨b,z,q,j,f,e,t,m,u,hx⟩
 ·exact .inl y
 ·exact .inr ⟨b,z,q,j,f,e,t,hS b (Qg u) m,u,hx⟩
def Aw.cell{a:Jr}{cap:Nat}(h:Aw T sz S w (.slice a n cap) n xs){j:Nat}{u:Q0}(hj:xs[j]? =some u):∃b off,a=some ⟨b,off,none⟩/\S b/\b<w.heap.size/\w.cell? ⟨b,off+j,none⟩=some u:=by
 obtain⟨v,t,d⟩:=h;rcases d with⟨e,m⟩| ⟨b,off,y,z,f,e,k,c,q,hx⟩
 ·subst m
  have:=(DT.1 hj).1;simp at v;rw[v]at this;simp at this
 ·cases e;exact⟨b,off,rfl,c,Qg q,by rw[Vj _ _ _ _ _ _ q];exact hx j u hj⟩
def Aw.AU(h:w.ownsRow B T sz v n xs)(hS:∀b,B<=b->b<w.heap.size->S b)(hn:n<=17179869184):Aw T sz S w v n xs:=by
 obtain⟨d,k⟩:=h;refine⟨d,hn,?_⟩;rcases k with⟨rfl,t⟩| ⟨g,m,y,rfl,f,c,p,_,r,x⟩
 ·exact .inl ⟨rfl,t⟩
 ·refine .inr ⟨g,0,m,y,_,rfl,p,hS g f (Qg c),c,fun j u z=>?_⟩;rw[Z3];have q:=(DT.1 z).1;rw[<-x,E5 (by rw[d]at q;exact q)]at z;simpa using z
def XO{t ty:TypeId}{i:TypeInfo}{z:Q0}{bytes:Nat}(ht:prog.underlying t=some (.slice T))(hi:prog.info? T=some i)(hz:i.zero=some z)(hsize:i.size=sz)(hby:i.bytes=bytes)(hzs:z.cells.size=sz)(hsz:0<sz)
  {a:Jr}{cap:Nat}(h:Aw T sz S w (.slice a n cap) n xs)(ad:Addr)(m c:Nat)(news:Kb)(hl:news.length=m*sz)(hnews:∀j u,news[j]? =some u->w.cell? (ad.add j)=some u)(h1:∀u∈news,u.oneCell'=true)(hm:0<m)(h63:n+m<=maxLen)(hbytes:(n+m)*bytes<=140737488355328):
  ∃v' w',(Builtin.append_ #[t,t] ty #[.slice a n n,.slice (some ad) m c]).run prog w=.ok v' w'/\w'.ownsRow w.heap.size T sz v' (n+m) (xs++news)/\w.grownBy w' none:=by
 obtain⟨v,h5,k⟩:=h
 rcases k with⟨e,h0⟩| ⟨b,q,y,x,f,e,hc,hS,d,hx⟩
 ·cases e;have:xs=[]:=CW.1 (by rw[v,h0];simp);subst this;obtain⟨v',w',g1,g2,p,_⟩:=OV (P:=prog) w w.heap.size t ty T i z sz bytes ht hi hz hsize hby hzs hsz (.slice none 0 0) 0 [] (Yz _ _ _ _) ad m c news hl hnews h1 (by simpa using h63) (by simpa using hbytes) (Q6 _);refine⟨v',w',g1,by simpa using g2,?_⟩;simpa[Value.ownBlock] using p
 ·cases e;exact run_append_arg_grows (P:=prog) w t ty T i z sz bytes ht hi hz hsize hby hzs hsz ⟨b,q,none⟩ n n xs v (fun j u r=>by rw[Ea,Vj _ _ _ _ _ _ d];exact hx j u r) ad m c news hl hnews oM h63 hbytes
end
abbrev PM:TypeId:=62
def PO(p:List Aj):Kb:=p.flatMap EM
def WC:∀(p:List Aj) (i:Nat) (h:i<p.length),(PO p)[i*2]? =some (.int .i64 p[i].index)/\(PO p)[i*2+1]? =some (.string p[i].key)
 |s::p,0,_=>⟨rfl,rfl⟩
 |s::p,i+1,h=>by
  have:=WC p i (by simpa using h);rw[show(i+1)*2=i*2+1+1 by omega];exact this
abbrev At(S:Qz)(w:Qm)(v:Q0)(p:List Aj):Prop:=Aw PM 2 S w v p.length (PO p)
def JH:(prog.info? PM).map (fun i=>(i.zero,i.size,i.bytes))=some (some (.agg #[.int .i64 0,.string ⟨#[]⟩]),2,24):=by kernel_rfl
def Qbg(s:Aj):∀u∈EM s,u.oneCell'=true:=by
 intro u j;simp only[Xg,CS,CT]at j;rcases j with rfl|rfl<;>rfl
def eH(p:List Aj)(s:Aj):PO (p++[s])=PO p++EM s:=by unfold PO;rw[cV];simp
def At.get{S:Qz}{w:Qm}{p:List Aj}{a:Jr}{cap:Nat}(h:At S w (.slice a p.length cap) p)(i:Nat)(hi:i<p.length):
  ∃b off,a=some ⟨b,off,none⟩/\S b/\b<w.heap.size/\w.rangeAt b (off+i*2) (EM p[i]):=by
 obtain⟨c,f⟩:=WC p i hi
 obtain⟨b,off,e,m,n,t⟩:=h.cell c
 obtain⟨k,y,z,_,_,v⟩:=h.cell f
 rw[e]at z
 cases z
 refine⟨b,off,e,m,n,fun j u q=>?_⟩
 have d:j<2:=(DT.1 q).1
 rcases(show j=0∨j=1 by omega)with rfl|rfl
 ·cases q;rw[Yf];exact t
 ·cases q;rw[LM];exact v
def SR{S:Qz}{w:Qm}{p:List Aj}{a:Jr}{cap c:Nat}{ad:Addr}(ty:TypeId)(s:Aj)(h:At S w (.slice a p.length cap) p)(hp:p.length<=1000000)(hc:∀j u,(EM s)[j]? =some u->w.cell? (ad.add j)=some u):
  ∃v' w',(Builtin.append_ #[46,46] ty #[.slice a p.length p.length,.slice (some ad) 1 c]).run prog w=.ok v' w'/\At (fun b=>w.heap.size<=b) w' v' (p++[s])/\Qd w w':=by
 obtain⟨i,d,q⟩:=Hi.1 JH
 simp only[LO]at q
 obtain⟨v',w',y,v,n⟩:=XO (ty:=ty) underlying46 d q.1 q.2.1 q.2.2 rfl dM h ad 1 c (EM s) rfl hc (Qbg s) dM (by unfold maxLen;omega) oM
 refine⟨v',w',y,?_,?_⟩
 ·unfold At;rw[eH,Zv];exact Aw.AU v (fun b z _=>z) (by simp;omega)
 ·exact(Ac.refl _ w).grown n fun r m=>by cases m
def JI{α:Type}(p:α->Bool)(l:List α)(k:Nat)(h:k<l.length):(l.take (k+1)).any p=((l.take k).any p||p l[k]):=by
 rw[Gl h,List.any_append];simp
def SS{N:Nat}{E:Am}(s:Aj)(w:Qm)(hG:Ah N E w)(hs:s.key.size<=1099511627776):
  Calls prog 119 #[Yp s] w fun e w'=>e=.returned (.bool (X5 s))/\Qd w w':=by
 obtain⟨i,k⟩:=s
 simp only at hs
 have d:decide ((k.size:Int)<=400)=decide (k.size<=400):=DY k.size 400
 have j:X5 ⟨i,k⟩=((decide (k=⟨#[]⟩)&&decide (0<=i))||(decide (i= -1)&&decide (k.size<=400)&&Gm k)):=rfl
 obtain⟨z,r⟩:=X0 (decide (k.size<=400))
 obtain⟨u,f⟩:=X0 (Gm k)
 obtain⟨m,b⟩:=X0 (decide (0<=i))
 rw[r]at d j
 rw[f,b]at j
 have HU:=Qc f
 have n:=fun W (hk:Qd w W)=>Fh k W (hG.same hk) hs
 simp only[HU.out]at n
 clear r f
 have v:¬k=⟨#[]⟩->¬k.toList=[]:=fun h e=>h (by
  rw[SO]at e;exact E6 (Array.ext' e))
 by_cases y:k=⟨#[]⟩
 ·subst y;have p:z=true:=d.symm;subst p;by_cases q:i= -1
  ·subst q;have b:m=false:=b.symm;subst b;have c:=Qc j;clear j v d;go_in;go_wp2_with(go_at_call 158;refine(n _ Xd).mono ?_;rintro e w' ⟨rfl,x⟩);go_ret;exact⟨by rw[c.out];simp,Xd⟩
  ·have t:(i== -1)=false:=X6.2 q;have c:=Qc j;clear j v d;go_in;cases m<;>go_wp2_with fail;all_goals go_ret
   all_goals exact⟨by rw[c.out];simp[q],Xd⟩
 ·have a0:=v y;by_cases q:i= -1
  ·subst q;have c:=Qc j;clear j v b;go_in;cases z<;>go_wp2_with(go_at_call 158;refine(n _ Xd).mono ?_;rintro e w' ⟨rfl,x⟩);all_goals go_ret
   all_goals exact⟨by rw[c.out];simp[y],Xd⟩
  ·have t:(i== -1)=false:=X6.2 q;replace j:=Qc j;clear v d b;go_in;go_wp2_with fail;go_ret;exact⟨by rw[j.out];simp[q,y],Xd⟩
def lP{N:Nat}{E:Am}(s:Aj)(w:Qm)(hG:Ah N E w)(hs:s.key.size<=1099511627776):
  Calls prog 126 #[Yp s] w fun e w'=>e=.returned (.bool (!X5 s))/\Qd w w':=by
 have j:=fun W (hk:Qd w W)=>SS s W (hG.same hk) hs
 obtain⟨i,k⟩:=s
 generalize y:X5 ⟨i,k⟩=q at j|-
 clear y
 go_in
 go_wp2_with(go_at_call 119;refine(j _ Xd).mono ?_;rintro e w' ⟨rfl,v⟩)
 exact Md
def XP{N:Nat}{E:Am}(S:Qz)(p:List Aj)(lv:Q0)(w:Qm)(hG:Ah N E w)(hp:At S w lv p)(hk:∀s∈p,s.key.size<=1099511627776)(hlen:p.length<=1000000):
  Calls prog 203 #[lv,.func (.func 126) #[] #[]] w fun e w'=>(∃r:Int,e=.returned (.int .i64 r)/\decide (0<=r)=p.any fun s=> !X5 s)/\Qd w w':=by
 obtain⟨a,a0,rfl,x⟩:=hp.Ab
 go_in
 go_wp2
 go_loopw [8] (fun i wr=>∃k:Nat,k<=p.length/\i=i6 k/\(p.take k).any (fun s=> !X5 s)=false/\Qd w wr) (fun i _=>p.length-(RowKit.intOf i).toNat)
 case atStart=>exact⟨0,Xi _,rfl,rfl,Ac.refl _ _⟩
 case round=>
  obtain⟨k,a1,rfl,d,y⟩:=hrel;have Hs:=Qc d;clear d;by_cases z:k<p.length
  ·obtain⟨b,u,rfl,a2,hb,c⟩:=hp.get k z;have v:=Qy y c;have q:=JI (fun s=> !X5 s) p k z;have j:=fun W (hw:Qd w W)=>lP p[k] W (hG.same hw) (hk _ (Zp z))
   have t:p[k]∈p:=Zp z;generalize d:p[k]=s at q j v t;rw[Hs.out]at q;obtain⟨i,kk⟩:=s;obtain⟨r,m⟩:=X0 (!X5 ⟨i,kk⟩);simp only[m]at q j;have HA:=Qc q;have HR:=Qc m;obtain⟨c0,c1⟩:wr.cell? (ad b (u+k*2))=some (i6 i)/\wr.cell? (ad b (u+k*2+1))=some (.string kk):=⟨v 0 _ rfl,v 1 _ rfl⟩;clear m q c v d;cases r with
   |true=>
    have f:(p.any fun s=> !X5 s)=true:=FV.2 ⟨_,t,HR.out⟩;go_wp2_with fail;refine(j _ y).mono ?_;rintro e w' ⟨rfl,n⟩;go_wp2;go_ret;exact⟨⟨_,rfl,by rw[f];simp⟩,y.trans n⟩
   |false=>
    go_wp2_with fail;refine(j _ y).mono ?_;rintro e w' ⟨rfl,n⟩;go_wp2;exact⟨⟨k+1,oM,by go_num,by rw[HA.out];rfl,y.trans n⟩,by simp[RowKit.intOf];omega⟩
  ·obtain rfl:k=p.length:=oM;go_wp2;go_ret
   have:=Hs.out;rw[Vc]at this;exact⟨⟨_,rfl,by rw[this];rfl⟩,y⟩
def PP{N:Nat}{E:Am}(S:Qz)(p:List Aj)(lv:Q0)(w:Qm)(hG:Ah N E w)(hp:At S w lv p)(hk:∀s∈p,s.key.size<=1099511627776)(hlen:p.length<=1000000):
  Calls prog 125 #[lv,.func (.func 126) #[] #[]] w fun e w'=>e=.returned (.bool (p.any fun s=> !X5 s))/\Qd w w':=by
 obtain⟨a,v,z,q⟩:=hp.Ab
 subst z
 go_in
 go_wp2_with(go_at_call 203;refine(XP S p _ _ hG hp hk hlen).mono ?_;rintro e w' ⟨⟨r,rfl,y⟩,j⟩)
 go_ret
 exact⟨by simp[<-y],j⟩
def LG{N:Nat}{E:Am}(S:Qz)(p:List Aj)(lv:Q0)(w:Qm)(hG:Ah N E w)(hp:At S w lv p)(hk:∀s∈p,s.key.size<=1099511627776)(hlen:p.length<=1000000):
  Calls prog 71 #[lv] w fun e w'=>e=.returned (.bool (Xv p))/\Qd w w':=by
 obtain⟨a,u,c,z⟩:=hp.Ab
 subst c
 have y:=PP S p _ w hG hp hk hlen
 have j:Xv p=(decide (p.length<=16)&& !p.any fun s=> !X5 s):=by
  unfold Xv;congr 1;rw[Sr];simp[Vf,FV]
 obtain⟨r,v⟩:=X0 (p.any fun s=> !X5 s)
 rw[v]at y j
 have n:decide ((p.length:Int)<=16)=decide (p.length<=16):=DY p.length 16
 obtain⟨q,m⟩:=X0 (decide (p.length<=16))
 rw[m]at n j
 replace j:=Qc j
 clear v m
 go_in
 cases q<;>go_wp2_with(go_at_call 125;refine y.mono ?_;rintro e w' ⟨rfl,b⟩)
 all_goals go_ret
 all_goals exact⟨by rw[j.out];simp,Xd⟩
def DM(k:Int)(a:Jr)(n c:Nat)(w:Qm):
  Calls prog 75 #[.int .i64 k,.slice a n c] w fun e w'=>e=.returned (Qu (Qh k) (.slice a n c))/\Qd w w':=by
 go_in
 go_wp2_with fail
 refine DS rfl rfl (Ew _ _) rfl ⟨rfl,Xd⟩
def Np(h:Hd)(a:Jr)(n cap:Nat)(w:Qm):
  Calls prog 73 #[Qu h (.slice a n cap)] w fun e w'=>e=.returned (.bool (Xn h))/\Qd w w':=by
 obtain⟨k,b,d,u,v,s⟩:=h
 have HR:=Qc (show Xn ⟨k,b,d,u,v,s⟩=(decide (k=7)||decide (k=8)) from rfl)
 go_in
 by_cases q:k=7
 ·subst q;go_wp2;go_ret;exact Iu
 ·by_cases j:k=8
  ·subst j;go_wp2;go_ret;exact Iu
  ·have y:(k==7)=false:=X6.2 q;have z:(k==8)=false:=X6.2 j;go_wp2;go_ret;exact⟨by rw[HR.out,Z4 q,Z4 j];rfl,Xd⟩
def Qew{N:Nat}{E:Am}(X:Hd->Dc × Bool)(S:Qz)(t:Aa)(lv:Q0)(w:Qm)(hG:Ah N E w)(ho:t.hd.ok)(hr:Ad S w t.l lv)(hs:∀x∈t.flat,x.hd.s.size<=400)
  (hE:t.hd.kind=11->∀W,Qd w W->Calls prog 150 #[Qu t.hd lv] W fun e w'=>e=.returned (U9 (X t.hd))/\Qd W w'):
  Calls prog 121 #[Qu t.hd lv] w fun e w'=>e=.returned (.bool (Ze t))/\Qd w w':=by
 obtain⟨a,c,rfl⟩:=hr.Ab
 have hd:=fun W (hk:Qd w W)=>SB X S t (.slice a t.l.length c) W (hG.same hk) ho (hr.same hk) hs (fun m W2 a0=>hE m W2 (hk.trans a0))
 have j:=P0 X t
 obtain⟨⟨d,ok⟩,hD⟩:∃q,Zw X t=q:=⟨_,rfl⟩
 rw[hD]at j hd
 obtain⟨n,hn⟩:=X0 t.l.length
 obtain⟨R,p⟩:=X0 (Ze t)
 obtain⟨⟨k,b,dd,u,wd,s⟩,r⟩:∃h,t.hd=h:=⟨_,rfl⟩
 rw[p,r]at j
 rw[hn,r]at hd|-
 rw[p]
 clear hD hn p r hr hs hE ho
 simp only at j
 replace j:=Qc j
 go_in
 go_wp2_with fail
 refine(hd _ Xd).mono ?_
 rintro e w1 ⟨rfl,z⟩
 have v:Qd w w1:=Xd
 have y:=z.same w.heap.size _ (Qt w _) trivial
 obtain⟨c0,c1,c2,c3,c4,c5,c6,c7,c8⟩:=Qi y
 have e0:∀x,(w1.alloc x).cell? (ad w.heap.size 0)=some (i6 k):=fun x=>X9 c0 x
 clear z hd y
 by_cases f:k=9
 ·subst f;cases ok with
  |true=>
   go_wp2;go_ret;exact⟨by rw[j.out];rfl,v.alloc _⟩
  |false=>
   go_wp2;go_ret;exact⟨by rw[j.out];rfl,v.alloc _⟩
 ·have g9:(k==9)=false:=X6.2 f;go_wp2;go_ret;exact⟨by rw[j.out,Z4 f];rfl,v.alloc _⟩
def Qex{S:Qz}{W:Qm}{b:Nat}{f:Nat × Nat}{x:Aa}{lx:Q0}(hb:W.heap[b]? =some (.cells (Qn x.hd lx).toArray 27 f))(hS:S b)
  (hx:x.hd.ok)(hxr:Ad S W x.l lx):Ad S W [x] (.slice (some ⟨b,0,none⟩) 1 1):=by
 refine⟨Qn x.hd lx,⟨by show 1<=1099511627776;omega,.inr ⟨b,0,1,_,f,rfl,hS,hb,Q6 _,sM,sM⟩⟩,Y4 ?_⟩
 rw[<-Aa.eta x,Kc];exact⟨hx,lx,rfl,hxr⟩
def M3(S:Qz)(u:Nat)(h:Hd)(l:Qp)(lv:Q0)(w:Qm)(ho:h.ok)(hr:Ad S w l lv)(hS:∀k,w.heap.size<=k->S k):
  Calls prog 127 #[.int .u64 (u:Int),Qu h lv] w fun e w'=>∃v,e=.returned (Qu {Qh 9 with u:=u} v)/\Ad S w' [.node h l] v/\Qd w w':=by
 obtain⟨a,j,rfl⟩:=hr.Ab
 obtain⟨n,y⟩:=X0 l.length
 have q:=hr
 rw[y]at hr|-
 clear hr
 go_in
 go_wp2_with fail
 refine Xs (Dv rfl _ _ (w.heap.size+1) 27 _ (0,0) _ rfl (Qb (Ql sM)) underlying27 rfl kM) rfl ⟨_,rfl,?_,Xd⟩
 refine Qex (x:=.node h l) (lx:=.slice a n j) (Ql sM) (hS _ oM) ho ?_
 rw[<-y]
 exact q.same Xd
def WD{N:Nat}{E:Am}(S:Qz)(t:Aa)(lv:Q0)(w:Qm)(hG:Ah N E w)(hN:N<=w.heap.size)(ho:t.hd.ok)(hr:Ad S w t.l lv)(hs:∀x∈t.flat,x.hd.s.size<=400):
  Calls prog 121 #[Qu t.hd lv] w fun e w'=>e=.returned (.bool (Ze t))/\Qd w w':=by
 obtain⟨a,c,rfl⟩:=hr.Ab
 exact Qew Ky S t _ w hG ho hr hs fun _ W j=>JA t.hd a _ c W (hG.same j) (Qj hN j.size) (Qj (hs t (Z8 t)) dM)
def eI{x:Aa}(ht:Ze x=true)(ho:∀y∈x.flat,Xc y=true):∃y,x=.node {Qh 9 with u:=x.hd.u} [y]:=by
 refine Tw ?_ (Rw ho);unfold Ze at ht;rw[X1]at ht;exact Zo ht.1
def CE{N:Nat}{E:Am}(S:Qz)(t:Aa)(lv:Q0)(w:Qm)(hG:Ah N E w)(hN:N<=w.heap.size)(ho:t.hd.ok)(hr:Ad S w t.l lv)(hs:∀x∈t.flat,Xc x=true):
  Calls prog 68 #[Qu t.hd lv] w fun e w'=>∃v,e=.returned (Qu (Q3 t).hd v)/\Ad S w' (Q3 t).l v/\(Q3 t).hd.ok/\Qd w w':=by
 obtain⟨a,a8,rfl⟩:=hr.Ab
 generalize hB:Q3 t=B
 have ab:Ad (fun b=>S b/\b<w.heap.size) w t.l (.slice a t.l.length a8):=hr.mono fun b hb h=>⟨h,hb⟩
 go_in
 go_wp2
 go_loopg [] t.depth (fun k wr=>∃(x:Aa) (a':Jr) (c':Nat),x.depth<=k/\wr.heap[w.heap.size]? =some (.cells (nR x.hd (.slice a' x.l.length c')) 27 (0,0))/\Ad (fun b=>S b/\b<w.heap.size) wr x.l (.slice a' x.l.length c')/\x.hd.ok/\(∀y∈x.flat,Xc y=true)/\Q3 x=B/\wr.heap[w.heap.size+1]? =some (.cells zR 27 (0,0))/\Qd w wr)
 case atStart=>exact⟨t,a,a8,Q6 _,Qb (Qt w _),ab.same Xd,ho,hs,hB,Ql sM,Xd⟩
 case round=>
  obtain⟨x,a',c',b3,n,r,a9,p,a6,a5,a0⟩:=hrel;have q:=fun W (hk:Qd wr W)=>WD _ x _ W ((hG.same a0).same hk) (Qj hN (a0.trans hk).size) a9 (r.same hk) fun y hy=>Ot (p y hy)
  have f:=fun h=>eI (x:=x) h p
  generalize hT:Ze x=T at q f;obtain⟨n0,n1,n2,n3,n4,n5,n6,n7,n8⟩:=Qi n;cases T with
  |false=>
   go_wp2_with fail;refine(q _ Xd).mono ?_;rintro e w1 ⟨rfl,j⟩;have m:=j.s n;have d:=j.s a5;have c:=a0.trans j;clear n0 n1 n2 n3 n4 n5 n6 n7 n8;obtain⟨n0,n1,n2,n3,n4,n5,n6,n7,n8⟩:=Qi m;have ae:=Jd d;have m0:=Qi d;rw[Y7 hT]at a6;subst a6;clear q f n a5 m;go_wp2_with fail;obtain⟨h9,u⟩:=Yw d x.hd (.slice a' x.l.length c');refine DS rfl rfl h9 rfl ⟨_,rfl,?_,a9,?_⟩
   ·exact((r.same j).Af u fun b hb _ _=>by have:=hb.2;omega).mono fun b _ hb=>hb.1
   ·exact Ho c u fun k o hk=>(Ku hk)
  |true=>
   obtain⟨y,hy⟩:=f rfl;have ad:Q3 x=Q3 y:=by rw[hy]at hT|-;exact CA hT
   have aa:x.l=[y]:=by rw[hy];rfl
   have b1:y.depth<x.depth:=by rw[hy,Aa.depth,Xr,Xr];omega
   have ac:∀z∈y.flat,Xc z=true:=by rw[hy]at p;exact Gs p
   rw[aa]at r q n8 n;clear hy aa f;obtain⟨af,a2,c2,e2,ah,hi⟩:=r.shape;obtain⟨b,b0,b4,e3,b2,ag,a7,a1,a4⟩:=hi 0 sM;simp only[Iv,CJ,Yf]at a7 a1 a4;subst e3;simp only[Xf,Vp,Z3]at e2 q n8 n;cases e2;obtain⟨a3,c3,rfl⟩:=a7.Ab;go_wp2_with fail;refine(q _ Xd).mono ?_;rintro e w1 ⟨rfl,j⟩;have m:=j.s n;have d:=j.s a5;have c:=a0.trans j;clear n0 n1 n2 n3 n4 n5 n6 n7 n8;obtain⟨n0,n1,n2,n3,n4,n5,n6,n7,n8⟩:=Qi m;have ae:=Jd m;have p0:=Rv (Qy j a4);go_wp2_with fail;obtain⟨h9,u⟩:=Yw m y.hd (.slice a3 y.l.length c3);go_roundg y.depth
   case measure=>omega
   case rel=>
    exact⟨y,a3,c3,Q6 _,h9,(a7.same j).Af u fun b hb _ _=>by have:=hb.2;omega,a1,ac,ad.symm.trans a6,u.same _ _ d oM,(Ho c u fun k o hk=>(Ku hk))⟩
def Xz:Qv->Nat
 | []=>0
 |x::l=>x+LB*Xz l
def IR:∀a b:Qv,Xz (a++b)=Xz a+LB^a.length*Xz b
 | [],b=>by simp[Xz]
 |x::a,b=>by
  rw[Y0,Xz,Xz,IR a b,Xf,Gb,N5,LM,Jj (LB^a.length) LB,CM]
def M4:∀n:Nat,Xz (List.replicate n 0)=0
 |0=>rfl
 |n+1=>by rw[List.replicate_succ,Xz,M4 n];simp
def M5(l:Qv):∃k,l=Jf l++List.replicate k 0/\(∀x,(Jf l).getLast? =some x->x≠0):=by
 unfold Jf;obtain⟨r,q⟩:=X0 l.reverse;have v:l=r.reverse:=by rw[<-q,List.reverse_reverse]
 rw[q,v];clear q v;induction r with
 |nil=>exact⟨0,sM,sM⟩
 |cons x r ih=>
  rw[MP];by_cases h:(x==0)=true
  ·rw[Qe h];obtain⟨k,z,m⟩:=ih;refine⟨k+1,?_,m⟩;have hx:x=0:=by simpa using h
   rw[Ph,z,hx,Y1,List.replicate_succ']
  ·rw[Qa h];refine⟨0,sM,fun y j=>?_⟩;rw[Ph,List.getLast?_append]at j;simp at j;rintro rfl;subst j;exact h rfl
def EN(l:Qv):Xz (Jf l)=Xz l:=by
 obtain⟨k,h,_⟩:=M5 l;conv=>rhs;rw[h,IR,M4,Ex,Yf]
def Qey{l:Qv}{b:Nat}(h:∀x∈l,x<b):∀x∈Jf l,x<b:=fun x hx=>by
 obtain⟨k,e,_⟩:=M5 l;exact h x (by rw[e];exact T7 _ hx)
def AT(l:Qv):Prop:=(∀x∈l,x<LB)/\∀x,l.getLast? =some x->x≠0
def IS{l:Qv}(h:∀x∈l,x<LB):AT (Jf l):=⟨Qey h,(M5 l).choose_spec.2⟩
def AT.tail{x:Nat}{l:Qv}(h:AT (x::l)):AT l:=by
 refine⟨fun y j=>h.1 y (Kk _ j),fun y j=>h.2 y ?_⟩;cases l with
 |nil=>simp at j
 |cons z l=>rw[List.getLast?_cons_cons];exact j
def AT.pos{l:Qv}(h:AT l)(hne:l≠[]):0<Xz l:=by
 induction l with
 |nil=>exact absurd rfl hne
 |cons x l ih=>
  rw[Xz];cases l with
  |nil=>
   have:=h.2 x rfl;omega
  |cons y l=>
   have:=ih h.tail sM;have j:0<LB*Xz (y::l):=Nat.mul_pos dM this;omega
def qB:∀{a b:Qv},AT a->AT b->Xz a=Xz b->a=b
 | [],[],_,_,_=>rfl
 | [],y::b,_,hb,h=>by have:=hb.pos sM;rw[Xz]at h;omega
 |x::a,[],ha,_,h=>by have:=ha.pos sM;rw[show Xz []=0 from rfl]at h;omega
 |x::a,y::b,ha,hb,h=>by
  have hx:=ha.1 x sM;have j:=hb.1 y sM;rw[Xz,Xz]at h;have q:x=y:=by
   have:=congrArg (· % LB) h;simp only[Nat.add_mul_mod_self_left]at this;rwa [Ye hx,Ye j]at this
  subst q;have v:Xz a=Xz b:=Nat.eq_of_mul_eq_mul_left (show 0<LB by decide) oM;rw[qB ha.tail hb.tail v]
def M6(n:Nat):Xz (Y3 n)=n:=by
 unfold Y3;split
 ·rename_i h;rw[h];rfl
 ·split
  ·show n+LB*0=n;omega
  ·split
   ·show n % LB+LB*(n/LB+LB*0)=n
    have:=Nat.mod_add_div n LB;omega
   ·show n % LB+LB*(n/LB % LB+LB*(n/LB/LB+LB*0))=n;have j:=Nat.mod_add_div n LB;have q:=Nat.mod_add_div (n/LB) LB;rw[Ex,Yf,q,j]
def qC{l:Qv}(h:∀x∈l,x<LB)(i:Nat):Zi l i<LB:=by
 unfold Zi;rw[K9];cases e:l[i]? with
 |none=>decide
 |some x=>exact h x (Pm e)
def WE:∀(l:Qv) (i x:Nat),i<l.length->Xz (l.set i x)+LB^i*Zi l i=Xz l+LB^i*x
 | [],i,x,h=>by simp at h
 |y::l,0,x,h=>by
  rw[List.set_cons_zero,Xz,Xz,Nat.pow_zero,Pi,Pi];show x+LB*Xz l+y=y+LB*Xz l+x;omega
 |y::l,i+1,x,h=>by
  have:=WE l i x (by simpa using h);rw[List.set_cons_succ,Xz,Xz,Gb,Jj (LB^i),CM,CM];show y+LB*Xz (l.set i x)+LB*(LB^i*Zi l i)=y+LB*Xz l+LB*(LB^i*x);have j:LB*(Xz (l.set i x)+LB^i*Zi l i)=LB*(Xz l+LB^i*x):=by rw[this]
  rw[N5,N5]at j;omega
def GH(l:Qv)(i j x:Nat):Zi (l.set i x) j=if i=j/\i<l.length then x else Zi l j:=by
 unfold Zi;rw[K9,K9,List.getElem?_set];by_cases e:i=j
 ·subst e;by_cases h:i<l.length
  ·simp[h]
  ·simp[h,nF (Nat.le_of_not_lt h)]
 ·simp[e]
def Qbh{l:Qv}{i x b:Nat}(h:∀y∈l,y<b)(hx:x<b):∀y∈l.set i x,y<b:=fun y q=>by
 rcases List.mem_or_eq_of_mem_set q with j|j
 ·exact h y j
 ·rw[j];exact hx
def WF(ai:Nat)(hai:ai<LB):∀(bs:Qv) (p c:Nat) (out:Qv),(∀x∈bs,x<LB)->(∀x∈out,x<LB)->c<LB->p+bs.length<out.length->Zi out (p+bs.length)=0->
  Xz (Ga ai bs p c out)=Xz out+LB^p*(ai*Xz bs+c)/\(∀x∈Ga ai bs p c out,x<LB)/\(Ga ai bs p c out).length=out.length/\∀j,p+bs.length<j->Zi (Ga ai bs p c out) j=Zi out j
 | [],p,c,out,hbs,ho,hc,hp,hz=>by
  rw[Ga];have h1:=WE out p (c % 4294967296) hp;have hz:Zi out p=0:=hz;have y:c % 4294967296=c:=Ye (I9 hc dM);rw[hz,Ex,Yf]at h1;rw[h1,y,show Xz []=0 from rfl,Ex,Z3];refine⟨rfl,Qbh ho oM,O4,fun j v=>?_⟩;rw[GH,Qa (by simp at v;omega)]
 |b::bs,p,c,out,hbs,ho,hc,hp,hz=>by
  rw[Ga];have k:=hbs b sM;have n:=qC ho p;have m:ai*b<=(LB-1)*(LB-1):=LR oM oM;have q:Zi out p+ai*b+c<LB*LB:=by
   have:(LB-1)*(LB-1)+2*(LB-1)<LB*LB:=dM;omega
  simp only[Xf]at hp hz;obtain⟨h1,f,u,t⟩:=WF ai hai bs (p+1) ((Zi out p+ai*b+c)/LB) (out.set p ((Zi out p+ai*b+c) % LB)) (fun x hx=>hbs x (Kk _ hx)) (Qbh ho (Hj _ dM))
   (Uk q) (by rw[O4];omega) (by rw[GH,Qa oM,show p+1+bs.length=p+(bs.length+1) by omega];exact hz)
  refine⟨?_,f,by rw[u,O4],fun j v=>?_⟩
  ·have h5:=WE out p ((Zi out p+ai*b+c) % LB) oM;have d:=Nat.mod_add_div (Zi out p+ai*b+c) LB;rw[h1,Xz,Gb,CM,N5 LB,N5 (LB^p)];have r:LB^p*((Zi out p+ai*b+c) % LB)+LB^p*(LB*((Zi out p+ai*b+c)/LB))=LB^p*Zi out p+LB^p*(ai*b+c):=by
    rw[<-N5,d,<-N5];congr 1;omega
   have z:ai*(b+LB*Xz bs)+c=(ai*b+c)+LB*(ai*Xz bs):=by
    rw[N5,Nat.mul_left_comm];omega
   rw[z,N5 (LB^p)];omega
  ·simp only[Xf]at v;rw[t j oM,GH,Qa oM]
def SU(b:Qv)(hb:∀x∈b,x<LB):∀(r:Qv) (i:Nat) (out:Qv),(∀x∈r,x<LB)->(∀x∈out,x<LB)->i+r.length+b.length<=out.length->(∀j,i+b.length<=j->Zi out j=0)->
  Xz (H6 b r i out)=Xz out+LB^i*(Xz r*Xz b)/\(∀x∈H6 b r i out,x<LB)
 | [],i,out,_,ho,_,_=>by rw[H6];exact⟨by rw[show Xz []=0 from rfl];simp,ho⟩
 |a::r,i,out,hr,ho,hl,hz=>by
  rw[H6];simp only[Xf]at hl;obtain⟨h1,h2,h3,h4⟩:=WF a (hr a sM) b i 0 out hb ho dM oM (hz _ (Q6 _));obtain⟨v,q⟩:=SU b hb r (i+1) (Ga a b i 0 out) (fun x hx=>hr x (Kk _ hx)) h2 (by rw[h3];omega) fun j y=>by rw[h4 j oM];exact hz j oM
  refine⟨?_,q⟩;rw[v,h1,Xz,Yf,Gb,Aaa,N5 (LB^i),CM (LB^i),CM LB];omega
def eJ{a b:Qv}(ha:∀x∈a,x<LB)(hb:∀x∈b,x<LB):Xz (EX a b)=Xz a*Xz b/\AT (EX a b):=by
 unfold EX;obtain⟨q,v⟩:=SU b hb a 0 (List.replicate (a.length+b.length) 0) ha (fun x hx=>by rw[bN hx];decide) (by rw[S3];omega) fun j _=>by
  unfold Zi;rw[K9,List.getElem?_replicate];split<;>rfl
 rw[EN,q,M4];exact⟨sM,IS v⟩
def eK(n:Nat):dN n=(Lib.decDigits n).map (·.toNat):=Dk n
def BL{n:Nat}(h:n<10):dN n=[48+n]:=by
 rw[eK,Lib.decDigits,dif_pos h];show[(UInt8.ofNat (48+n)).toNat]=_;rw[CN,Ye oM]
def PQ{n:Nat}(h:¬n<10):dN n=dN (n/10)++[48+n % 10]:=by
 rw[eK,eK,Lib.decDigits,dif_neg h,Hg];show _++[(UInt8.ofNat (48+n % 10)).toNat]=_;rw[CN,Ye oM]
def eL:Nat->Nat->Qv
 |0,_=>[]
 |k+1,x=>eL k (x/10)++[48+x % 10]
def lQ:∀(k v x:Nat),0<v->x<10^k->dN (v*10^k+x)=dN v++eL k x
 |0,v,x,hv,hx=>by
  have:x=0:=by simpa using hx
  subst this;simp[eL]
 |k+1,v,x,hv,hx=>by
  have j:10^(k+1)=10^k*10:=Gb ..;have z:0<10^k:=Hn dM;have m:v*10^(k+1)+x=(v*10^k)*10+x:=by rw[j,<-CM]
  have n:1<=v*10^k:=Nat.mul_pos hv z;rw[m,PQ oM,eL];have q:(v*10^k*10+x)/10=v*10^k+x/10:=oM;have y:(v*10^k*10+x) % 10=x % 10:=oM;rw[q,y,lQ k v (x/10) hv (by rw[j]at hx;omega),Y1]
def PR:∀k,eL k 0=List.replicate k 48
 |0=>rfl
 |k+1=>by rw[eL,Nat.zero_div,PR k,List.replicate_succ']
def OE:∀(k x:Nat),1<=k->x<10^k->eL k x=List.replicate (k-(dN x).length) 48++dN x/\(dN x).length<=k
 |0,x,h,_=>oM
 |k+1,x,_,hx=>by
  rw[eL];by_cases h:x<10
  ·have e1:x/10=0:=oM;have q:x % 10=x:=oM;rw[e1,q,PR,BL h];simp
  ·have z:10^(k+1)=10^k*10:=Gb ..;have v:1<=k:=by
    rcases N9 k with rfl|j
    ·simp at hx;omega
    ·exact j
   obtain⟨y,j⟩:=OE k (x/10) v (by rw[z]at hx;omega);rw[y,PQ h,Y1,Zv];simp only[Xf,Vp];refine⟨?_,oM⟩;rw[show k+1-((dN (x/10)).length+(0+1))=k-(dN (x/10)).length by omega]
def WG{l:Qv}(h:AT l):∀k,1<=k->k<=l.length->Hp l k=dN (Xz (l.drop (l.length-k)))/\0<Xz (l.drop (l.length-k))
 |0,h1,_=>oM
 |k+1,_,hk=>by
  have hd:l.drop (l.length-(k+1))=Zi l (l.length-1-k)::l.drop (l.length-k):=by
   rw[Dq oM];have u:l.length-(k+1)=l.length-1-k:=oM;have n:l.length-(k+1)+1=l.length-k:=oM;rw[n];congr 1;unfold Zi;rw[K9,Km oM];simp only[u];rfl
  have j:=qC h.1 (l.length-1-k);rw[Hp];by_cases m:k=0
  ·subst m;have v:l.drop (l.length-0)=[]:=sM;have q:Zi l (l.length-1)≠0:=by
    refine h.2 _ ?_;unfold Zi;rw[List.getLast?_eq_getElem?,K9,Km oM];rfl
   rw[hd,v,Xz,show Xz []=0 from rfl,Ex,Yf];refine⟨?_,by simp only[FX];omega⟩;rw[Hp];unfold Dy;rw[Qa oM];rfl
  ·obtain⟨h1,z⟩:=WG h k oM oM;rw[hd,Xz,h1];refine⟨?_,by
    have:LB*1<=LB*Xz (l.drop (l.length-k)):=Nat.mul_le_mul_left _ z;omega⟩
   unfold Dy;rw[Qe oM];have y:=lQ 9 (Xz (l.drop (l.length-k))) (Zi l (l.length-1-k)) z j;rw[(OE 9 (Zi l (l.length-1-k)) dM j).1]at y;rw[show Zi l (l.length-1-k)+LB*Xz (l.drop (l.length-k))=Xz (l.drop (l.length-k))*10^9+Zi l (l.length-1-k) by rw[Jj];exact Nat.add_comm _ _];exact y.symm
def JJ{l:Qv}(h:AT l):LA l=dN (Xz l):=by
 unfold LA;cases l with
 |nil=>
  rw[show Xz []=0 from rfl,BL dM];rfl
 |cons x l=>
  rw[Qa sM]
  have:=(WG h (x::l).length sM (Q6 _)).1;rwa [I0,FU]at this
def PS{l:Qv}(h:∀x∈l,x<LB):C6 l=if 400< (dN (Xz l)).length then([],11)else(dN (Xz l),0):=by
 unfold C6;rw[JJ (IS h),EN]
def GI(a b:Qv):valOf (a++b)=valOf a*10^b.length+valOf b:=by
 have h:=Cg b (valOf a);unfold valOf at h|-;rw[O5];exact h
def LH(s:Qo)(i j:Nat):Qf (s.extract i j)=((Qf s).drop i).take (j-i):=by
 unfold Qf;rw[ZL,Array.toList_extract,List.extract_eq_take_drop,Fo,List.map_drop]
def lR(s:Qo)(h:(Qf s).all Za=true):Xz (Zu s)=valOf (Qf s):=by
 have v:∀i,Qf (Dz s i)=(Qf s).take (s.size-9*i):=fun i=>by unfold Dz;rw[LH,FU,FX]
 have z:∀m i,i+m=Kf s->Xz ((List.range m).map fun j=>valOf (Qf (Js s (i+j))))=valOf ((Qf s).take (s.size-9*i)):=by
  intro m;induction m with
  |zero=>
   intro i n;have:s.size-9*i=0:=by unfold Kf at n;omega
   rw[this];rfl
  |succ m ih=>
   intro i n;rw[Pa,Zy,Ka,Xz];have c:=ih (i+1) oM;have e:((fun j=>valOf (Qf (Js s (i+j))))∘Nat.succ)=fun j=>valOf (Qf (Js s (i+1+j))):=by
    funext j;show valOf (Qf (Js s (i+(j+1))))=_;rw[show i+(j+1)=i+1+j by omega]
   rw[e,c,Yf];have b:9*i<s.size:=by unfold Kf at n;omega
   have u:Qf (Js s i)=((Qf s).take (s.size-9*i)).drop (s.size-9*(i+1)):=by
    unfold Js;rw[LH,v,Nd (by rw[CB,Ji,Q9];omega),show s.size-9*i-9=s.size-9*(i+1) by omega]
   have y:(Qf (Js s i)).length=s.size-9*i-(s.size-9*(i+1)):=by rw[u,CB,Ji,Q9];omega
   have q:(Qf s).take (s.size-9*i)=(Qf s).take (s.size-9*(i+1))++Qf (Js s i):=by
    rw[u,show(Qf s).take (s.size-9*(i+1))=((Qf s).take (s.size-9*i)).take (s.size-9*(i+1)) from by rw[List.take_take,Us oM]];exact(FW _ _).symm
   rw[q,GI,y];by_cases d:9*(i+1)<=s.size
   ·rw[show s.size-9*i-(s.size-9*(i+1))=9 by omega,show(10:Nat)^9=LB by decide,Jj (valOf _) LB,Nat.add_comm]
   ·rw[show s.size-9*(i+1)=0 by omega];show _+LB*0=0*_+_;rw[Ex,CJ,Z3,Yf]
 have:=z (Kf s) 0 oM;unfold Zu;simp only[Z3,Ex,FX]at this;rw[this,<-Q9,Vc]
def Nq{s:Qo}(h:Xb (Qf s)=true):Xz (Ki s)=valOf (Qf s)/\AT (Ki s):=by
 have hd:(Qf s).all Za=true:=by
  unfold Xb at h;simp only[X1]at h;exact h.2
 unfold Ki;exact⟨by rw[EN,lR s hd],IS (Mm s hd)⟩
def eM{a b:Qo}(ha:Xb (Qf a)=true)(hb:Xb (Qf b)=true):
  Ok a b=if 400< (dN (valOf (Qf a)*valOf (Qf b))).length then([],11)else(dN (valOf (Qf a)*valOf (Qf b)),0):=by
 obtain⟨v,y⟩:=Nq ha
 obtain⟨j,z⟩:=Nq hb
 obtain⟨m,q⟩:=eJ y.1 z.1
 unfold Ok
 rw[ha,hb]
 simp only[Bool.and_self,BE]
 rw[PS q.1,m,v,j]
def eN:∀{l:Qv},Xb l=true->dN (valOf l)=l:=by
 have u:∀l:Qv,l.all Za=true->l.head? ≠some 48->l≠[]->dN (valOf l)=l:=by
  intro l;induction hn:l.length generalizing l with
  |zero=>intro _ _ h;exact absurd (CW.1 hn) h
  |succ n ih=>
   intro v d _;obtain⟨a,c,e⟩:∃a c,l=a++[c]:=by
    rcases List.eq_nil_or_concat l with h| ⟨a,c,h⟩
    ·rw[h]at hn;cases hn
    ·exact⟨a,c,by rw[h,List.concat_eq_append]⟩
   subst e;rw[List.all_append,X1]at v;have r:48<=c/\c<=57:=by simpa[Za] using v.2
   rw[Wc];cases a with
   |nil=>
    rw[show valOf []=0 from rfl,BL oM,Ri];congr 1;omega
   |cons x a=>
    have hx:x≠48:=fun e=>d (by rw[e];rfl)
    have q:=ih (x::a) (by simpa using hn) v.1 (by simpa using hx) sM;have f:0<valOf (x::a):=by
     rcases N9 (valOf (x::a))with j|j
     ·rw[j,BL dM]at q;injection q with p k;omega
     ·exact j
    rw[PQ oM,show(10*valOf (x::a)+(c-48))/10=valOf (x::a) by omega,show(10*valOf (x::a)+(c-48)) % 10=c-48 by omega,q];congr 2;omega
 intro l h;unfold Xb at h;simp only[X1,FA,Zz]at h;obtain⟨⟨⟨v,d⟩,b⟩,t⟩:=h;have z:l≠[]:=by rintro rfl;cases v
 by_cases j:l.head? =some 48
 ·have m:¬1<l.length:=by
   rw[j]at b;simpa using b
  match l,z,j,m with
  | [x],_,j,_=>
   injection j with e;subst e;exact BL dM
  |x::y::l,_,_,m=>simp at m
 ·exact u l t j z
def EO{n:Nat}(h:(dN n).length<=400):Xb (dN n)=true:=by
 have hd:∀c∈dN n,48<=c/\c<=57:=Lp n;have v:dN n≠[]:=Wd n;have j:1< (dN n).length->(dN n).head? ≠some 48:=by
  clear hd v h;induction n using Nat.strongRecOn with
  |_ n ih=>
   by_cases m:n<10
   ·rw[BL m];intro h;simp at h
   ·rw[PQ m];intro _;by_cases q:n/10<10
    ·rw[BL q];simp;omega
    ·have u:1< (dN (n/10)).length:=by
      rw[PQ q,Zv];have:0< (dN (n/10/10)).length:=pW.2 (Wd _);simp only[Xf,Vp];omega
     have:=ih (n/10) oM u;rw[List.head?_append];cases hh:(dN (n/10)).head? with
     |none=>rw[Qa8]at hh;exact absurd hh (Wd _)
     |some y=>rw[hh]at this;exact this
 unfold Xb;simp only[X1,FA,Zz];refine⟨⟨⟨?_,h⟩,?_⟩,?_⟩
 ·cases hn:dN n with
  |nil=>exact absurd hn v
  |cons x l=>rfl
 ·by_cases z:1< (dN n).length
  ·have:=j z;simp[this]
  ·simp[z]
 ·rw[Vf];intro c b
  have:=hd c b;simp[Za,this]
def M7(n:Nat):valOf (dN n)=n:=by rw[eK];exact PF n
def Ls{d:Dc}(hd:Q2 d=true)(hz:d≠Ju):Xb (Qf d.digits)=true/\d.digits.size<=100/\(-100<=d.exp/\d.exp<=100)/\(Qf d.digits).getLast? ≠some 48/\(Qf d.digits).head? ≠some 48:=by
 unfold Q2 at hd;rw[Z4 hz,Bool.false_or]at hd;simp only[X1,FA,Zz]at hd;obtain⟨⟨⟨n,b⟩,z⟩,u⟩:=hd;have v:(Qf d.digits).getLast? ≠some 48:=by
  intro e;rw[e]at u;simp at u
 refine⟨n,b,by unfold Kt at z;simpa using z,v,fun e=>?_⟩;have j:=n;unfold Xb at j;simp only[X1,FA,Zz]at j;have m:=j.1.2;rw[e]at m;have q:¬1< (Qf d.digits).length:=by simpa using m
 match hb:Qf d.digits,e,q with
 | [x],e,_=>
  rw[hb]at v;injection e with e;subst e;exact v rfl
 |x::y::l,_,q=>simp at q
def JK(xs:Qv):(Xh xs).data.toList=xs.map UInt8.ofNat:=by unfold Xh;simp
def OF{l:Qv}(h:l.head? ≠some 48)(hb:∀x∈l,x<256):(l.map UInt8.ofNat).dropWhile (· ==48)=l.map UInt8.ofNat:=by
 cases l with
 |nil=>rfl
 |cons x l=>
  rw[Zy,MP,Qa];intro e;have e:UInt8.ofNat x=48:=by simpa using e
  have j:=congrArg UInt8.toNat e;rw[CN,Ye (hb x sM)]at j;exact h (by rw[j];rfl)
def XQ(k:Nat)(l:List UInt8):(List.replicate k (48:UInt8)++l).dropWhile (· ==48)=l.dropWhile (· ==48):=by
 induction k with
 |zero=>rfl
 |succ k ih=>rw[List.replicate_succ,Y0,MP,Qe dM,ih]
def eO{d:Dc}(hd:Q2 d=true)(hz:d≠Ju)(k:Nat)(hl:d.digits.size+k<=400)(he:Kt (d.exp-k) 1000=true):Jo d.neg (Xh (Qf d.digits++List.replicate k 48)) (d.exp-k)=(d,0):=by
 obtain⟨h1,h2,h3,r,t⟩:=Ls hd hz;have m:∀x∈Qf d.digits++List.replicate k 48,x<256:=fun x hx=>by
  rcases Kn.1 hx with hx|hx
  ·exact Yj _ x hx
  ·rw[bN hx];decide
 have u:=h1;unfold Xb at u;simp only[X1,FA,Zz]at u;have c:Qf d.digits≠[]:=by
  intro e;rw[e]at u;simp at u
 have f:0<d.digits.size:=by rw[<-Q9];exact pW.2 c
 have y:(Xh (Qf d.digits++List.replicate k 48)).size=d.digits.size+k:=by rw[Jz,Zv,Q9,S3]
 have n:(Qf (Xh (Qf d.digits++List.replicate k 48))).all Za=true:=by
  rw[Yl _ m,List.all_append,u.2,MY,Vf];intro x hx;rw[bN hx];rfl
 have z:(Qf d.digits++List.replicate k 48).head? ≠some 48:=by
  rw[List.head?_append];cases hh:(Qf d.digits).head? with
  |none=>rw[Qa8]at hh;exact absurd hh c
  |some x=>rw[hh]at t;exact t
 have j:(⟨(Lib.trimLeftB (Xh (Qf d.digits++List.replicate k 48)).data.toList 48).toArray⟩:Qo)=Xh (Qf d.digits++List.replicate k 48):=by
  unfold Lib.trimLeftB;rw[JK,OF z m];rfl
 have v:(⟨(Lib.trimRightB (Xh (Qf d.digits++List.replicate k 48)).data.toList 48).toArray⟩:Qo)=d.digits:=by
  unfold Lib.trimRightB;rw[JK,Hg,VU,List.map_replicate,List.reverse_replicate];rw[show UInt8.ofNat 48=(48:UInt8) from rfl,XQ,<-List.map_reverse,OF (by rw[List.head?_reverse];exact r) (fun x hx=>Yj _ x (UM.1 hx)),List.map_reverse,List.reverse_reverse];exact Ym d.digits
 unfold Jo;rw[Qa (by
  rintro(h|h|h|h)
  ·omega
  ·omega
  ·rw[he]at h;cases h
  ·rw[n]at h;cases h)]
 dsimp only;have q:(⟨(Lib.trimRightB (Lib.trimLeftB (Xh (Qf d.digits++List.replicate k 48)).data.toList 48) 48).toArray⟩:Qo)=d.digits:=by
  have p:Lib.trimLeftB (Xh (Qf d.digits++List.replicate k 48)).data.toList 48=(Xh (Qf d.digits++List.replicate k 48)).data.toList:=by
   have:=congrArg (fun b:Qo=>b.data.toList) j;simpa using this
  rw[p];exact v
 simp only[j,y];rw[Qa oM];simp only[q];have e:(⟨d.neg,d.digits,d.exp-(k:Int)+((d.digits.size+k:Nat):Int)-(d.digits.size:Int)⟩:Dc)=d:=by
  have:d.exp-(k:Int)+((d.digits.size+k:Nat):Int)-(d.digits.size:Int)=d.exp:=oM;rw[this]
 rw[e,Qe hd]
def lS{d:Dc}(hd:Q2 d=true)(hz:d≠Ju):Jo d.neg d.digits d.exp=(d,0):=by
 obtain⟨q,v,j,y,z⟩:=Ls hd hz
 have:=eO hd hz 0 oM (by unfold Kt;simp;omega);simpa[Ym] using this
def uD:∀n:Nat,0<n->∃v k,n=v*10^k/\v % 10≠0:=by
 intro n;induction n using Nat.strongRecOn with
 |_ n ih=>
  intro q;by_cases h:n % 10=0
  ·obtain⟨v,k,e,j⟩:=ih (n/10) oM oM;refine⟨v,k+1,?_,j⟩;rw[Gb,<-CM,<-e];omega
  ·exact⟨n,0,sM,h⟩
def Qbi(v k:Nat)(hv:0<v):dN (v*10^k)=dN v++List.replicate k 48:=by
 have:=lQ k v 0 hv (Hn dM);rw[Yf,PR]at this;exact this
def qD{v:Nat}(hv:v % 10≠0):(dN v).getLast? ≠some 48:=by
 by_cases h:v<10
 ·rw[BL h];simp;omega
 ·rw[PQ h,List.getLast?_append];simp;omega
def qE(k n:Nat)(hk:0<k)(h:n<10^k):(dN n).length<=k:=(OE k n hk h).2
def H5(n:Nat):Qf (Xw n)=dN n:=rfl
def Qez(n:Nat):Xh (dN n)=Xw n:=Ym _
def eP(s:Bool){n:Nat}(hn:0<n)(h64:n<18446744073709551616):(Jo s (Xw n) 0).2=0/\Z9 (Jo s (Xw n) 0).1=(s,n,true):=by
 obtain⟨v,k,e,t⟩:=uD n hn;have y:0<v:=oM;have u:0<10^k:=Hn dM;have a2:v<=n:=by rw[e];exact Mc _ u
 have c:k<=19:=by
  rcases Ce k 20 with h|h
  ·omega
  ·exfalso;have h1:10^20<=10^k:=Rj dM h;have h2:10^k<=n:=by rw[e];exact Nat.le_mul_of_pos_left _ y
   have h3:(10:Nat)^20=100000000000000000000:=dM;omega
 have p:(10:Nat)^20=100000000000000000000:=dM;have a0:(dN v).length<=20:=qE 20 v dM oM;have a1:(dN n).length<=20:=qE 20 n dM oM;obtain⟨d,hd⟩:∃d:Dc,d=⟨s,Xw v,(k:Int)⟩:=⟨_,rfl⟩;have hz:d≠Ju:=by
  intro j;rw[hd]at j;have e3:Xw v=⟨#[48]⟩:=congrArg Dc.digits j;have f:Qf (Xw v)=[48]:=by rw[e3];rfl
  rw[H5]at f
  have:=qD t;rw[f]at this;exact this rfl
 have q:Q2 d=true:=by
  unfold Q2;rw[hd];simp only[Y2,X1,FA,Zz];right;refine⟨⟨⟨?_,?_⟩,?_⟩,?_⟩
  ·rw[H5];exact EO oM
  ·have:(Xw v).size=(dN v).length:=(Q9 _).symm;omega
  ·unfold Kt;simp;omega
  ·rw[H5]
   have:=qD t;cases hh:(dN v).getLast? with
   |none=>rfl
   |some x=>rw[hh]at this;simpa using this
 have m:dN n=dN v++List.replicate k 48:=by rw[e];exact Qbi v k y
 have r:(Xw v).size=(dN v).length:=(Q9 _).symm;have z:=eO q hz k (by rw[hd];show(Xw v).size+k<=400;omega) (by rw[hd];unfold Kt;simp);have e0:d.exp-(k:Int)=0:=by rw[hd];show(k:Int)-k=0;omega
 have e1:Xh (Qf d.digits++List.replicate k 48)=Xw n:=by
  rw[hd];show Xh (Qf (Xw v)++List.replicate k 48)=_;rw[H5,<-m,Qez]
 have j:d.neg=s:=by rw[hd]
 rw[e0,e1,j]at z;rw[z];refine⟨rfl,?_⟩;have hx:d.exp=(k:Int):=by rw[hd]
 have b:Qf d.digits=dN v:=by rw[hd];rfl
 unfold Z9;rw[q,hx,j,b,Ig,<-m,Qa (by simp;omega)];unfold Nt;rw[EO oM,M7,Kp h64];simp
def SV(s:Bool){n:Nat}(h64:n<18446744073709551616)(hs:n=0->s=false):Q2 (Fw s n)=true/\Z9 (Fw s n)=(s,n,true):=by
 unfold Fw;by_cases j:n=0
 ·subst j;rw[hs rfl];have e:Jo false (Xw 0) 0=(Ju,0):=by
   have v:Xw 0=⟨#[48]⟩:=by unfold Xw;rw[Lib.decDigits,dif_pos dM];rfl
   rw[v];rfl
  rw[e];exact⟨rfl,dM⟩
 ·obtain⟨q,y⟩:=eP s (n:=n) oM h64;exact⟨C7 _ _ _ q,y⟩
def GJ(l:Qv):Nat:=l.foldl (fun v c=>256*v+c) 0
def eQ(l:Qv)(c:Nat):GJ (l++[c])=256*GJ l+c:=by
 unfold GJ;rw[O5];rfl
def IT:∀(f n:Nat),n<256^f->GJ (Jb f n)=n/\(∀c∈Jb f n,c<256)/\(Jb f n).head? ≠some 0/\(Jb f n).length<=f
 |0,n,h=>by
  have:n=0:=by simpa using h
  subst this;exact⟨rfl,by simp[Jb],by simp[Jb],by simp[Jb]⟩
 |f+1,n,h=>by
  rw[Jb];by_cases q:n=0
  ·rw[Qe q,q];exact⟨rfl,sM,sM,sM⟩
  ·rw[Qa q];obtain⟨v,z,y,m⟩:=IT f (n/256) (by rw[Gb]at h;omega);refine⟨by rw[eQ,v];omega,?_,?_,?_⟩
   ·intro c j;rcases Kn.1 j with j|j
    ·exact z c j
    ·rw[Zm]at j;omega
   ·rw[List.head?_append];cases hh:(Jb f (n/256)).head? with
    |some x=>rw[hh]at y;exact y
    |none=>
     rw[Qa8]at hh;rw[hh]at v;have:n/256=0:=v.symm;simp;omega
   ·rw[Zv];simp only[Xf,Vp];omega
def Yh(by_:Nat):Qv->Qv × Nat
 | []=>([],0)
 |x::l=>(((Yh by_ l).2*LB+x)/by_::(Yh by_ l).1,((Yh by_ l).2*LB+x) % by_)
def WH(d:Nat):∀l,(Yh d l).1.length=l.length
 | []=>rfl
 |x::l=>by rw[Yh,Xf,Xf,WH d l]
def Dl{d:Nat}(hd:0<d):∀l,(Yh d l).2<d
 | []=>hd
 |x::l=>Hj _ hd
def T2{d:Nat}(hd:0<d):∀l:Qv,(∀x∈l,x<LB)->∀x∈(Yh d l).1,x<LB
 | [],_,x,hx=>by cases hx
 |y::l,h,x,hx=>by
  rw[Yh]at hx;rcases Xg.1 hx with rfl|hx
  ·have h1:=Dl hd l;have v:=h y sM;refine Uk ?_;have j:((Yh d l).2+1)*LB<=d*LB:=FT _ h1;rw[Aaa,Pi]at j;omega
  ·exact T2 hd l (fun z q=>h z (Kk _ q)) x hx
def FI(d:Nat)(l:Qv)(i:Nat):Qv:=List.replicate (l.length-i) 0++(Yh d (l.drop (l.length-i))).1
def uE(d:Nat)(l:Qv)(i:Nat)(hi:i<=l.length):(FI d l i).length=l.length:=by
 unfold FI;rw[Zv,S3,WH,CB];omega
def lT(d:Nat)(l:Qv)(i:Nat)(hi:i<l.length):
  FI d l (i+1)=(FI d l i).set (l.length-1-i) (((Yh d (l.drop (l.length-i))).2*LB+Zi l (l.length-1-i))/d)/\
  (Yh d (l.drop (l.length-(i+1)))).2=((Yh d (l.drop (l.length-i))).2*LB+Zi l (l.length-1-i)) % d:=by
 have hd:l.drop (l.length-(i+1))=Zi l (l.length-1-i)::l.drop (l.length-i):=by
  rw[Iy oM,show l.length-(i+1)=l.length-1-i by omega,show l.length-1-i+1=l.length-i by omega]
 unfold FI
 rw[hd,Yh]
 refine⟨?_,rfl⟩
 have j:List.replicate (l.length-i) 0=List.replicate (l.length-(i+1)) 0++[0]:=by
  rw[show l.length-i=(l.length-(i+1))+1 by omega,List.replicate_succ']
 rw[j,Y1,List.set_append_right _ _ (by rw[S3];omega),S3,show l.length-1-i-(l.length-(i+1))=0 by omega]
 rfl
def qF(l:Qv)(v:Q0)(d:Nat)(w:Qm)(hv:Ao w v l)(hd0:0<d)(hd:d<4294967296):
  Calls prog 279 #[v,.int .u32 (d:Int)] w fun e w'=>(∃v',e=.returned (.tuple #[v',.int .u32 ((Yh d l).2:Int)])/\Bi w' v' (Jf (Yh d l).1))/\Qd w w':=by
 obtain⟨va,vc,rfl⟩:=hv.Ab
 have bf:=hv.1
 have a4:=hv.2.1
 have d9:=fun W=>Mh W l.length bf
 have db:IntKind.u64.wrap (d:Int)=(d:Int):=X7 oM oM
 refine(J5 (n:=0)).1 (Vy func279 rfl trivial ?_ rfl)
 simp only[ntmps279]
 refine Ie ?_
 gi_wp2_with(gi_at_call 336;refine(Qr (Fm va l.length vc _)).mono ?_;rintro e w' ⟨rfl,rfl⟩)
 generalize a0:World.alloc (World.alloc (World.alloc (World.alloc (World.alloc _ _) _) _) _) (.cells #[.slice va l.length vc] 288)=W1
 have hz:W1.heap.size=w.heap.size+5:=by rw[<-a0];simp
 have bc:Qd w W1:=by rw[<-a0];exact(((((Ac.refl _ w).alloc _).alloc _).alloc _).alloc _).alloc _
 have b0:W1.heap[w.heap.size]? =some (.cells #[.int .u32 (d:Int)] 236 (0,0)):=by rw[<-a0];exact Qb (Qb (Qb (Qb (Qt w _))))
 have b1:W1.heap[w.heap.size+1]? =some (.cells ((FI d l 0).map uV).toArray 236 (0,0)):=by
  have e:FI d l 0=List.replicate l.length 0:=by unfold FI;rw[FX,FR,Yh,Hy]
  have e2:((List.replicate l.length 0).map uV).toArray=Array.replicate l.length (uV 0):=sM;rw[e,e2,<-a0];exact CH
 have b2:W1.heap[w.heap.size+1+1]? =some (.cells #[.slice (some ⟨w.heap.size+1,0,none⟩) l.length l.length] 288 (0,0)):=by rw[<-a0];exact CH
 have b3:W1.heap[w.heap.size+1+1+1]? =some (.cells #[.int .u64 0] 24 (0,0)):=by rw[<-a0];exact CH
 have b4:Boxed W1 (w.heap.size+1+1+1+1) 288 (.slice va l.length vc):=by rw[<-a0];exact CH
 clear a0
 have ae:Eb w W1:=fun b c t f u=>bc.s u
 obtain⟨Sb,j⟩:∃Sb:Nat->Obj->Prop,Sb=fun b _=>b≠w.heap.size+1/\b≠w.heap.size+1+1+1:=⟨_,rfl⟩
 refine Rx (gf:=368) (lb:=#[.pointer (some ⟨w.heap.size+1+1+1+1,0,none⟩)])
  rfl (X3 func368 kM rfl) l.length (Uy l) Sb (fun _ _=>True)
  (fun _=>True) (fun _ _=>True) ?hit ?hSb (fun _ _ _ _ _=>trivial)
  (fun i A=>A.heap[w.heap.size+1]? =some (.cells ((FI d l i).map uV).toArray 236 (0,0))/\A.heap[w.heap.size+1+1+1]? =some (.cells #[.int .u64 ((Yh d (l.drop (l.length-i))).2:Int)] 24 (0,0))/\
   A.heap[w.heap.size]? =some (.cells #[.int .u32 (d:Int)] 236 (0,0))/\A.heap[w.heap.size+1+1]? =some (.cells #[.slice (some ⟨w.heap.size+1,0,none⟩) l.length l.length] 288 (0,0))/\Eb w A)
  (fun _ _ _=>False) ?hI (fun _ _ _ _ h _=>h) (fun _ _ _ _ h _=>h) (fun _ _ _ _=>trivial) (fun _ _ _ _ _=>trivial) (fun i v A h=>by rw[h];rfl) ?h0 ?hround ?hdone (fun _ _ _ _ _ _ h=>h.elim)
 case h0=>
  have e:(Yh d (l.drop (l.length-0))).2=0:=by rw[FX,FR];rfl
  exact⟨b1,by rw[e];exact b3,b0,b2,ae⟩
 case hit=>
  intro W2 bd d6;subst j;exact E3 l _ _ _ _ w W2 hv (fun b c t f u=>bd.s (ae b c t f u)) (bd.boxed b4 trivial) (fun c f=>⟨oM,oM⟩) (fun b c t f u=>⟨Ku u,Ku u⟩)
 case hSb=>
  subst j;intro b o u ho;exact⟨oM,oM⟩
 case hI=>
  rintro i A B ⟨h1,h2,h3,h4,h5⟩ hk;exact⟨hk.same _ _ h1 ⟨.inr rfl,trivial⟩,hk.same _ _ h2 ⟨.inr rfl,trivial⟩,hk.same _ _ h3 ⟨.inr rfl,trivial⟩,hk.same _ _ h4 ⟨.inr rfl,trivial⟩,fun b c t f u=>hk.same _ _ (h5 b c t f u) ⟨.inr rfl,trivial⟩⟩
 case hround=>
  intro i v cf;obtain⟨x,y,rfl⟩:=TD rfl cf;apply Exists.intro;apply And.intro
  ·exact LX
  ·rintro l2 A d7 _ hi ⟨h1,h2,h3,h4,h5⟩ c9;obtain⟨rfl,rfl⟩:x=.int .i64 ((l.length-1-i:Nat):Int)/\y=uV (Zi l (l.length-1-i)):=by simpa[Uy] using c9
   obtain⟨a1,z⟩:=lT d l i hi;have a2:=uE d l i oM;have b6:=Dl hd0 (l.drop (l.length-i));obtain⟨m,hm⟩:=X0 (l.length-1-i);have cg:m<l.length:=oM;rw[hm]at a1 z|-;have ce:Zi l m<1000000000:=a4 _ (MQ cg);obtain⟨r0,hr⟩:∃r,(Yh d (l.drop (l.length-i))).2=r:=⟨_,rfl⟩;obtain⟨xm,c6⟩:∃x,Zi l m=x:=⟨_,rfl⟩;rw[hr]at a1 z h2 b6;rw[c6]at a1 z ce|-;obtain⟨bg,ad⟩:∃o,FI d l i=o:=⟨_,rfl⟩;rw[ad]at h1 a1 a2;have ab:r0*1000000000<=4294967294*1000000000:=FT _ oM;obtain⟨p,hp⟩:=X0 (r0*1000000000);rw[hp]at ab;obtain⟨s,hs⟩:=X0 (p+xm);have c4:r0*LB+xm=s:=by rw[show LB=1000000000 from rfl,hp,hs]
   rw[c4]at a1 z;have e0:(r0:Int)*1000000000=(p:Int):=oM;have e1:(p:Int)+(xm:Int)=(s:Int):=oM;have w1:IntKind.u64.wrap (p:Int)=(p:Int):=X7 oM oM;have w2:IntKind.u64.wrap (xm:Int)=(xm:Int):=X7 oM oM;have w3:IntKind.u64.wrap (s:Int)=(s:Int):=X7 oM oM;obtain⟨q,hq⟩:=X0 (s/d);obtain⟨r1,a7⟩:∃r,s % d=r:=⟨_,rfl⟩;rw[hq]at a1;rw[a7]at z;have da:q<1000000000:=by
    rw[<-hq];refine Uk ?_;have h3:(r0+1)*1000000000<=d*1000000000:=FT _ b6;omega
   have d5:r1<d:=by rw[<-a7];exact Hj _ hd0
   have e2:(s:Int)/(d:Int)=(q:Int):=by rw[<-hq,Int.natCast_ediv]
   have e3:(s:Int) % (d:Int)=(r1:Int):=by rw[<-a7,Int.natCast_emod]
   have w4:IntKind.u32.wrap (q:Int)=(q:Int):=BC oM oM;have w5:IntKind.u64.wrap (r1:Int)=(r1:Int):=X7 oM oM;have w6:IntKind.u64.wrap (q:Int)=(q:Int):=X7 oM oM;have d1:((d:Int)==0)=false:=X6.2 oM;have d4:d≠0:=oM;have cb:=Qc a1;have c8:=Qc z;have c1:=Og h1 (i:=m) oM;obtain c3:=Q4 h2;obtain c0:=Q4 h3;obtain c2:=Q4 h4;have af:=Jd h1;have be:=Jd h2;clear a1 z hq a7 hp hs hr c6 hm c4 ad ab hv;gi_wp2;have g3:=Qk h2 0 (.int .u64 (s:Int));have k:Ac Sb A (A.setCell ⟨w.heap.size+1+1+1,0,none⟩ (.int .u64 (s:Int))):=(Ac.refl _ A).setCell _ fun o _ z _=>by subst j;exact z.2 rfl
   have ah:Eb w (A.setCell ⟨w.heap.size+1+1+1,0,none⟩ (.int .u64 (s:Int))):=fun b c t f u=>k.same _ _ (h5 b c t f u) (by subst j;exact⟨Ku u,Ku u⟩)
   have g1:(A.setCell ⟨w.heap.size+1+1+1,0,none⟩ (.int .u64 (s:Int))).heap[w.heap.size+1]? =some (.cells (bg.map uV).toArray 236 (0,0)):=by
    have cd:Ac (fun b _=>b≠w.heap.size+1+1+1) A (A.setCell ⟨w.heap.size+1+1+1,0,none⟩ (.int .u64 (s:Int))):=(Ac.refl _ A).setCell _ fun o _ z _=>z rfl
    exact cd.same _ _ h1 oM
   have g0:=k.same _ _ h3 (by subst j;exact⟨oM,oM⟩);have g2:=k.same _ _ h4 (by subst j;exact⟨oM,oM⟩);generalize(A.setCell ⟨w.heap.size+1+1+1,0,none⟩ (.int .u64 (s:Int)))=A2 at g0 g1 g2 g3 k ah|-;have g3:A2.heap[w.heap.size+1+1+1]? =some (.cells #[.int .u64 (s:Int)] 24 (0,0)):=g3;clear c0 c1 c2 c3 af be h1 h2 h3 h4 h5;refine KC (And.intro g2 (And.intro g3 g0)) ?_;simp only[Vz];have d2:=Q4 g2;have d3:=Q4 g3;have d0:=Q4 g0;repeat refine sX ?_
   refine DA ?_;have c1:=Og g1 (i:=m) oM;have af:=Jd g1;go_simp;have a5:=Qk g1 m (uV q);rw[YY]at a5;have a6:Ac Sb A2 (A2.setCell ⟨w.heap.size+1,m,none⟩ (.int .u32 (q:Int))):=(Ac.refl _ A2).setCell _ fun o _ z _=>by subst j;exact z.1 rfl
   have aa:Ac (fun b _=>b≠w.heap.size+1) A2 (A2.setCell ⟨w.heap.size+1,m,none⟩ (.int .u32 (q:Int))):=(Ac.refl _ A2).setCell _ fun o _ z _=>z rfl
   have a8:=aa.same _ _ g3 oM;have b5:=a6.same _ _ g0 (by subst j;exact⟨oM,oM⟩);have b7:=a6.same _ _ g2 (by subst j;exact⟨oM,oM⟩);have ac:Eb w (A2.setCell ⟨w.heap.size+1,m,none⟩ (.int .u32 (q:Int))):=fun b c t f u=>a6.same _ _ (ah b c t f u) (by subst j;exact⟨Ku u,Ku u⟩)
   have a9:=k.trans a6;have a5:(A2.setCell ⟨w.heap.size+1,m,none⟩ (.int .u32 (q:Int))).heap[w.heap.size+1]? =some (.cells ((bg.set m q).map uV).toArray 236 (0,0)):=a5;generalize(A2.setCell ⟨w.heap.size+1,m,none⟩ (.int .u32 (q:Int)))=A3 at a5 a8 b5 b7 ac a9|-;clear d0 d2 d3 c1 af g0 g1 g2 g3 k ah a6 aa;have d3:=Q4 a8;have d0:=Q4 b5;have be:=Jd a8;gi_wp2;have a3:Ac Sb A3 (A3.drew.setCell ⟨w.heap.size+1+1+1,0,none⟩ (.int .u64 (r1:Int))):=((Ac.refl Sb A3).drew).setCell _ fun o _ z _=>by subst j;exact z.2 rfl
   have bh:Ac (fun b _=>b≠w.heap.size+1+1+1) A3 (A3.drew.setCell ⟨w.heap.size+1+1+1,0,none⟩ (.int .u64 (r1:Int))):=((Ac.refl _ A3).drew).setCell _ fun o _ z _=>z rfl
   refine⟨a9.trans a3,?_,?_,a3.same _ _ b5 (by subst j;exact⟨oM,oM⟩),a3.same _ _ b7 (by subst j;exact⟨oM,oM⟩),fun b c t f u=>a3.same _ _ (ac b c t f u) (by subst j;exact⟨Ku u,Ku u⟩)⟩
   ·rw[cb.out];exact bh.same _ _ a5 oM
   ·rw[c8.out];exact Qk (w:=A3.drew) a8 0 (.int .u64 (r1:Int))
 case hdone=>
  rintro D A hD ⟨h1,h2,h3,h4,h5⟩ _ hk c5;have k:Qd w A:=Ho bc hk fun b o u=>⟨by subst j;exact⟨Ku u,Ku u⟩,trivial⟩
  have d8:=k.size;rw[I0,FU]at h2;have ca:=Dl hd0 l;have b8:FI d l l.length=(Yh d l).1:=by unfold FI;rw[I0,FU];rfl
  have a2:=WH d l;have b9:=T2 hd0 l a4;rw[b8]at h1;obtain⟨qs,ag⟩:∃q,(Yh d l).1=q:=⟨_,rfl⟩;obtain⟨r,hr⟩:=X0 ((Yh d l).2);rw[ag]at h1 a2 b9;rw[hr]at h2 ca;have HQ:=Qc ag;have c7:=Qc hr;have w5:IntKind.u32.wrap (r:Int)=(r:Int):=BC oM oM;have hL:Ao A (.slice (some ⟨w.heap.size+1,0,none⟩) l.length l.length) qs:=by
   have:=Ao.Be (cap:=l.length) h1 oM b9 oM;rw[a2]at this;exact this
  obtain c3:=Q4 h2;obtain c2:=Q4 h4;clear ag hr b8 hv a4;gi_wp2;refine gR (And.intro h4 h2) ?_;repeat refine sX ?_
  refine Vr ?_;intro K hK;have cc:Ao A.drew (.slice (some ⟨w.heap.size+1,0,none⟩) qs.length l.length) qs:=by rw[a2];exact hL.same ((Ac.refl _ _).drew)
  have ba:=Lj qs _ _ _ cc;rw[a2]at ba;refine(Qr ba).mono ?_;rintro e w' ⟨⟨tc,rfl,ch⟩,rfl⟩;refine hK _ _ ⟨h4,h2⟩ ?_;clear hK K;repeat refine sX ?_
  refine Jc ?_;gi_wp2;have a3:Qd w A.drew:=k.trans ((Ac.refl _ A).drew);refine⟨sM,.inl ⟨_,_,rfl,Vx (w:=A.drew) c5,?_⟩⟩;refine⟨_,Iq rfl _ _ _,⟨_,by rw[c7.out];rfl,?_⟩,a3.putObj _ fun o _ _ h=>oM⟩;rw[HQ.out];have bb:∀(b:Nat) (c:Array Q0) (t:TypeId) (f:Nat × Nat),A.drew.heap[b]? =some (.cells c t f)->b≠D:=by
   rintro b c t f u rfl;have h9:A.drew.heap[b]? =some (.deferred (some [])):=c5;rw[h9]at u;cases u
  refine⟨ch.B1 fun b c t f u=>?_,fun b i o n c e=>?_⟩
  ·rw[N3 (bb b c t f u)];exact u
  ·cases e;have h9:A.drew.heap[w.heap.size+1]? =some (.cells (qs.map uV).toArray 236 (0,0)):=h1;exact⟨_,_,by rw[N3 (bb _ _ _ _ h9)];exact h9⟩
def WI(x y:Int):Int:=if x<y then-1 else if y<x then 1 else 0
def uF(x:Int)(w:Qm):Calls prog 367 #[.int .i64 x] w fun e w'=>e=.returned (.bool false)/\w'=w:=by
 go_in;go_wp2;go_ret;exact⟨sM,rfl⟩
def uG(x:Int)(w:Qm):Calls prog 369 #[.int .u32 x] w fun e w'=>e=.returned (.bool false)/\w'=w:=by
 go_in;go_wp2;go_ret;exact⟨sM,rfl⟩
def qG(x y:Int)(w:Qm):Calls prog 335 #[.int .i64 x,.int .i64 y] w fun e w'=>e=.returned (.int .i64 (WI x y))/\w'=w:=by
 generalize j:WI x y=r;replace j:=Qc j;go_in;go_wp2_with(go_at_call 367;refine(uF _ _).mono ?_;rintro e v ⟨rfl,q⟩;replace q:=q.symm;subst q);all_goals go_ret
 all_goals exact⟨by rw[<-j.out];unfold WI;clear j;simp at*;(repeat' split)<;>first|rfl|omega,rfl⟩
def Qe0(x y:Int)(w:Qm):Calls prog 337 #[.int .u32 x,.int .u32 y] w fun e w'=>e=.returned (.int .i64 (WI x y))/\w'=w:=by
 generalize j:WI x y=r;replace j:=Qc j;go_in;go_wp2_with(go_at_call 369;refine(uG _ _).mono ?_;rintro e v ⟨rfl,q⟩;replace q:=q.symm;subst q);all_goals go_ret
 all_goals exact⟨by rw[<-j.out];unfold WI;clear j;simp at*;(repeat' split)<;>first|rfl|omega,rfl⟩
def Qbj{P:Prop}(h:P:=by
 have hkA:Qd w A:=Ho hk1 hk fun b o hb=>⟨Ku hb,trivial⟩
 have hAz:=hkA.size;have c2:=Q4 g2;gi_wp2;simp only[Exit.noGoto];refine⟨sM,.inl ⟨_,_,rfl,Vx (w:=A) hDB,?_⟩⟩;refine⟨_,Gn rfl _ _ _,⟨_,rfl,hf0⟩,hkA.putObj _ fun o _ _ h=>oM⟩):P:=h
def eR(l:Qv)(v u:Q0)(w:Qm)(hv:Ao w v l)(hu:Ao w u [1])(hne:l≠[])(h0:l.length=1->Zi l 0≠0):
  Calls prog 276 #[v,u] w fun e w'=>(∃c:Int,e=.returned (.int .i64 c)/\0<=c)/\Qd w w':=by
 obtain⟨va,vc,rfl⟩:=hv.Ab
 obtain⟨ua,uc,rfl⟩:=hu.Ab
 have ag:=hv.1
 have af:=hv.2.1
 have b6:0<l.length:=pW.2 hne
 by_cases h1:l.length=1
 case neg=>
  have a9:WI (l.length:Int) 1=1:=by unfold WI;rw[Qa oM,Qe oM]
  have z:=fun W=>qG (l.length:Int) 1 W
  rw[a9]at z;refine(J5 (n:=0)).1 ?_;refine Nf func276 rfl trivial ?_ rfl;simp only[ntmps276];refine Ie ?_;gi_wp2_with(gi_at_call 335;refine(Qr (z _)).mono ?_;rintro e w' ⟨rfl,j⟩;replace j:=j.symm;subst j);refine Jy ?_;gi_wp2_with(gi_at_call 335;refine(Qr (z _)).mono ?_;rintro e w' ⟨rfl,j⟩;replace j:=j.symm;subst j);simp only[Exit.noGoto];refine Xs (Gn rfl _ _ _) rfl ⟨⟨1,rfl,dM⟩,((Ac.refl _ _).alloc _).alloc _⟩
 case pos=>
  have ac:=h0 h1;generalize hx:Zi l 0=x at ac;obtain⟨bv,ov,rfl,a8⟩:∃b o,va=some (ad b o)/\w.cell? (ad b o)=some (.int .u32 (x:Int)):=by
   obtain⟨_,_,a,a6,e,_,h4⟩:=hv;cases e;obtain⟨b,o,e,hc⟩:=h4 0 oM;rw[hx]at hc;exact⟨b,o,e,hc⟩
  obtain⟨bu,ou,rfl,ab⟩:∃b o,ua=some (ad b o)/\w.cell? (ad b o)=some (.int .u32 1):=by
   obtain⟨_,_,a,a6,e,_,h4⟩:=hu;cases e;obtain⟨b,o,e,hc⟩:=h4 0 dM;exact⟨b,o,e,hc⟩
  have b3:=hu;have a4:=hv;rw[h1]at a4;rw[h1];have z:=fun W=>qG 1 1 W
  rw[show WI 1 1=0 from rfl]at z;have a0:=fun W=>Qe0 (x:Int) 1 W
  obtain⟨c,hc,ae⟩:∃c,WI (x:Int) 1=c/\0<=c:=⟨_,rfl,by unfold WI;rw[Qa oM];split<;>omega⟩;rw[hc]at a0;clear hc;refine(J5 (n:=0)).1 (Vy func276 rfl trivial ?_ rfl);simp only[ntmps276];refine Ie ?_;gi_wp2_with(gi_at_call 335;refine(Qr (z _)).mono ?_;rintro e w' ⟨rfl,j⟩;replace j:=j.symm;subst j);refine Jy ?_;gi_wp2_with(gi_at_call 335;refine(Qr (z _)).mono ?_;rintro e w' ⟨rfl,j⟩;replace j:=j.symm;subst j);refine Ez ?_;gi_wp2_with(gi_at_call 336;refine(Qr (Fm (some (ad bv ov)) 1 vc _)).mono ?_;rintro e w' ⟨rfl,rfl⟩);generalize q:World.alloc (World.alloc (World.alloc (World.alloc _ _) _) _) (.cells #[.slice (some (ad bv ov)) 1 vc] 288)=W1;have hz:W1.heap.size=w.heap.size+4:=by rw[<-q];simp
  have hk1:Qd w W1:=by rw[<-q];exact((((Ac.refl _ w).alloc _).alloc _).alloc _).alloc _
  have b0:W1.heap[w.heap.size]? =some (.cells #[.slice (some (ad bv ov)) 1 vc] 288 (0,0)):=by rw[<-q];exact Qb (Qb (Qb (Qt w _)))
  have b1:W1.heap[w.heap.size+1]? =some (.cells #[.slice (some (ad bu ou)) 1 uc] 288 (0,0)):=by rw[<-q];exact CH
  have b2:W1.heap[w.heap.size+1+1]? =some (.cells #[i6 0] 3 (0,0)):=by rw[<-q];exact CH
  have b4:Boxed W1 (w.heap.size+1+1+1) 288 (.slice (some (ad bv ov)) 1 vc):=by rw[<-q];exact CH
  clear q;have a1:Eb w W1:=fun b c t f hb=>hk1.s hb
  have d:∀A:Qm,Eb w A->∀(p:Addr) (k:Int),w.cell? p=some (.int .u32 k)->A.cell? p=some (.int .u32 k):=by
   intro A hk p k hp;unfold World.cell? at hp|-;split at hp
   ·rename_i c t f hb;rw[hk _ _ _ _ hb];exact hp
   ·cases hp
  refine Rx (gf:=368) (lb:=#[pt (w.heap.size+1+1+1)])
   rfl (X3 func368 kM rfl) l.length (Uy l) (fun b _=>b≠w.heap.size+1+1) (fun _ _=>True)
   (fun _=>True) (fun _ _=>True) ?hit (fun b o hb ho=>oM) (fun _ _ _ _ _=>trivial)
   (fun i A=>(∃f:Int,0<=f/\A.heap[w.heap.size+1+1]? =some (.cells #[i6 f] 3 (0,0)))/\
    A.heap[w.heap.size]? =some (.cells #[.slice (some (ad bv ov)) 1 vc] 288 (0,0))/\A.heap[w.heap.size+1]? =some (.cells #[.slice (some (ad bu ou)) 1 uc] 288 (0,0))/\Eb w A)
   (fun i cd A=>cd=.exit 0/\∃f:Int,0<=f/\A.heap[w.heap.size+1+1]? =some (.cells #[i6 f] 3 (0,0)))
   ?hI ?hIx (fun _ _ _ _ h _=>h) (fun _ _ _ _=>trivial) (fun _ _ _ _ _=>trivial) (fun i v A h=>by rw[h];rfl) ⟨⟨0,dM,b2⟩,b0,b1,a1⟩ ?hround ?hdone ?hstop
  case hit=>
   intro W2 a2 ah;refine E3 l (.slice (some (ad bv ov)) 1 vc) (w.heap.size+1+1+1) _ _ w W2 a4 (fun b c t f hb=>a2.s (a1 b c t f hb)) (a2.boxed b4 trivial) (fun c f=>oM) (fun b c t f hb=>Ku hb)
  case hI=>
   rintro i A B ⟨⟨f,hf0,h1⟩,h2,h3,h4⟩ hk;exact⟨⟨f,hf0,hk.same _ _ h1 ⟨.inr rfl,trivial⟩⟩,hk.same _ _ h2 ⟨.inr rfl,trivial⟩,hk.same _ _ h3 ⟨.inr rfl,trivial⟩,fun b c t f hb=>hk.same _ _ (h4 b c t f hb) ⟨.inr rfl,trivial⟩⟩
  case hIx=>
   rintro i cd A B ⟨e,f,hf0,h1⟩ hk;exact⟨e,f,hf0,hk.same _ _ h1 ⟨.inr rfl,trivial⟩⟩
  case hround=>
   intro i v aa;obtain⟨x',y,rfl⟩:=TD rfl aa;apply Exists.intro;apply And.intro
   ·exact LX
   ·rintro l2 A b7 _ hi ⟨⟨f,hf0,g2⟩,g0,g1,r⟩ a7;obtain⟨rfl,rfl⟩:x'=i6 ((l.length-1-i:Nat):Int)/\y=uV (Zi l (l.length-1-i)):=by simpa[Uy] using a7
    obtain⟨rfl⟩:i=0:=oM;rw[h1];have q0:=d A r _ _ a8;have q1:=d A r _ _ ab;have c0:=Q4 g0;have c1:=Q4 g1;refine wpIn_block ?_;refine wpIn_seq ?_;refine KC (And.intro g0 (And.intro g1 (And.intro q0 q1))) ?_;simp only[Vz];repeat refine sX ?_
    refine Vr ?_;intro K hK;refine(Qr (a0 _)).mono ?_;rintro e w' ⟨rfl,j⟩;replace j:=j.symm;subst j;refine hK _ _ ⟨g0,g1,q0,q1⟩ ?_;clear hK K;refine DA ?_;have a5:=Jd g2;have c2:=Q4 g2;go_simp;have m:=Qk g2 0 (i6 c);have hkA:Ac (fun b _=>b≠w.heap.size+1+1) A (A.setCell (ad (w.heap.size+1+1) 0) (i6 c)):=(Ac.refl _ A).setCell _ fun o _ hs _=>hs rfl
    have m:(A.setCell (ad (w.heap.size+1+1) 0) (i6 c)).heap[w.heap.size+1+1]? =some (.cells #[i6 c] 3 (0,0)):=m;generalize A.setCell (ad (w.heap.size+1+1) 0) (i6 c)=A2 at m hkA|-;clear c2 a5;have c2:=Q4 m;by_cases a3:c=0
    ·subst a3;gi_wp2;have hkA:=hkA.drew;exact⟨hkA,⟨0,dM,m⟩,hkA.same _ _ g0 oM,hkA.same _ _ g1 oM,fun b c t f hb=>hkA.same _ _ (r b c t f hb) (Ku hb)⟩
    ·have b5:(c==0)=false:=X6.2 a3;gi_wp2;have hkA:=hkA.drew;exact⟨hkA,rfl,c,ae,m⟩
  case hdone=>
   rintro D A hD ⟨⟨f,hf0,g2⟩,g0,g1,r⟩ _ hk hDB;exact Qbj
  case hstop=>
   rintro D i cd A hD hi ⟨rfl,f,hf0,g2⟩ _ hk hDB;exact Qbj
def OG:Qv->Nat->Qv
 | [],_=>[]
 |x::l,c=>(LB+x-c) % LB::OG l (1-(LB+x-c)/LB)
def GK:∀(l:Qv) (c:Nat),∀x∈OG l c,x<LB
 | [],_,x,h=>by cases h
 |y::l,c,x,h=>by
  rw[OG]at h;rcases Xg.1 h with rfl|h
  ·exact Hj _ dM
  ·exact GK l _ x h
def WJ:∀(l:Qv) (c:Nat),(∀x∈l,x<LB)->c<=1->c<=Xz l->Xz (OG l c)+c=Xz l
 | [],c,_,hc,h=>by simp[Xz]at h;subst h;rfl
 |x::l,c,hl,hc,h=>by
  have hx:x<1000000000:=hl x sM;have j:LB=1000000000:=rfl;rw[OG,Xz];rw[Xz]at h;rw[Xz];by_cases t:c<=x
  ·have m:(LB+x-c) % LB=x-c:=by rw[j];omega
   have q:1-(LB+x-c)/LB=0:=by rw[j];omega
   have b:=WJ l 0 (fun y v=>hl y (Kk _ v)) oM oM;rw[m,q];have d:Xz (OG l 0)=Xz l:=oM;rw[d];omega
  ·have z:c=1:=oM;have u:x=0:=oM;subst z;subst u;have f:0<Xz l:=by
    rcases N9 (Xz l)with n|n
    ·rw[n]at h;omega
    ·exact n
   have m:(LB+0-1) % LB=999999999:=dM;have q:1-(LB+0-1)/LB=1:=dM;have b:=WJ l 1 (fun y v=>hl y (Kk _ v)) oM f;rw[m,q,<-b,j];omega
def uH:Ki ⟨#[49]⟩=[1]:=by
 have h:Xb (Qf ⟨#[49]⟩)=true:=dM;obtain⟨j,q⟩:=Nq h;refine qB q ⟨dM,dM⟩ ?_;rw[j];decide
def eS{a:Qo}(h:Xb (Qf a)=true)(hp:0<valOf (Qf a)):C6 (OG (Ki a) 1)=(dN (valOf (Qf a)-1),0)/\Xb (dN (valOf (Qf a)-1))=true/\Ki a≠[]/\((Ki a).length=1->Zi (Ki a) 0≠0):=by
 obtain⟨q,n⟩:=Nq h;have c:=WJ (Ki a) 1 n.1 dM (by rw[q];exact hp);have u:Xz (OG (Ki a) 1)=valOf (Qf a)-1:=oM;have y:=PS (GK (Ki a) 1);rw[u]at y;have j:(dN (valOf (Qf a)-1)).length<=400:=by
  obtain⟨m,b,f⟩:=Jm h;have t:=EF _ m;have d:10^(Qf a).length<=10^400:=Rj dM (by rw[Q9];exact b);exact(OE 400 (valOf (Qf a)-1) dM oM).2
 refine⟨by rw[y,Qa oM],EO j,fun e=>?_,fun z v=>?_⟩
 ·rw[e]at q;simp[Xz]at q;omega
 ·obtain⟨x,hx⟩:=oW.1 z;rw[hx]at v q;simp[Xz]at q;simp[Zi]at v;omega
def Qhj{P:Prop}(h:P:=by
 refine⟨rfl,rfl,rfl,by simp[World.setRow],fun k o ho _=>?_⟩;have hlt:=Qg ho;rw[setRow_other _ _ _ _ oM];exact hs.s ho):P:=h
def lU(ty:TypeId)(l:Qv)(va:Jr)(vc:Nat)(w:Qm)(hv:Ao w (.slice va l.length vc) l)(hne:l≠[])(q:Nat)(v u:Q0)(c0:w.cell? ⟨q,0,none⟩=some v)(c1:w.cell? ⟨q,1,none⟩=some u):
  ∃W,(Builtin.copy_ #[288,288] ty #[.slice (some ⟨w.heap.size,0,none⟩) l.length l.length,.slice va l.length vc]).run prog (w.alloc (.cells ((List.replicate l.length 0).map uV).toArray 236))=.ok (goInt l.length) W/\
   W.heap[w.heap.size]? =some (.cells (l.map uV).toArray 236 (0,0))/\W.cell? ⟨q,0,none⟩=some v/\W.cell? ⟨q,1,none⟩=some u/\Qd w W:=by
 obtain⟨Z,hZ,f⟩:∃Z,((List.replicate l.length 0).map uV).toArray=Z/\Z.size=l.length:=⟨_,rfl,sM⟩
 rw[hZ]
 have hs:=LW w (.cells Z 236)
 have hg:=Qt w (.cells Z 236)
 have m:Qd w ((w.alloc (.cells Z 236)).setRow w.heap.size (l.map uV).toArray):=by
  exact Qhj
 obtain⟨i0,t,a3,r,a1⟩:=Gk E9
 refine⟨(w.alloc (.cells Z 236)).setRow w.heap.size (l.map uV).toArray,?_,setRow_heap _ _ _ _ _ _ hg,m.cell c0 fun _ _=>trivial,m.cell c1 fun _ _=>trivial,m⟩
 obtain⟨h1,h2,a,a2,e,h3,h4⟩:=hv
 cases e
 cases l with
 |nil=>
  exact absurd rfl hne
 |cons x l=>
  obtain⟨b,z,e,hc⟩:=h4 0 sM;subst e;have d:∀j v,((x::l).map uV)[j]? =some v->(w.alloc (.cells Z 236)).cell? (((ad b z):Addr).add j)=some v:=by
   intro j v k;have c:((ad b z):Addr).add j=(ad b (z+j)):=by unfold Addr.add;split<;>simp_all
   rw[c];have n:j< (x::l).length:=by
    have:=(DT.1 k).1;simpa using this
   obtain⟨b',a0,e,p⟩:=h4 j n;cases e;rw[hs.cell p fun _ _=>trivial];rw[CV,Km n]at k;simp[Zi,K9,Km n];simpa using k
  have h:=run_copy_row (P:=prog) (w.alloc (.cells Z 236)) 288 288 ty 236 w.heap.size 0 (x::l).length (x::l).length (ad b z) (x::l).length vc Z 236 ((x::l).map uV) underlying288 (by rw[t];exact congrArg some r) hg sM d (by simp;simp at f;omega) (by intro v hv;obtain⟨y,_,rfl⟩:=Xq.1 hv;rfl);have hd:Z.toList.drop (0+((x::l).map uV).length)=[]:=NZ (by simp;simp at f;omega);rw[hd,E2,Ri,Hy,Vq]at h;exact h
def lV(a:Qo)(w:Qm)(ha:a.size<=1000000000)(hr:Xb (Qf a)=true)(hpos:0<valOf (Qf a))(hp:AD w):
  Calls prog 216 #[.string a,.string ⟨#[49]⟩] w fun e w'=>e=.returned (Pw (dN (valOf (Qf a)-1),0))/\Qd w w':=by
 obtain⟨j,_,z,b7⟩:=eS hr hpos
 have a6:=fun g c W h2 g0 g1=>kA a ⟨#[49]⟩ g c W ha dM h2 g0 g1
 rw[hr,show Xb (Qf ⟨#[49]⟩)=true by decide,uH]at a6
 have b4:=Ci a hr
 obtain⟨l,hl⟩:=X0 (Ki a)
 obtain⟨R,hR⟩:=X0 (dN (valOf (Qf a)-1))
 have a2:=(Nq hr).2.1
 rw[hl]at j z b7 a6 b4 a2
 rw[hR]at j|-
 clear hl hR hr hpos
 replace j:=Qc j
 have cd:=pW.2 z
 have a0:∀x∈l,x<LB:=a2
 have b2:=fun W=>Mh W l.length oM
 go_in
 go_wp2
 refine IN ?_
 go_wp2_with(go_at_call 275;refine(a6 _ _ _ oM sM sM).mono ?_;rintro e w1 ⟨bh,h9⟩;simp only[Bool.and_self,BE]at h9;obtain⟨q,cq,v,u,h8,cb,c0,c1,hv,hu⟩:=h9;subst h8;obtain⟨va,vc,rfl⟩:=hv.Ab;obtain⟨ua,uc,rfl⟩:=hu.Ab)
 have ag:Qd w w1:=Xd
 refine EA ?_
 refine gR (n:=0) (And.intro c0 c1) ?_
 repeat refine sX ?_
 iterate 6 refine sG ?_
 refine Sv ?_
 intro K hK
 refine(Qr (eR l _ _ _ (hv.same Xd) (hu.same Xd) z b7)).mono ?_
 rintro e w2 ⟨⟨c,rfl,ae⟩,ab⟩
 have ca:decide (c<0)=false:=Z4 oM
 have c0:=ab.cell c0 fun _ _=>trivial
 have c1:=ab.cell c1 fun _ _=>trivial
 refine hK _ _ ⟨c0,c1⟩ ?_
 clear hK K
 refine sG ?_
 repeat refine sX ?_
 refine Jc ?_
 have k:Qd w1 w2:=Xd
 have hv:=hv.same k
 have hu:=hu.same k
 have a3:Qd w w2:=Xd
 clear ab k ag bh
 obtain⟨W3,b8,b5,c3,c8,af⟩:=lU 3 l va vc w2 hv z q (.slice va l.length vc) (.slice ua [1].length uc) c0 c1
 have ah:=((Ac.refl (fun _ _=>True) w2).alloc (.cells ((List.replicate l.length 0).map uV).toArray 236)).cell c0 fun _ _=>trivial
 have b1:=((Ac.refl (fun _ _=>True) w2).alloc (.cells ((List.replicate l.length 0).map uV).toArray 236)).cell c1 fun _ _=>trivial
 have c7:Qd w W3:=a3.trans af
 generalize hZ:((List.replicate l.length 0).map uV).toArray=Z at b8 ah b1
 simp only[hZ]at b2
 clear hZ
 go_wp2
 clear b8 ah b1 hv a6 b2 c3
 go_loopw [43,7] (fun iv bv wr=>∃(i br:Nat) (p:Qv),iv=i6 i/\bv=.int .u64 br/\i<=l.length/\p.length=i/\Zi [1] i+br<=1/\OG l 1=p++OG (l.drop i) (Zi [1] i+br)/\(∀x∈l,x<LB)/\
   wr.heap[w2.heap.size]? =some (.cells ((p++l.drop i).map uV).toArray 236 (0,0))/\Qd w2 wr) (fun iv _ _=>l.length-(RowKit.intOf iv).toNat)
 case atStart=>exact⟨0,0,[],rfl,rfl,Xi _,rfl,dM,rfl,a0,b5,af⟩
 case round=>
  obtain⟨i,br,p,rfl,rfl,hi,a5,c5,hs,_,d,a1⟩:=hrel;by_cases ba:i<l.length
  ·have a4:=Iy ba;rw[a4,OG]at hs;have bb:(p++l.drop i).length=l.length:=by rw[Zv,CB];omega
   have ae:=Og d (i:=i) oM;have b6:Zi (p++l.drop i) i=Zi l i:=by rw[a4,<-a5];simp[Zi,K9]
   rw[b6]at ae;have ac:=Fl a0 i;obtain⟨x,hx⟩:=X0 (Zi l i);obtain⟨y,hy⟩:=X0 (Zi [1] i);rw[hx]at hs ae ac;rw[hy]at hs c5;have ac:x<1000000000:=ac;have bd:i<=1000000000:=oM;have L1:∀m,Calls prog 277 #[.slice ua 1 uc,i6 (i:Int)] (wr.drewN m) fun e w'=>e=.returned (.int .u64 y)/\w'=wr.drewN m:=fun m=>by
    have h:=Ih [1] _ i (wr.drewN m) (hu.same (a1.drewN m)) bd;rwa [hy]at h
   have c1:=a1.cell c1 fun _ _=>trivial
   have ce:=Jd d;obtain⟨t,ht⟩:=X0 (1000000000+x-y-br);have b0:LB+x-(y+br)=t:=by rw[<-ht];show 1000000000+x-(y+br)=_;omega
   rw[b0]at hs;obtain⟨t1,be⟩:=X0 (1000000000+x);obtain⟨t2,c4⟩:=X0 (t1-y);have e1:(1000000000:Int)+(x:Int)=(t1:Int):=oM;have w1:IntKind.u64.wrap (x:Int)=(x:Int):=X7 oM oM;have cc:IntKind.u64.wrap (t1:Int)=(t1:Int):=X7 oM oM;have e2:(t1:Int)-(y:Int)=(t2:Int):=oM;have c9:IntKind.u64.wrap (t2:Int)=(t2:Int):=X7 oM oM;have e3:(t2:Int)-(br:Int)=(t:Int):=oM;have w4:IntKind.u64.wrap (t:Int)=(t:Int):=X7 oM oM;obtain⟨r,hr⟩:=X0 (t % LB);obtain⟨bn,aa⟩:∃b,1-t/LB=b:=⟨_,rfl⟩;rw[hr,aa]at hs;have b3:t % 1000000000=r:=hr;have b9:1-t/1000000000=bn:=aa;have w5:IntKind.u32.wrap ((t:Int) % 1000000000)=(r:Int):=by rw[BC oM oM,<-b3];omega
   have w6:IntKind.u64.wrap (1-(t:Int)/1000000000)=(bn:Int):=by rw[X7 oM oM];omega
   have f:OG l 1=(p++[r])++OG (l.drop (i+1)) (Zi [1] (i+1)+bn):=by
    rw[hs,Y1,show Zi [1] (i+1)=0 by simp[Zi],Z3];rfl
   have a7:(p++l.drop i).set i r=(p++[r])++l.drop (i+1):=by
    rw[a4,<-a5,List.set_append_right _ _ (Q6 _),I0];simp
   have bc:=Qc f;have a9:=Qc a7;have a8:Zi [1] (i+1)+bn<=1:=by rw[show Zi [1] (i+1)=0 by simp[Zi]];omega
   have c6:=Qc a8;generalize ad:p++l.drop i=row at d a9;clear hs hr aa b3 b9 hx hy b6 a4 f a7 ad bb ht b0 a8 be c4;go_wp2;go_quiet (first| (go_at_call 277;exact FB (L1 _)));go_wp2;go_roundw
   case rel=>
    refine⟨i+1,bn,p++[r],by go_num,rfl,oM,by simp[a5],c6.out,bc.out,a0,?_,?_⟩
    ·have:=Qk (w:=wr.drewN nq) d i (uV r);rw[YY,a9.out]at this;exact this
    ·refine(a1.drewN nq).setCell _ ?_;intro o ho _ h;exact absurd h (J0 _)
   case measure=>simp[RowKit.intOf];omega
  ·obtain rfl:i=l.length:=oM;rw[FR,OG,Hy]at hs;rw[FR,Hy]at d;have bg:∀x∈p,x<LB:=by rw[<-hs];exact GK l 1
   have hL:=Ao.Be d oM bg (cap:=l.length) oM;rw[a5]at hL;rw[hs]at j;have bf:=hp.same (a3.trans a1);clear hs;go_wp2_with(go_at_call 278;refine(I1 p _ _ hL bf).mono ?_;rintro e w' ⟨rfl,c2⟩)
   (try simp only[Exit.noGoto]);go_ret2;exact⟨by rw[j.out];rfl,(a3.trans a1).trans c2⟩
def Qbk(a:Qo)(g c:Nat)(w:Qm)(ha:a.size<=1000000000)(hc:1<=c)(g0:w.cell? ⟨g,0,none⟩=some (.string a)):
  Calls prog 275 #[.slice (some ⟨g,0,none⟩) 1 c] w fun e w'=>Qd w w'/\
   (if Xb (Qf a)then∃r cap v,e=.returned (.tuple #[.slice (some ⟨r,0,none⟩) 1 cap,.int .i64 0])/\1<=cap/\w'.cell? ⟨r,0,none⟩=some v/\Ao w' v (Ki a)
    else e=.returned (.tuple #[.slice none 0 0,.int .i64 10])):=by
 refine oX ?_
 intro ra hra
 rw[hra]
 replace hra:=Qc hra
 gi_wp2
 refine wpIn_loop_rounds 2 ?_
 rw[U1]
 cases ra
 ·exact oY
 ·gi_wp2_with(first
   | (gi_at_call 231;refine(Qr (Vk a _ oM)).mono ?_;rintro e w1 ⟨rfl,hk1⟩;rw[hra.out])
   | (gi_at_call 333;refine(Qr (Mi a _)).mono ?_;rintro e w2 ⟨rfl,d⟩;replace d:=d.symm;subst d))
  refine oZ ?_;intro hPa W1 hW1;have a5:Boxed W1 w1.heap.size 288 (.slice none 0 0):=by rw[<-hW1];exact Qb (Ql sM)
  have bs1:Boxed W1 (w1.heap.size+1) 9 (.string a):=by rw[<-hW1];exact Ql sM
  have hz1:W1.heap.size=w1.heap.size+2:=by rw[<-hW1];simp
  have y:Qd w1 W1:=by rw[<-hW1];exact((Ac.refl _ _).alloc _).alloc _
  rw[hW1];clear hW1;refine Rx (gf:=366) (lb:=#[pt (w1.heap.size+1)]) rfl (X3 func366 kM rfl) (Kf a) (fun i v _=>v=#[.string (Js a i)])
   (sB w1.heap.size w1.heap.size) (fun b o=>b≠w1.heap.size+1∨∀c f,o≠ .cells c 9 f) (fun _=>True) (fun _ _=>True) ?hit ?hSb ?hSi
   (fun i A=>∃v,Boxed A w1.heap.size 288 v/\A.ownsRow w1.heap.size 236 1 v i (((Zu a).take i).map uV))
   (fun _ _ _=>False) ?hI (fun _ _ _ _ h _=>h) (fun _ _ _ _ h _=>h) (fun _ _ _ _=>trivial) (fun _ _ _ _ _=>trivial) (fun i v A h=>by rw[h];rfl) ⟨_,a5,by simpa using Yz W1 w1.heap.size 236 1⟩ ?hround ?hdone (fun _ _ _ _ _ _ h=>h.elim)
  case hit=>
   exact pA
  case hSb=>exact fun b o m ho=>⟨oM,.inr fun c f e=>by subst e;cases ho⟩
  case hSi=>exact fun b o m aa ho=>.inl oM
  case hI=>
   exact RH
  case hround=>
   exact pB
  case hdone=>
   rintro D1 A1 ae ⟨v1,x,ho1⟩ _ q p;have htk:(Zu a).take (Kf a)=Zu a:=by rw[Nd];simp[Zu]
   rw[htk]at ho1;have n:Ao A1 v1 (Zu a):=by
    exact pC
   have a1:Qd w A1:=⟨q.os.trans (y.os.trans hk1.os),q.tape.trans (y.tape.trans hk1.tape),q.output.trans (y.output.trans hk1.output),by have:=hk1.size;have:=q.size;omega,fun b o m _=>q.same b o (y.same b o (hk1.same b o m trivial) trivial) (by have:=Qg (hk1.same b o m trivial);exact⟨⟨oM,.inl this⟩,.inl oM⟩)⟩;obtain⟨va1,af,rfl⟩:=n.Ab;have k:=x.cell;clear htk;obtain⟨j0,a4,a9,a6,a2⟩:=Gk U4;gi_wp2_with(first
    | (gi_at_call 334;refine(Qr (Lj (Zu a) _ _ _ n)).mono ?_;rintro e w7 ⟨⟨k1,rfl,hv7⟩,d⟩;replace d:=d.symm;subst d)
    | (gi_at_builtin;refine Mn _ rfl _ _ 289 rfl A1.heap.size 288 j0 (.slice none 0 0) 1 24 underlying289 a4 a9 a6 a2 rfl dM _ _ _ rfl (Yz _ _ _ _) (ad A1.heap.size 0) 1 1 [.slice va1 k1 k1] rfl rfl ?e1 ?e2 ?e3 ?e4 ?e5 ?_))
   case e1=>exact fun j u hu=>Jw A1 #[.slice va1 k1 k1] _ j u hu
   case e2=>intro u hu;simp at hu;subst hu;rfl
   case e3=>decide
   case e4=>decide
   case e5=>simp
   intro o1 w8 hown1 hgrow1 _;refine pD ?_;intro hT1 hk8 r1 q1 cu1 ho1e hr1 hc1;subst ho1e;have a3:Qd w w8:=a1.trans hk8;have a8:=hT1.Af hk8 fun _ _ _ _=>trivial
   have x0:=hown1.cells rfl 0 _ rfl;have a7:1<=q1:=by
    rcases hown1.2 with⟨h,_⟩| ⟨g,cap,cur,h1,h2,h3,h4,_⟩
    ·cases h
    ·cases h1;exact h4
   have a0:=hk8.s p;have ac:=hk8.size;have hzA:=a1.size;clear hgrow1 k x ho1 n hv7 hT1;gi_wp2;rw[U1];gi_wp2;refine⟨sM,.inl ⟨_,_,rfl,Vx a0,?_⟩⟩;have ab:=hk1.size;have hF:Ac (fun b _=>b≠D1) w8 (w8.putObj D1 (.deferred none)):=(Ac.refl _ w8).putObj _ fun o _ hs _=>hs rfl
   have z:∀(b:Nat) (cur:Array Q0) (t:TypeId) (f:Nat × Nat),w8.heap[b]? =some (.cells cur t f)->b≠D1:=by
    rintro b cur t f m rfl;rw[a0]at m;cases m
   have z0:=hF.cell x0 fun o ho=>z r1 _ _ _ hc1
   have z2:=(a8.Af hF fun b cur f m=>z b _ _ _ m).1;refine⟨_,Iq rfl _ _ _,a3.putObj (.deferred none) fun o _ _ h=>oM,?_⟩;exact⟨r1,q1,rfl,a7,_,z0,z2⟩
def lW(a:Qo)(d:Nat):Qv × Nat × Int:=if Xb (Qf a)&&decide (0<d)then(LA (Jf (Yh d (Ki a)).1),(Yh d (Ki a)).2,0)else([],0,10)
def lX(a:Qo)(d:Nat)(w:Qm)(ha:a.size<=1000000000)(hd0:0<d)(hd:d<4294967296)(hp:AD w):
  Calls prog 266 #[.string a,.int .u32 (d:Int)] w fun e w'=>e=.returned (.tuple #[.string (Xh (lW a d).1),.int .u32 ((lW a d).2.1:Int),.int .i64 (lW a d).2.2])/\Qd w w':=by
 obtain⟨r,n⟩:=X0 (Xb (Qf a))
 have j:lW a d=if r then(LA (Jf (Yh d (Ki a)).1),(Yh d (Ki a)).2,0)else([],0,10):=by unfold lW;rw[n,Kp hd0,Bool.and_true]
 have y:=fun g c W h2 g0=>Qbk a g c W ha h2 g0
 rw[n]at y
 have b:=Qc j
 have x:((d:Int)==0)=false:=X6.2 oM
 cases r
 ·clear j n;go_in;go_wp2_with(go_at_call 275;refine(y _ _ _ oM sM).mono ?_;rintro e p ⟨u,z⟩;simp only[I7,Nk]at z;subst z);refine Xs (results_tmp3 rfl _ _ _) rfl ⟨by rw[b.out];rfl,Xd⟩
 ·clear j n;go_in;go_wp2_with(first
   | (go_at_call 275;refine(y _ _ _ oM sM).mono ?_;rintro e p ⟨u,z⟩;simp only[BE]at z;obtain⟨q,cq,v,t,a0,c0,f⟩:=z;subst t;obtain⟨va,vc,rfl⟩:=f.Ab)
   | (go_at_call 279;refine(qF _ _ d _ (f.same Xd) hd0 hd).mono ?_;rintro e w2 ⟨⟨v2,rfl,m⟩,a1⟩;obtain⟨a2,b2,rfl⟩:=m.1.Ab)
   | (go_at_call 321;refine(U0 _ _ _ (m.1.same Xd) (hp.same Xd)).mono ?_;rintro e w3 ⟨rfl,k⟩))
  refine Xs (results_tmp3 rfl _ _ _) rfl ⟨by rw[b.out];rfl,Xd⟩
def WK{d:Nat}(hd:0<d):∀l:Qv,Xz (Yh d l).1*d+(Yh d l).2=Xz l
 | []=>by simp[Yh,Xz]
 |x::l=>by
  have ih:=WK hd l;rw[Yh,Xz,Xz];have q:=TA ((Yh d l).2*LB+x) d;have j:(((Yh d l).2*LB+x)/d+LB*Xz (Yh d l).1)*d=d*(((Yh d l).2*LB+x)/d)+LB*(Xz (Yh d l).1*d):=by rw[Aaa,Jj _ d,CM]
  rw[j,<-ih,N5];rw[Jj LB (Yh d l).2];omega
def lY{l:Qv}(h:AT l)(hne:l≠[]):Xz (Jf (Yh 256 l).1)=Xz l/256/\(Yh 256 l).2=Xz l % 256/\AT (Jf (Yh 256 l).1)/\0<Xz l:=by
 have j:=WK (d:=256) dM l;have q:=Dl (d:=256) dM l;rw[EN];exact⟨oM,oM,IS (T2 dM l h.1),h.pos hne⟩
def DN:Nat->Nat->Qv
 |0,_=>[]
 |f+1,n=>if n=0 then[]else n % 256::DN f (n/256)
def WL:∀f n,(DN f n).reverse=Jb f n
 |0,n=>rfl
 |f+1,n=>by
  rw[DN,Jb];split
  ·rfl
  ·rw[Ph,WL f (n/256)]
def WM(a:Qo):Qv × Int:=if Xb (Qf a)then(Jb 400 (valOf (Qf a)),0)else([],10)
def OH(a:Qo)(w:Qm)(ha:a.size<=1000000000):
  Calls prog 217 #[.string a] w fun e w'=>e=.returned (Pw (WM a))/\Qd w w':=by
 obtain⟨r,p⟩:=X0 (Xb (Qf a))
 have a4:WM a=if r then(Jb 400 (valOf (Qf a)),0)else([],10):=by unfold WM;rw[p]
 have b3:=fun g c W h2 g0=>Qbk a g c W ha h2 g0
 rw[p]at b3
 have HR:=Qc a4
 cases r
 ·clear a4 p;go_in;go_wp2_with(go_at_call 275;refine(b3 _ _ _ oM sM).mono ?_;rintro e w1 ⟨b1,h9⟩;simp only[I7,Nk]at h9;subst h9);go_ret2;exact Iu
 ·obtain⟨a8,a7⟩:=Nq p;have d1:=Ci a p;have ab:valOf (Qf a)<10^400:=by
   obtain⟨h1,h2,h3⟩:=Jm p;have h4:=EF _ h1;refine Cf h4 (Rj dM ?_);rw[Q9];exact h2
  have aa:valOf (Qf a)<256^400:=Cf ab dM;generalize hV:valOf (Qf a)=V at a8 aa HR;clear a4 p ab hV;replace a7:=Qc a7;replace a8:=Qc a8;obtain⟨i0,bc,bg,c9,bb⟩:=Gk Di;go_in;go_wp2_with(go_at_call 275;refine(b3 _ _ _ oM sM).mono ?_;rintro e w1 ⟨b1,h9⟩;simp only[BE]at h9;obtain⟨q,cq,v,h8,d0,c0,hv⟩:=h9;subst h8;obtain⟨va,vc,rfl⟩:=hv.Ab);have b7:Qd w w1:=Xd;go_loopg [6,7] 400 (fun k ov xv wr=>∃(l out:Qv),Ao wr xv l/\AT l/\wr.ownsRow w.heap.size 5 1 ov out.length (Xl out)/\(∀x∈out,x<256)/\out.length+k=400/\Xz l<256^k/\DN 400 V=out++DN k (Xz l)/\Qd w wr)
  case atStart=>exact⟨_,[],hv,a7.out,by simpa[Xl] using Yz w1 w.heap.size 5 1,sM,rfl,by rw[a8.out];exact aa,by rw[a8.out];rfl,b7⟩
  case round=>
   obtain⟨l,out,a5,b0,n,b6,ce,ac,ae,a0⟩:=hrel;replace ae:=Qc ae;replace b0:=Qc b0;replace ac:=Qc ac;obtain⟨oa,oc,rfl⟩:=Vt n;have c8:=a0.size;cases l with
   |nil=>
    obtain⟨xa,xc,rfl⟩:=a5.Ab;have a9:out=DN 400 V:=by
     rw[ae.out,show Xz []=0 from rfl];cases gk with
     |zero=>rw[DN,Hy]
     |succ k=>rw[DN,Qe rfl,Hy]
    have ca:=NY n b6 oM;replace a9:=Qc a9;go_wp2_with fail;refine ca.mono ?_;rintro e w5 ⟨rfl,cg,m⟩;have bf:Qd w w5:=⟨m.os.trans a0.os,m.tape.trans a0.tape,m.output.trans a0.output,Qj c8 m.size,fun b o hb _=>m.same b o (a0.same b o hb trivial) (jN n (Qg hb))⟩;go_wp2_with fail;go_ret2;exact⟨by rw[HR.out,a9.out,WL];rfl,bf⟩
   |cons y l=>
    obtain⟨xa,xc,rfl⟩:=a5.Ab;obtain⟨ag,b5,b4,bh⟩:=lY b0.out sM;have cd:=Dl (d:=256) dM (y::l);have af:=fun W (hk:Qd wr W)=>qF (y::l) _ 256 W (a5.same hk) dM dM
    obtain⟨q,hq⟩:=X0 (Jf (Yh 256 (y::l)).1);obtain⟨r,p⟩:=X0 ((Yh 256 (y::l)).2);rw[hq]at ag b4 af;rw[p]at b5 cd af;have b1:∃k',gk=k'+1:=by
     cases gk with
     |zero=>have:=ac.out;simp at this;omega
     |succ k=>exact⟨k,rfl⟩
    obtain⟨k',rfl⟩:=b1;have a1:DN 400 V=(out++[r])++DN k' (Xz q):=by
     rw[ae.out,DN,Qa oM,ag,b5,Y1];rfl
    have b8:Xz q<256^k':=by
     have:=ac.out;rw[Gb]at this;rw[ag];omega
    have bd:=Qc a1;have be:=Qc b8;have cc:=Qc b4;have d2:IntKind.u8.wrap (r:Int)=(r:Int):=by
     simp only[IntKind.wrap,IntKind.bits,IntKind.signed];simp;omega
    clear hq p ag b5 b4 bh a1 b8;go_wp2_with fail;refine(af _ (Ac.refl _ _)).mono ?_;rintro e w5 ⟨⟨v2,rfl,b9⟩,m⟩;obtain⟨a2,b2,rfl⟩:=b9.1.Ab;have z:=D4 n m;have ah:=a0.trans m;go_wp2_with(at_builtin;refine LQ _ rfl _ _ 116 rfl w.heap.size 5 i0 (.int .u8 0) 1 1 underlying116 bc bg c9 bb rfl dM _ _ _ rfl (z.alloc _) (ad w5.heap.size 0) 1 1 [.int .u8 (r:Int)] rfl rfl ?c1 ?c2 ?c3 ?c4 ?c5 ?_)
    case c1=>intro j u hu;exact Jw w5 #[.int .u8 (r:Int)] _ j u hu
    case c2=>intro u hu;simp at hu;subst hu;rfl
    case c3=>unfold maxLen;omega
    case c4=>omega
    case c5=>have:=ah.size;simp;omega
    intro v' w6 a3 t _;have ba:Qd w w6:=L4 (ah.alloc _) rfl (VV z _) t;obtain⟨a6,c6,rfl⟩:=Vt a3;have c7:Ao w6 (.slice a2 q.length b2) q:=(b9.Af (K:=fun b o=>∃c f,o=.cells c 236 f) (((Ac.refl _ w5).alloc _).grown t fun r p o ho hs _=>by
     obtain⟨c,f,rfl⟩:=hs;rcases z.2 with⟨e,_⟩| ⟨g,cf,ch,e,hg,cb,_⟩
     ·rw[e]at p;cases p
     ·rw[e]at p;cases p;have h8:=Qb (o:=.cells #[.int .u8 (r:Int)] 5) cb;rw[show((ad g 0):Addr).block=g from rfl,h8]at ho;cases ho) fun _ _ _ _=>⟨_,_,rfl⟩).1
    clear t n z af;go_wp2_with fail;go_roundg k'
    case measure=>omega
    case rel=>
     refine⟨q,out++[r],c7,cc.out,?_,?_,by rw[Zv];simp;omega,be.out,bd.out,ba⟩
     ·have e:Xl (out++[r])=Xl out++[.int .u8 (r:Int)]:=by simp[Xl]
      rw[e,Zv];exact a3
     ·intro x hx;rcases Kn.1 hx with hx|hx
      ·exact b6 x hx
      ·rw[Zm]at hx;omega
def lZ{l:Qv}(h:AT l){k:Nat}(hv:Xz l<LB^k):l.length<=k:=by
 rcases Ce k l.length with q|q
 ·exfalso;have j:l=l.take (l.length-1)++l.drop (l.length-1):=(FW _ _).symm;have hd:(l.drop (l.length-1)).length=1:=by rw[CB];omega
  obtain⟨x,hx⟩:=oW.1 hd;have y:l.getLast? =some x:=by rw[j,hx];simp
  have z:=h.2 x y;have v:Xz l=Xz (l.take (l.length-1))+LB^(l.length-1)*x:=by
   conv=>lhs;rw[j,hx,IR]
   rw[Ji];simp[Xz]
  have m:LB^k<=LB^(l.length-1):=Rj dM oM;have n:LB^(l.length-1)<=LB^(l.length-1)*x:=Mc _ oM;omega
 ·exact q
def Qe1:(10:Nat)^400<LB^45:=by decide
def BM{x k:Nat}(hk:1<=k)(h:x<10^k):(dN x).length<=k:=(OE k x hk h).2
def eT{b:Qv}(hb:∀x∈b,x<LB):∀(k:Nat) (out:Qv),AT out->Xz out*Xz b^k<10^400->0<Xz b->∃o,VP b k out=some o/\AT o/\Xz o=Xz out*Xz b^k
 |0,out,h,_,_=>⟨out,rfl,h,sM⟩
 |k+1,out,h,hv,h0=>by
  obtain⟨h1,h2⟩:=eJ h.1 hb;have e:Xz out*Xz b^(k+1)=Xz (EX out b)*Xz b^k:=by rw[h1,Gb];ac_rfl
  rw[e]at hv;have q:Xz (EX out b)<=Xz (EX out b)*Xz b^k:=Mc _ (Hn h0);have j:=lZ h2 (k:=45) (by have:=Qe1;omega);rw[VP,Qa oM,e];exact eT hb k _ h2 hv h0
def mA{b e:Nat}(he:e<=400)(hb:0<b)(hb9:b<18446744073709551616)(hv:b^e<10^400):powerM b (e:Int)=(dN (b^e),0):=by
 obtain⟨o,q,v,j⟩:=eT (Pj b hb9) e [1] ⟨dM,dM⟩ (by rw[M6];simpa[Xz] using hv) (by rw[M6];exact hb);rw[M6]at j;have y:Xz o=b^e:=by rw[j];simp[Xz]
 unfold powerM;rw[Qa oM,show(e:Int).toNat=e from Ig e,q];show C6 o=_;rw[PS v.1,y,Qa (by have:=BM dM hv;omega)]
def BN(n:Nat):Qf (Xh (dN n))=dN n:=Yl _ fun x hx=>by have:=Lp n x hx;omega
def uI{a b:Qo}(ha:Xb (Qf a)=true)(hb:Xb (Qf b)=true)(hv:valOf (Qf a)*valOf (Qf b)<10^400)(hb0:0<valOf (Qf b)):
  prodM a b=(Xh (dN (valOf (Qf a)*valOf (Qf b))),true):=by
 have y:Xb (Qf Om)=true:=dM
 have z:valOf (Qf Om)=1:=dM
 have q:=eM y ha
 rw[z,Pi,eN ha,Qa (by have:=(Jm ha).2.1;rw[Q9];omega)]at q
 have v:Xh (Qf a)=a:=Ym a
 have j:=eM ha hb
 rw[Qa (by have:=BM dM hv;omega)]at j
 unfold prodM
 rw[q,v,j]
 rfl
def Qbl{n d:Nat}(hn:n<10^400)(hd:0<d):lW (Xh (dN n)) d=(dN (n/d),n % d,0):=by
 have v:Xb (Qf (Xh (dN n)))=true:=by rw[BN];exact EO (BM dM hn)
 obtain⟨y,m⟩:=Nq v;rw[BN,M7]at y;have j:=WK hd (Ki (Xh (dN n)));have u:=Dl hd (Ki (Xh (dN n)));rw[y]at j;have z:Xz (Yh d (Ki (Xh (dN n)))).1=n/d/\(Yh d (Ki (Xh (dN n)))).2=n % d:=by
  rw[Jj]at j;constructor
  ·exact(Nat.div_eq_of_lt_le (by rw[Jj];omega) (by rw[Pc,Jj];omega)).symm
  ·have q:=Ye u;generalize b:(Yh d (Ki (Xh (dN n)))).2=r at j q|-;rw[<-j,Nat.mul_add_mod,q]
 unfold lW;rw[v,Kp hd];simp only[Bool.and_self,BE];rw[JJ (IS (T2 hd _ m.1)),EN,z.1,z.2]
def mB{f n:Nat}{e:Int}(h:n % 2=0):Gx (f+1) n e=Gx f (n/2) (e+1):=by rw[Gx,Qe h]
def uJ{f n:Nat}{e:Int}(h:n % 2≠0):Gx f n e=(n,e):=by
 cases f with
 |zero=>rfl
 |succ f=>rw[Gx,Qa h]
def WN:∀(f n:Nat) (e:Int) (k:Nat),0<n->n<2^k->e<=(Gx f n e).2/\(Gx f n e).2<=e+k/\(Gx f n e).1<=n
 |0,n,e,k,_,_=>⟨Int.le_refl _,by rw[Gx];omega,Q6 _⟩
 |f+1,n,e,k,h0,hk=>by
  rw[Gx];split
  ·rename_i h2;cases k with
   |zero=>simp at hk;omega
   |succ k=>
    have:=WN f (n/2) (e+1) k oM (by rw[Gb]at hk;omega);omega
  ·exact⟨Int.le_refl _,by show e<=e+k;omega,Q6 _⟩
end Go.Tm
