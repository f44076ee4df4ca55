/-
  Part 10 of what the claim leans on: contracts of the functions that the law reaches, and plain facts. Conditions: the theorems' own.
-/
import Derived.WalkKit
import Derived.ProofKit
import Derived.OpenShut
import Derived.Lay
import Derived.SevenTiedAt
import Derived.Deep.DeepHandedRow
import Derived.Test.YtkfaoeobfigagaaGreatDoorShYI
import Derived.Test.YtkfaoeobfigagaaGreatDoorRows
set_option linter.all false
set_option maxRecDepth 100000
set_option maxHeartbeats 16000000
namespace Go.Tm
open Go.Proofs Go.RowKit Go.Proofs.Tryz
variable{W w w':Qm}{N b:Nat}{S:Qz}{K:Nat->Obj->Prop}{v:Q0}{qs:List (List Aj × Aa)}{p q:List Aj}{E:Am}{t x:Aa}{h:Hd}{l:Qp}
def gL{a0 a1 a2 a3 a4 a5 a6 a7 a8 a9:Q0}{t:TypeId}{f:Nat × Nat}(h:w.heap[b]? =some (.cells #[a0,a1,a2,a3,a4,a5,a6,a7,a8,a9] t f)):
  w.cell? ⟨b,0,none⟩=some a0/\w.cell? ⟨b,1,none⟩=some a1/\w.cell? ⟨b,2,none⟩=some a2/\w.cell? ⟨b,3,none⟩=some a3/\w.cell? ⟨b,4,none⟩=some a4/\w.cell? ⟨b,5,none⟩=some a5/\w.cell? ⟨b,6,none⟩=some a6/\w.cell? ⟨b,7,none⟩=some a7/\w.cell? ⟨b,8,none⟩=some a8/\w.cell? ⟨b,9,none⟩=some a9:=by
 unfold World.cell?;rw[h];exact⟨rfl,rfl,rfl,rfl,rfl,rfl,rfl,rfl,rfl,rfl⟩
def Au.Af(h:Au S w v qs)(hk:Ac K w w')(hV:∀b,S b->∀c f,K b (.cells c NA f))(hK:∀b,S b->∀c f,K b (.cells c PM f))(hN:∀b,S b->∀c f,K b (.cells c 27 f)):Au S w' v qs:=by
 obtain⟨q,j,y⟩:=h;exact⟨q,Aw.Af j hk hV,y.Af hk hK hN⟩
def Qda{ps:List (Qo × Aa)}{xt:Aa}{cs:Qo}{ce:Int}{ok:Bool}(hcm:Da q=(cs,ce))(hok:ok=false↔(ps.find? fun y=>decide (y.1=cs))=none):
  Cs ps (q,xt)=if ce=0/\ok=false then ps++[(cs,xt)]else ps:=by
 unfold Da at hcm
 unfold Cs
 by_cases j:Xv q=true
 ·rw[Qe j]at hcm;cases hcm;by_cases c:ok=false
  ·rw[Qe ⟨j,hok.1 c⟩,Qe ⟨rfl,c⟩]
  ·rw[Qa fun h=>c (hok.2 h.2),Qa fun h=>c h.2]
 ·rw[Qa j]at hcm;cases hcm;rw[Qa fun h=>j h.1,Qa fun h=>by cases h.1]
def QR:∀(l:List (List Aj × Aa)) (ps:List (Qo × Aa)),(ps.map Prod.fst).Nodup->((l.foldl Cs ps).map Prod.fst).Nodup
 | [],ps,h=>h
 |x::l,ps,h=>by
  refine QR l (Cs ps x) ?_;unfold Cs;split
  ·rename_i c;rw[Hg,List.nodup_append];refine⟨h,sM,fun a ha b hb e=>?_⟩;have hb:b=Xh (Z1 x.1):=by simpa using hb
   rw[e,hb]at ha;obtain⟨y,j,q⟩:=Xq.1 ha
   have:=KR.1 c.2 y j;exact this (Kp q)
  ·exact h
def Qfc(S:Qz)(id:Int)(t:Aa)(l:List (List Aj × Aa))(lv pv:Q0)(w:Qm)(hG:Ah N E w)(hN:N<=w.heap.size)(ho:t.hd.ok)(hr:Ad S w t.l lv)(hS:∀k,w.heap.size<=k->S k)
  (h40:Zh t)(hdep:t.depth<=900000)(hbad:R7 t=false):Calls prog 16 #[Qu t.hd lv,.int .i64 id,pv] w (FQ S (XK Ky t id l) w):=by
 have b:XK Ky t id l=(.node (Qh 0) [],161):=by unfold XK;rw[Qe hbad]
 rw[b]
 have j:=fun W (hk:Qd w W)=>O7 t S lv W (hG.same hk) oM ho (hr.same hk) (fun k h=>hS k (Qj hk.size h)) h40
 rw[hbad]at j
 obtain⟨a,y,rfl⟩:=hr.Ab
 refine IY ?_
 intro n hn h hh
 rw[hn,hh]at j|-
 have z:((w.alloc (.cells (nR h (.slice a n y)) 27)).alloc (.cells zR 27)).heap[w.heap.size+1]? =some (.cells zR 27 (0,0)):=Ql sM
 unfold FQ
 refine UH ?_
 clear hr b hbad hn hh
 go_in
 go_wp2_with fail
 refine(j _ Xd).mono ?_
 rintro e d ⟨rfl,u⟩
 have v:Qd w d:=Xd
 have q:=u.s z
 have x:=Qi q
 have f:=Jd q
 go_wp2_with fail
 obtain⟨c,m⟩:=FN q 0 0 0 (.slice none 0 0)
 refine Xs (F1 rfl _ _ (w.heap.size+1) (Qh 0) (.slice none 0 0) (i6 161) rfl rfl c) rfl ⟨_,rfl,K1 0 dM,Ad.nil _ _,Xt v m oM⟩
def Qf8{P Q:Prop}(h:Q)(f:Wz Q->P:=by
 intro zz;iterate 2 (refine K6 rfl rfl ?_;intro K hK w' hs;obtain⟨p0,p1⟩:=Yy hs.1;obtain⟨r0,r1,r2,r3,r4,r5,r6,r7,r8⟩:=Qi hs.2;go_simp;refine hK _ _ ?_;clear hK K p0 p1 r0 r1 r2 r3 r4 r5 r6 r7 r8 hs w')
 exact zz.o):P:=f ⟨h⟩
def Qdb(S:Qz)(id:Int)(hid:1<=id/\id<=4)(t:Aa)(l:List (List Aj × Aa))(lv pv:Q0)(w:Qm)(hG:Ah N E w)(hN:N<=w.heap.size)(ho:t.hd.ok)(hr:Ad S w t.l lv)(hS:∀k,w.heap.size<=k->S k)
  (hp:Au S w pv l)(h40:Zh t)(hdep:t.depth<=900000)(hll:l.length<=1000000)(hl40:∀x∈l,Zh x.2/\x.2.depth<=1000000000)(hlp:∀x∈l,x.1.length<=1000000/\∀s∈x.1,s.key.size<=1000000/\ -9223372036854775808<=s.index/\s.index<=9223372036854775807)
  (hgood:R7 t=true):Calls prog 16 #[Qu t.hd lv,.int .i64 id,pv] w (FQ S (XK Ky t id l) w):=by
 have hM:XK Ky t id l=OK id (Ge Ky id (BQ (Ns l)) t []):=by
  unfold XK;rw[Qa (by rw[hgood];decide),Qfa];rfl
 obtain⟨b3,_⟩:=Qe8 hgood
 have b1:=fun(W:Qm) (hk:Qd w W)=>O7 (N:=N) (E:=E) t S lv W (hG.same hk) oM ho (hr.same hk) (fun k h=>hS k (Qj hk.size h)) h40
 rw[hgood]at b1
 have c2:∀k,w.heap.size+2<=k->S k/\k≠w.heap.size+1:=fun k h=>⟨hS k oM,oM⟩
 have be:=fun(W:Qm) (hk:Qd w W) (hz:w.heap.size+2<=W.heap.size)=>R8 t h40 (fun b=>S b/\b≠w.heap.size+1) lv W ho ((hr.mono fun b hb h=>(⟨h,oM⟩:S b/\b≠w.heap.size+1)).same hk) (fun k h=>c2 k oM)
 have ab:=Qfb (N:=N) (E:=E) id hid (Ns l) (fun y hy=>by
  obtain⟨x,hx,e⟩:=gH hy;rw[e];exact hl40 x hx) (QR l [] sM) t [] b3 h40 (fun s hs=>by cases hs) (by have:=b3.deep;simp;omega)
 obtain⟨d3,f7⟩:=JZ (X:=Ky) (id:=id) (own:=BQ (Ns l)) (fun q t' ht=>by
  obtain⟨y,hy,rfl⟩:=qX ht;obtain⟨x,hx,e⟩:=gH hy;rw[e];exact(hl40 x hx).1) t [] b3.own h40
 have gd:=b3.deep
 obtain⟨PT,de⟩:∃x,Ge Ky id (BQ (Ns l)) t []=x:=⟨_,rfl⟩
 unfold qN at ab
 rw[de]at hM ab f7
 rw[hM]
 have a8:=fun(W:Qm) v (hk:Qd w W) (hv:Ad (fun b=>S b/\b≠w.heap.size+1) W PT.l v) (hok:PT.hd.ok)=>WR (N:=N) (E:=E) (fun b=>S b/\b≠w.heap.size+1) id PT v W (hG.same hk) oM hv hok
 obtain⟨R,hR⟩:=X0 (OK id PT)
 rw[hR]at a8|-
 unfold J1 at be ab
 unfold FQ at a8|-
 obtain⟨a,bd,rfl⟩:=hr.Ab
 have d2:Au (fun b=>S b/\b≠w.heap.size+1) w pv l:=hp.mono fun b hb h=>⟨h,oM⟩
 have d9:∃qa qc,pv=.slice qa l.length qc:=by
  obtain⟨xs,h1,_⟩:=hp;obtain⟨qa,qc,e,_⟩:=h1.Ab;exact⟨qa,qc,e⟩
 obtain⟨qa,qc,rfl⟩:=d9
 refine IY ?_
 intro n hn h hh
 obtain⟨LN,b0⟩:∃n,l.length=n:=⟨_,rfl⟩
 rw[hn,hh]at b1 be
 rw[hh]at ab
 rw[hn,hh,b0]
 rw[b0]at d2 hll
 have df:((w.alloc (.cells #[.int .i64 h.kind,.bool h.b,.bool h.d.neg,.string h.d.digits,.int .i64 h.d.exp,.int .u64 (h.u:Int),.int .i64 h.w,.string h.s,.slice a n bd] 27)).alloc (.cells #[.int .i64 0,.bool false,.bool false,.string ⟨#[]⟩,.int .i64 0,.int .u64 0,.int .i64 0,.string ⟨#[]⟩,.slice none 0 0] 27)).heap[w.heap.size]? =some (.cells #[.int .i64 h.kind,.bool h.b,.bool h.d.neg,.string h.d.digits,.int .i64 h.d.exp,.int .u64 (h.u:Int),.int .i64 h.w,.string h.s,.slice a n bd] 27 (0,0)):=Qb (Ql sM)
 have da:((w.alloc (.cells #[.int .i64 h.kind,.bool h.b,.bool h.d.neg,.string h.d.digits,.int .i64 h.d.exp,.int .u64 (h.u:Int),.int .i64 h.w,.string h.s,.slice a n bd] 27)).alloc (.cells #[.int .i64 0,.bool false,.bool false,.string ⟨#[]⟩,.int .i64 0,.int .u64 0,.int .i64 0,.string ⟨#[]⟩,.slice none 0 0] 27)).heap[w.heap.size+1]? =some (.cells #[.int .i64 0,.bool false,.bool false,.string ⟨#[]⟩,.int .i64 0,.int .u64 0,.int .i64 0,.string ⟨#[]⟩,.slice none 0 0] 27 (0,0)):=Ql sM
 have HN:=Qc hn
 have HH:=Qc hh
 have db:=Qc b0
 have bb:=fun x (hx:x∈l)=>hlp x hx
 clear hr hM hgood hn hh hR de hp b0 h40 d3 hlp
 go_in
 go_wp2_with fail
 refine(b1 _ Xd).mono ?_
 rintro e w1 ⟨rfl,ch⟩
 have b9:Qd w w1:=Xd
 have fa:=ch.same _ _ df trivial
 have bf:=ch.same _ _ da trivial
 clear b1 ch df da
 go_upto_region 4 with fail
 rw[Mg]
 go_upto_region 4 with fail
 obtain⟨rr,dc⟩:∃x,w1.heap.size=x:=⟨_,rfl⟩
 have g0:w.heap.size+2<=w1.heap.size:=Qg bf
 have ac:Qd w1 ((w1.alloc (.map #[] 0)).alloc (.cells #[.int .i64 id,.map (some w1.heap.size)] 73)):=((Ac.refl _ _).alloc _).alloc _
 have b2:As (fun b=>S b/\b≠w.heap.size+1) ((w1.alloc (.map #[] 0)).alloc (.cells #[.int .i64 id,.map (some w1.heap.size)] 73)) w1.heap.size []:=As.new (Qb (Qt w1 _))
 have a3:((w1.alloc (.map #[] 0)).alloc (.cells #[.int .i64 id,.map (some w1.heap.size)] 73)).heap[w1.heap.size+1]? =some (.cells #[.int .i64 id,.map (some w1.heap.size)] 73 (0,0)):=Ql sM
 generalize((w1.alloc (.map #[] 0)).alloc (.cells #[.int .i64 id,.map (some w1.heap.size)] 73))=w3 at ac b2 a3|-
 rw[dc]at b2 a3 g0|-
 clear dc
 have a0:=b9.trans ac
 have d0:=ac.same _ _ fa trivial
 have d1:=ac.same _ _ bf trivial
 have dd:=d2.same a0
 have gc:rr+2<=w3.heap.size:=Qg a3
 clear fa bf ac b9 d2
 go_wp2_with fail
 go_loopw [25] (fun iv wr=>∃i:Nat,i<=LN/\iv=.int .i64 (i:Int)/\As (fun b=>S b/\b≠w.heap.size+1) wr rr (Ns (l.take i))/\Ac (fun b _=>b≠rr) w3 wr/\Ac (fun _ o=>o.isCells=true) w3 wr) (fun iv _=>LN-(RowKit.intOf iv).toNat)
 case atStart=>exact⟨0,Xi _,rfl,b2,Ac.refl _ _,Ac.refl _ _⟩
 case round=>
  obtain⟨i,ad,rfl,a2,m,b6⟩:=hrel;have f:Qd w wr:=⟨m.os.trans a0.os,m.tape.trans a0.tape,m.output.trans a0.output,Qj a0.size m.size,fun b o hb _=>m.same b o (a0.same b o hb trivial) (Ku hb)⟩;by_cases fb:i<LN
  ·have b7:i<l.length:=by rw[db.out];exact fb
   have cg:Ns (l.take (i+1))=Cs (Ns (l.take i)) l[i]:=by rw[Gl b7,vT]
   obtain⟨b,ge,gf,ga,e9,g8,z,b5,d5,b8⟩:=Au.get (dd.Af b6 (fun _ _ _ _=>rfl) (fun _ _ _ _=>rfl) fun _ _ _ _=>rfl) i b7;obtain⟨⟨q,xt⟩,f4⟩:∃x,l[i]=x:=⟨_,rfl⟩;obtain⟨cf,d6⟩:=bb l[i] (Zp b7);have af:=(hl40 l[i] (Zp b7)).1;rw[f4]at z b5 d5 b8 cg cf d6 af;simp only at z b5 d5 b8 cf d6 af;subst e9;obtain⟨pa,pc,rfl,g9⟩:=b5.Ab;obtain⟨xa,xc,rfl⟩:=b8.Ab;have c3:=fun(W:Qm) (hk:Qd wr W)=>OR (N:=N) (E:=E) _ q (.slice pa q.length pc) W (hG.same (f.trans hk)) (Aw.same b5 hk) d6 cf
   have c4:=fun(W:Qm) (hk:Qd wr W)=>R8 xt af (fun b=>S b/\b≠w.heap.size+1) (.slice xa xt.l.length xc) W d5 (b8.same hk) (fun k h=>c2 k (by have:=f.size;have:=hk.size;have:=m.size;omega))
   unfold J1 at c4;obtain⟨xh,ah⟩:∃x,xt.hd=x:=⟨_,rfl⟩;obtain⟨xn,cd⟩:∃x,xt.l.length=x:=⟨_,rfl⟩;obtain⟨qn,f1⟩:∃x,q.length=x:=⟨_,rfl⟩;rw[ah,cd]at c4;rw[f1,cd,ah]at z;rw[f1]at c3;have g7:(i:Int)< (LN:Int):=oM;have k0:=z 0 _ rfl;have k1:=z 1 _ rfl;have k2:=z 2 _ rfl;have k3:=z 3 _ rfl;have k4:=z 4 _ rfl;have k5:=z 5 _ rfl;have k6:=z 6 _ rfl;have k7:=z 7 _ rfl;have k8:=z 8 _ rfl;have k9:=z 9 _ rfl;simp only[Yf]at k0;have c8:=m.same _ _ a3 oM;have g2:=Qc cg;clear cg z f4;go_upto_region 8 with(go_at_call 49;refine(c3 _ ((Ac.refl _ _).alloc _)).mono ?_;rintro e w5 ⟨rfl,a4⟩);have p:Qd wr w5:=((Ac.refl _ wr).alloc _).trans a4;have f2:=a4.same _ _ (Qt wr (.cells #[.slice pa qn pc,.int .i64 xh.kind,.bool xh.b,.bool xh.d.neg,.string xh.d.digits,.int .i64 xh.d.exp,.int .u64 (xh.u:Int),.int .i64 xh.w,.string xh.s,.slice xa xn xc] 53)) trivial;have bg:=p.same _ _ c8 trivial;have f0:=a2.same p;have fe:rr+2<=wr.heap.size:=Qg c8;have dh:∃(yt:Aa) (yv:Q0) (ok:Bool),(Instr.lookup JC (.map (some rr)) (.string (Da q).1) true).run prog w5=.ok (.tuple #[Qu yt.hd yv,.bool ok]) w5/\Ad (fun b=>S b/\b≠w.heap.size+1) w5 yt.l yv/\(ok=false↔((Ns (l.take i)).find? fun y=>decide (y.1=(Da q).1))=none):=by
    by_cases ad:(Da q).1∈(Ns (l.take i)).map Prod.fst
    ·obtain⟨j,hj,yv,h1,h2,h3,h4⟩:=f0.lookup ad;refine⟨_,yv,true,h1,h4,?_⟩;constructor
     ·intro e;cases e
     ·intro e;exact absurd ad (NE.1 e)
    ·exact⟨.node (Qh 0) [],.slice none 0 0,false,f0.AJ ad,Ad.nil _ _,fun _=>NE.2 ad,fun _=>rfl⟩
   obtain⟨yt,yv,ok,ag,fg,hok⟩:=dh;obtain⟨ya,yc,rfl⟩:=fg.Ab;obtain⟨⟨cs,ce⟩,cb⟩:∃c,Da q=c:=⟨_,rfl⟩;rw[cb]at ag hok|-;simp only at ag hok|-;have a6:=Qda (xt:=xt) cb hok;rw[<-g2.out]at a6;obtain⟨yn,f3⟩:∃n,yt.l.length=n:=⟨_,rfl⟩;rw[f3]at ag;have aa:=Qc a6;obtain⟨e0,e1⟩:=Yy bg;clear f3 a6 cb c3 k0 k1 k2 k3 k4 k5 k6 k7 k8 k9 a4 c8;have a1:=p.alloc (.cells #[.int .i64 yt.hd.kind,.bool yt.hd.b,.bool yt.hd.d.neg,.string yt.hd.d.digits,.int .i64 yt.hd.d.exp,.int .u64 (yt.hd.u:Int),.int .i64 yt.hd.w,.string yt.hd.s,.slice ya yn yc] 27);by_cases bh:ce=0
   ·subst bh;cases ok with
    |true=>
     go_wp2_with fail;refine⟨⟨i+1,oM,by push_cast;rfl,?_,m.trans (Ac.of_same a1),b6.trans (Ac.of_same a1)⟩,by simp[RowKit.intOf];omega⟩;rw[aa.out,Qa (fun h=>by cases h.2)];exact a2.same a1
    |false=>
     go_upto_region 10 with fail;generalize d8:(w5.alloc (.cells #[.int .i64 yt.hd.kind,.bool yt.hd.b,.bool yt.hd.d.neg,.string yt.hd.d.digits,.int .i64 yt.hd.d.exp,.int .u64 (yt.hd.u:Int),.int .i64 yt.hd.w,.string yt.hd.s,.slice ya yn yc] 27))=w6 at a1|-;have bc:Qd w5 w6:=by rw[<-d8];exact(Ac.refl _ _).alloc _
     have d4:=bc.same _ _ f2 trivial;have d7:=bc.same _ _ bg trivial;clear d8 e0 e1 f2 bg ag;obtain⟨e0,e1⟩:=Yy d7;obtain⟨x0,x1,x2,x3,x4,x5,x6,x7,x8,x9⟩:=gL d4;refine(Vd (n:=0)).1 ?_;refine KC (n:=0) (And.intro d7 d4) ?_;simp only[Vz];iterate 5 (refine K6 rfl rfl ?_;intro K hK w' hs;obtain⟨p0,p1⟩:=Yy hs.1;obtain⟨r0,r1,r2,r3,r4,r5,r6,r7,r8,r9⟩:=gL hs.2;go_simp;refine hK _ _ ?_;clear hK K p0 p1 r0 r1 r2 r3 r4 r5 r6 r7 r8 r9 hs w')
     refine Kd rfl rfl ?_;intro K hK;go_simp;refine(Qr (c4 w6.drew (a1.trans (Ac.refl _ _).drew))).mono ?_;rintro e w7 ⟨cv,rfl,f6,g6,c6⟩;obtain⟨ca,cc,rfl⟩:=f6.Ab;have ae:Qd w6 w7:=((Ac.refl _ w6).drew).trans c6;have r:=a1.trans ae;refine hK _ _ ⟨ae.same _ _ d7 trivial,ae.same _ _ d4 trivial⟩ ?_;clear hK K;refine BD (G5 rfl ?_);obtain⟨w8,ba,ff,g4,f5⟩:=(a2.same r).update (s:=cs) (by
      refine NE.1 (hok.1 rfl)) (by rw[ah];exact g6) f6
     rw[ah]at ba;rw[cd]at ba|-;go_simp;go_wp2;refine⟨⟨i+1,oM,by push_cast;rfl,?_,(m.trans (Ac.of_same r)).trans g4,(b6.trans (Ac.of_same r)).trans f5⟩,by simp[RowKit.intOf];omega⟩;rw[aa.out,Qe ⟨rfl,rfl⟩];exact ff
   ·have gb:(ce==0)=false:=by simpa using bh
    go_wp2_with fail;refine⟨⟨i+1,oM,by push_cast;rfl,?_,m.trans (Ac.of_same a1),b6.trans (Ac.of_same a1)⟩,by simp[RowKit.intOf];omega⟩;rw[aa.out,Qa (fun h=>bh h.1)];exact a2.same a1
  ·obtain rfl:i=LN:=oM;rw[<-db.out,Vc]at a2;have c0:=m.same _ _ d0 (Ku d0);have c1:=m.same _ _ d1 oM;have ce:=m.same _ _ a3 oM;have fe:rr+2<=wr.heap.size:=Qg ce;clear b2 dd d0 d1 a3 bb hl40;go_wp2_with fail;refine EA ?_;refine KC (n:=0) (And.intro ce c0) ?_;simp only[Vz];obtain⟨e0,e1⟩:=Yy ce;obtain⟨n0,n1,n2,n3,n4,n5,n6,n7,n8⟩:=Qi c0;refine Qf8 ?_;refine Qf8 ?_;refine Vr ?_;intro K hK;refine(Qr (be wr.drew (f.trans (Ac.refl _ _).drew) (by show _<=wr.heap.size;omega))).mono ?_;rintro e w5 ⟨v5,rfl,c9,g5,a4⟩;obtain⟨a5,c5,rfl⟩:=c9.Ab;rw[HN.out]at c9|-;have p:Qd wr w5:=((Ac.refl _ wr).drew).trans a4;refine hK _ _ ⟨p.same _ _ ce trivial,p.same _ _ c0 trivial⟩ ?_;clear hK K;refine Vr ?_;intro K hK;refine(Qr (ab (fun b=>S b/\b≠w.heap.size+1) (.slice a5 n c5) (.slice none 0 0) rr w5 (hG.same (f.trans p)) (Qj hN (f.trans p).size) g5 c9 (fun k h=>c2 k (by have:=p.size;omega)) (Aw.nil _ _ _ _) (a2.same p))).mono ?_;rintro e w6 ⟨v6,rfl,g3,fh,fc⟩;have b4:=p.trans fc;refine hK _ _ ⟨b4.same _ _ ce trivial,b4.same _ _ c0 trivial⟩ ?_;clear hK K;refine Vr ?_;intro K hK;refine(Qr (a8 w6 v6 (f.trans b4) g3 fh)).mono ?_;rintro e w7 ⟨v7,rfl,fd,f9,c6⟩;obtain⟨a7,c7,rfl⟩:=f9.Ab;have r:=b4.trans c6;refine hK _ _ ⟨r.same _ _ ce trivial,r.same _ _ c0 trivial⟩ ?_;clear hK K e0 e1 n0 n1 n2 n3 n4 n5 n6 n7 n8;refine K6 rfl rfl ?_;intro K hK w' hs;go_simp;refine hK _ _ ?_;clear hK K hs w';refine K6 rfl rfl ?_;intro K hK w' hs;go_simp;refine hK _ _ ?_;clear hK K hs w';have g1:=r.same _ _ c1 trivial;obtain⟨z0,z1,z2,z3,z4,z5,z6,z7,z8⟩:=Qi g1;have gg:∀j,w7.frozen? ⟨w.heap.size+1,j,none⟩=false:=Je g1;refine Vr ?_;intro K hK;obtain⟨h9,a9⟩:=FM g1 (.int .i64 R.1.hd.kind) (.bool R.1.hd.b) (.bool R.1.hd.d.neg) (.string R.1.hd.d.digits) (.int .i64 R.1.hd.d.exp) (.int .u64 (R.1.hd.u:Int)) (.int .i64 R.1.hd.w) (.string R.1.hd.s) (.slice a7 R.1.l.length c7);generalize World.setCell (World.setCell _ _ _) _ (.slice a7 R.1.l.length c7)=w9 at h9 a9|-;refine hK _ _ ⟨a9.same _ _ (r.same _ _ ce trivial) oM,a9.same _ _ (r.same _ _ c0 trivial) oM⟩ ?_;clear hK K;refine DA ?_;go_simp;have dg:=Xt (f.trans r) a9 oM;go_wp2;refine Xs (F1 rfl _ _ (w.heap.size+1) R.1.hd (.slice a7 R.1.l.length c7) (.int .i64 R.2) rfl rfl h9) rfl ⟨_,rfl,fd,(f9.Af a9 fun b hb _ _=>hb.2).mono fun b _ hb=>hb.1,dg⟩
def mW(S:Qz)(id:Int)(hid:1<=id/\id<=4)(t:Aa)(l:List (List Aj × Aa))(lv pv:Q0)(w:Qm)(hG:Ah N E w)(hN:N<=w.heap.size)(ho:t.hd.ok)(hr:Ad S w t.l lv)(hS:∀k,w.heap.size<=k->S k)
  (hp:Au S w pv l)(h40:Zh t)(hdep:t.depth<=900000)(hll:l.length<=1000000)(hl40:∀x∈l,Zh x.2/\x.2.depth<=1000000000)(hlp:∀x∈l,x.1.length<=1000000/\∀s∈x.1,s.key.size<=1000000/\ -9223372036854775808<=s.index/\s.index<=9223372036854775807):
  Calls prog 16 #[Qu t.hd lv,.int .i64 id,pv] w (FQ S (XK Ky t id l) w):=by
 cases hg:R7 t with
 |true=>exact Qdb S id hid t l lv pv w hG hN ho hr hS hp h40 hdep hll hl40 hlp hg
 |false=>
  obtain⟨a,c,rfl⟩:=hp.Ab;exact Qfc S id t l lv _ w hG hN ho hr hS h40 hdep hg
def Qfd(h:Xc t=true)(h3:t.hd.kind=3):Q2 t.hd.d=true:=by
 have e:Xc t=(Zr t {Qh 3 with d:=t.hd.d}&&Q2 t.hd.d):=by
  unfold Xc;simp only[h3];rfl
 rw[e,X1]at h;exact h.2
def vV(h:Xv p=true):∀s∈p,s.key.size<=1099511627776:=fun s j=>by
 unfold Xv at h;rw[X1,Vf]at h
 have:=h.2 s j;unfold X5 at this;simp only[Y2,X1,Zz]at this;rcases this with⟨e,_⟩| ⟨⟨_,e⟩,_⟩
 ·rw[e];decide
 ·omega
def Qf9{P Q:Prop}(h:Q)(f:Wz Q->P:=by
 intro zz;have hM:=Qcg hgood hun;rw[hM];have hsit:=pU hc hgood fun e=>by cases hs:Kz t with|true=>rfl|false=>exact absurd ⟨e,hs⟩ hun
 have hg40:=lC Ky t id h40;have hS0:∀k,w.heap.size+1<=k->S k/\k≠w.heap.size:=fun k h=>⟨hS k oM,oM⟩
 have hr0:Ad (fun b=>S b/\b≠w.heap.size) w t.l lv:=hr.mono fun b hb h=>⟨h,oM⟩
 have hCO:=fun W (hk:Qd w W) (hz:w.heap.size+1<=W.heap.size)=>DF DL t id (fun b=>S b/\b≠w.heap.size) lv W (hG.same hk) (Qj hN hk.size) oM ho (hr0.same hk) (fun k h=>hS0 k (Qj hz h)) h40 (fun h=>La h)
 revert hM hsit hg40 hS0 hr0 hCO;exact zz.o):P:=f ⟨h⟩
def Qdc{P Q:Prop}(h:Q)(f:Wz Q->P:=by
 intro zz;have hCL:=fun W (hk:Qd w W) (hz:w.heap.size+1<=W.heap.size)=>R8 t h40 (fun b=>S b/\b≠w.heap.size) lv W ho (hr0.same hk) fun k h=>hS0 k (Qj hz h)
 obtain⟨⟨G,q⟩,hg⟩:∃r,Q8 Ky t id=r:=⟨_,rfl⟩;revert hCL G q hg;exact zz.o):P:=f ⟨h⟩
def Qga{P Q:Prop}(h:Q)(f:Wz Q->P:=by
 intro zz;rw[hn,hh];rw[hL];have hb0:((w.alloc (.cells (nR h (.slice a n cap)) 27)).alloc (.cells #[i6 id] 60)).heap[w.heap.size]? =some (.cells (nR h (.slice a n cap)) 27 (0,0)):=Qb (Ql sM);have hf0:((w.alloc (.cells (nR h (.slice a n cap)) 27)).alloc (.cells #[i6 id] 60)).heap[w.heap.size+1]? =some (.cells #[i6 id] 60 (0,0)):=Ql sM;revert hb0 hf0;exact zz.o):P:=f ⟨h⟩
def Qgb{P Q:Prop}(h:Q)(f:Wz Q->P:=by
 intro zz;rw[hgn.out];have hkw1:Qd w w1:=Xd;have hb1:=hk1.s hb0;have hf1:=hk1.s hf0;have hz1:w.heap.size+2<=w1.heap.size:=Qg hf1;have hb2:=Qb (o:=.cells (nR gh (.slice ga gn gc)) 27) hb1;have hf2:=Qb (o:=.cells (nR gh (.slice ga gn gc)) 27) hf1;have hg2:=Qt w1 (.cells (nR gh (.slice ga gn gc)) 27);have hk2:=LW w1 (.cells (nR gh (.slice ga gn gc)) 27);have n0:=Qi hb2;revert hkw1 hb1 hf1 hz1 hb2 hf2 hg2 hk2 n0;exact zz.o):P:=f ⟨h⟩
def Qim{P Q:Prop}(h:Q)(f:Wz Q->P:=by
 intro zz;have hf5:=hk5.same _ _ hf4 oM;have hg5:=hk5.same _ _ hg4 oM;have hkw5:=Xt hkw4 hk5 (Q6 _);have hz5:w.heap.size+2<=w5.heap.size:=Qg hf5;have hr5:Ad (fun b=>S b/\b≠w.heap.size) w5 t.l (.slice a5 n c5):=hr4.Af hk5 fun b hb _ _=>hb.2
 have hrg5:Ad (fun b=>S b/\b≠w.heap.size) w5 gl (.slice ga gn gc):=hrg4.Af hk5 fun b hb _ _=>hb.2
 revert hf5 hg5 hkw5 hz5 hr5 hrg5;exact zz.o):P:=f ⟨h⟩
def Qiz{P:Prop}(h:P:=by
 have hkw6:=hkw5.trans hk6;have hz6:w.heap.size+2<=w6.heap.size:=Qg hf6;have hgz:w1.heap.size<w6.heap.size:=Qg hg6;obtain⟨LN,hLN⟩:∃n,L.length=n:=⟨_,rfl⟩;rw[hLN];rw[hLN]at hp6;have HLN:=Qc hLN;have hLlen2:LN<=1000000:=by rw[<-hLN];exact hLlen
 clear hLN;clear hPA g0 hk6 hb5 hf5 hg5 hr5 hrg5 hkw5 hz5;go_wp2_with fail;go_loopw [9,43] (fun v iv wr=>∃i:Nat,i<=LN/\iv=i6 (i:Int)/\AV (fun b=>S b/\b≠w.heap.size) wr w6.heap.size v (V7 id t (.node gh gl) i)/\Qd w6 wr) (fun _ iv _=>LN-(RowKit.intOf iv).toNat)
 case atStart=>exact⟨0,Xi _,rfl,AV.nil _ _ _,Ac.refl _ _⟩
 case round=>
  obtain⟨i,hin,rfl,hown,hsm⟩:=hrel;obtain⟨wo,hwo⟩:∃W,W=wr:=⟨wr,rfl⟩;subst hwo;have hpl:=fQ (id:=id) (n:=t) (g:=.node gh gl) i;obtain⟨va,vc,rfl⟩:=hown.Ab;have hplb:(V7 id t (.node gh gl) i).length<=1000000:=Qj hpl oM;by_cases hlt:i<LN
  ·have hiL:i<L.length:=by rw[HLN.out];exact hlt
   obtain⟨hpr,c,hgo⟩:=hpth (L[i]) (Zp hiL);have hnx:V7 id t (.node gh gl) (i+1)=V7 id t (.node gh gl) i++(QE id t (.node gh gl) L[i]).toList:=by
    rw[HJ (by rw[hL.out];exact hiL)];simp only[hL.out]
   have hfind:D8 (.node gh gl) L[i]=some c:=pT hpr hgo;obtain⟨b,off,px,e9,hSb,hrp,hps⟩:=AG.get (hp6.same hsm) i hiL;generalize hp:L[i]=p at hpr hgo hnx hfind hps;subst e9;obtain⟨pa,pc,rfl,hpc⟩:=hps.Ab;obtain⟨PN,hPN⟩:∃n,p.length=n:=⟨_,rfl⟩;rw[hPN]at hrp;have hpsN:At (fun b=>S b/\b≠w.heap.size) wo (.slice pa PN pc) p:=by rw[<-hPN];exact hps
   have k0:wo.cell? (ad b (off+i))=some (.slice pa PN pc):=hrp 0 _ rfl;have hbr:=hsm.s hb6;have hq0:=Qt wo (.cells (nR h (.slice a5 n c5)) 27);have hkq:=LW wo (.cells (nR h (.slice a5 n c5)) 27);have hrq:Ad (fun b=>(S b/\b≠w.heap.size)/\b≠wo.heap.size) (wo.alloc (.cells (nR h (.slice a5 n c5)) 27)) t.l (.slice a5 n c5):=(hr6.mono (S':=fun b=>(S b/\b≠w.heap.size)/\b≠wo.heap.size) fun b hb h=>⟨h,by have:=hsm.size;omega⟩).same (hsm.trans hkq);have hPNl:PN<=16:=by
    unfold Xv at hpr;rw[X1,Zz]at hpr;omega
   have HPN:=Qc hPN;have HNX:=Qc hnx;have HFI:=Qc hfind;have HGO:=Qc hgo;have HPR:=Qc hpr;have hltb:(i:Int)< (LN:Int):=oM;have n0:=Qi hbr;clear hnx hfind hgo hpr hp hPN hrp hbr hpl;go_wp2_with fail;go_loopw [50] (fun jv w2=>∃(j:Nat) (x:Aa) (xa:Jr) (xc:Nat),jv=i6 (j:Int)/\j<=PN/\(p.take j).foldl Kq t=x/\w2.heap[wo.heap.size]? =some (.cells (nR x.hd (.slice xa x.l.length xc)) 27 (0,0))/\x.hd.ok/\Ad (fun b=>(S b/\b≠w.heap.size)/\b≠wo.heap.size) w2 x.l (.slice xa x.l.length xc)/\Qd wo w2) (fun jv _=>PN-(RowKit.intOf jv).toNat)
   case atStart=>exact⟨0,t,a5,c5,rfl,Xi _,rfl,by rw[hh.out,hn.out];exact hq0,by rw[hh.out];exact ho4h,by rw[hn.out];exact hrq,hkq⟩
   case round=>
    obtain⟨j,x,xa,xc,rfl,hj,hx,hxb,hxo,hxr,hsx⟩:=hrel;have hzx:wo.heap.size<_:=Qg hxb;have hS1:∀k,wo.heap.size+1<=k->(S k/\k≠w.heap.size)/\k≠wo.heap.size:=fun k h=>⟨hS0 k (by have:=hsm.size;omega),oM⟩
    by_cases hjl:j<PN
    ·have hjp:j<p.length:=by rw[HPN.out];exact hjl
     obtain⟨d',hs1,hs2⟩:=QB hsit HGO.out j hjp;rw[hx]at hs1 hs2;have hRd:∀y∈(Q3 x).l,y.depth<=1000000:=fun y hy=>by
      have e1:=Co hy;have e2:=(Vi x (BJ Ky x hs1.own).1).1;have e3:=hs1.fine.2.1;omega
     have hps2:=hps.same hsx;obtain⟨sb,soff,e9,_,hsbl,hrs⟩:=At.get hps2 j hjp;have hnx:(p.take (j+1)).foldl Kq t=Kq x p[j]:=by
      rw[Gl hjp,O5,hx];rfl
     generalize hst:p[j]=st at hs2 hrs hnx;subst e9;have k0:=hrs 0 (i6 st.index) rfl;have k1:=hrs 1 (.string st.key) rfl;rw[Yf]at k0;have hcall:=fun W (hk:Qd _ W)=>vN (fun b=>(S b/\b≠w.heap.size)/\b≠wo.heap.size) x st (.slice xa x.l.length xc) W (hG.same (((hkw6.trans hsm).trans hsx).trans hk)) (Qj hN (((hkw6.trans hsm).trans hsx).trans hk).size) hxo (hxr.same hk) hs1.own (fun k h=>hS1 k (by have:=hk.size;omega)) hs2 hRd
     unfold J1 at hcall;generalize hR:Kq x st=R at hcall hnx;have HNX2:=Qc hnx;have m0:=Qi (Qb (o:=.cells #[i6 st.index,.string st.key] 62) hxb);have hjlb:(j:Int)< (PN:Int):=oM;clear hnx hR hst hs1 hs2 hRd hx hrs n0 hps2;go_wp2_with fail;refine(hcall _ Xd).mono ?_;rintro e w3 ⟨v3,rfl,hr3,ho3,hk3⟩;have hk23:Qd _ w3:=Ac.trans ((Ac.refl _ _).alloc _) hk3;have hb3:=hk23.s hxb;obtain⟨a3,c3,rfl⟩:=hr3.Ab;have z0:=Qi hb3;have hfz:=Jd hb3;clear m0 hcall k0 k1 hk3;go_upto_region 17 with fail;obtain⟨h9,hk9⟩:=Yw hb3 R.hd (.slice a3 R.l.length c3);generalize World.setCell (World.setCell _ _ _) _ (.slice a3 R.l.length c3)=w9 at h9 hk9|-;have hsx9:Qd wo w9:=Xt (hsx.trans hk23) hk9 (Q6 _);have hr9:=hr3.Af hk9 fun b hb _ _=>hb.2
     clear z0 hfz;go_wp2_with fail;go_roundw
     case rel=>exact⟨j+1,R,a3,c3,by go_num,oM,HNX2.out,h9,ho3,hr9,hsx9⟩
     case measure=>simp[RowKit.intOf];omega
    ·have hjN:j=PN:=oM;subst hjN;have hx2:p.foldl Kq t=x:=by rw[<-hx,Nd (by rw[HPN.out];exact Q6 _)]
     have hs6:=hsm.trans hsx;have hkwr:=hkw6.trans hs6;have hg9:=hs6.s hg6;have hf9:=hs6.s hf6;have hrg9:Ad (fun b=>(S b/\b≠w.heap.size)/\b≠wo.heap.size) wr gl (.slice ga gn gc):=(hrg6.mono (S':=(fun b=>(S b/\b≠w.heap.size)/\b≠wo.heap.size)) fun b hb h=>⟨h,by have:=hsm.size;omega⟩).same hs6;have hsx1:AX Ky id x c:=by rw[<-hx2];exact QA p t _ c hsit HGO.out
     have hxm:x∈t.flat:=by
      have:=fP hsit HGO.out p.length (Q6 _);rwa [Vc,hx2]at this
     have hx40:Zh x:=fun y hy=>h40 y ((Vi t hxm).2.2 y hy)
     have hown1:=hsx1.own;have hcown:CF c:=hsx1.right.1;have hc40:Zh c:=fun y hy=>hg40 y ((Vi _ (qO p _ c HGO.out)).2.2 y hy)
     obtain⟨hpo,hp40⟩:=JV id c hcown hc40;have hSk:∀W:Qm,Qd wr W->∀k,W.heap.size<=k->(S k/\k≠w.heap.size)/\k≠wo.heap.size:=fun W hk k h=>hS1 k (by have:=hk.size;omega)
     have hFN:=fun W (hk:Qd wr W)=>Qbp (fun b=>(S b/\b≠w.heap.size)/\b≠wo.heap.size) (.node gh gl) (.slice ga gn gc) (.slice pa j pc) p W (hG.same (hkwr.trans hk)) ho1 (hrg9.same hk) (hSk W hk) hg40 (Aw.mono (Aw.same hpsN (hsx.trans hk)) fun _ _ _=>trivial) (vV HPR.out) (by rw[HPN.out];omega)
     unfold qJ at hFN;rw[HFI.out]at hFN;simp only[Option.getD_some,Option.isSome_some,Aa.Ae]at hFN;have hSHx:=fun W (hk:Qd wr W)=>F2 (fun b=>(S b/\b≠w.heap.size)/\b≠wo.heap.size) x (.slice xa x.l.length xc) W (hG.same (hkwr.trans hk)) (Qj hN (hkwr.trans hk).size) hxo (hxr.same hk) hown1 (hSk W hk) (Qj (ER hown1 hx40).2 dM)
     have hPLA:=fun W (hk:Qd wr W) v (ho:c.hd.ok) (hv:Ad (fun b=>(S b/\b≠w.heap.size)/\b≠wo.heap.size) W c.l v)=>JU id hid c (fun y hy h3=>Qfd (hcown y hy) h3) hc40 (by have:=hsx1.right.2.1;omega) (fun b=>(S b/\b≠w.heap.size)/\b≠wo.heap.size) v W (hG.same (hkwr.trans hk)) (Qj hN (hkwr.trans hk).size) ho hv (hSk W hk)
     have hSHp:=fun W (hk:Qd wr W) v (ho:(Zf id c).hd.ok) (hv:Ad (fun b=>(S b/\b≠w.heap.size)/\b≠wo.heap.size) W (Zf id c).l v)=>F2 (fun b=>(S b/\b≠w.heap.size)/\b≠wo.heap.size) (Zf id c) v W (hG.same (hkwr.trans hk)) (Qj hN (hkwr.trans hk).size) ho hv hpo (hSk W hk) (Qj (ER hpo hp40).2 dM)
     have hCLx:=fun W (hk:Qd wr W) v (ho:(Xu x).hd.ok) (hv:Ad (fun b=>(S b/\b≠w.heap.size)/\b≠wo.heap.size) W (Xu x).l v)=>R8 (Xu x) (JY hown1 hx40) (fun b=>(S b/\b≠w.heap.size)/\b≠wo.heap.size) v W ho hv (hSk W hk)
     have hpv:QE id t (.node gh gl) p=if(Xu x).same (Xu (Zf id c))then none else some (p,Xu x):=by
      unfold QE;rw[HFI.out,hx2];rfl
     obtain⟨X,hX⟩:=X0 (Xu x);obtain⟨Y,hY⟩:=X0 (Zf id c);rw[hX]at hSHx hCLx hpv;rw[hY]at hPLA hSHp hpv;generalize hZ:Xu Y=Z at hSHp hpv;have hSM:=fun(W:Qm) v v' (h1:Ad (fun b=>(S b/\b≠w.heap.size)/\b≠wo.heap.size) W X.l v) (h2:Ad (fun b=>(S b/\b≠w.heap.size)/\b≠wo.heap.size) W Z.l v')=>FZ X Z (fun b=>(S b/\b≠w.heap.size)/\b≠wo.heap.size) v v' W h1 h2
     generalize hD:X.same Z=D at hSM hpv;unfold J1 at hSHx hPLA hSHp hCLx;have hnx3:V7 id t (.node gh gl) (i+1)=V7 id t (.node gh gl) i++(if D then none else some (p,X)).toList:=by rw[HNX.out,hpv]
     have HNX3:=Qc hnx3;have g0:=Qi hg9;clear hnx3 hD hZ hY hX hpv hpo hp40 hc40 hcown hown1 hx40 hxm hsx1 hx2 hx hjl n0 k0;go_wp2_with fail;refine(hFN _ Xd).mono ?_;rintro e w8 ⟨v8,rfl,ho8,hr8,hk8⟩;have hkr8:Qd wr w8:=Xd;obtain⟨a8,c8,rfl⟩:=hr8.Ab;have hx8:=hkr8.s hxb;have m0:=Qi (Qb (o:=.cells (nR c.hd (.slice a8 c.l.length c8)) 27) hx8);have h15:=Qt w8 (.cells (nR c.hd (.slice a8 c.l.length c8)) 27);have hk89:=LW w8 (.cells (nR c.hd (.slice a8 c.l.length c8)) 27);clear g0 hFN hk8;go_wp2_with fail;refine(hSHx _ (hkr8.trans hk89)).mono ?_;rintro e w10 ⟨v10,rfl,hr10,ho10,hk10⟩;obtain⟨aX,cX,rfl⟩:=hr10.Ab;have hk8a:=hk89.trans hk10;have h15a:=hk10.s h15;have hkra:=hkr8.trans hk8a;have hfa:=hkra.s hf9;have h15b:=Qb (o:=.cells (nR X.hd (.slice aX X.l.length cX)) 27) h15a;have hfb:=Qb (o:=.cells (nR X.hd (.slice aX X.l.length cX)) 27) hfa;have hxb2:=Qt w10 (.cells (nR X.hd (.slice aX X.l.length cX)) 27);have hkab:=LW w10 (.cells (nR X.hd (.slice aX X.l.length cX)) 27);have hr8b:=(hr8.same hk8a).same hkab;have hr10b:=hr10.same hkab;have hkrb:=hkra.trans hkab;clear m0 hSHx hk89 h15 h15a hfa hr8 hr10;go_wp2_with fail;refine(Vd (n:=0)).1 ?_;refine gR (n:=0) (And.intro hxb2 (And.intro hfb h15b)) ?_;generalize(w10.alloc (.cells (nR X.hd (.slice aX X.l.length cX)) 27))=w11 at hxb2 hfb h15b hkab hr8b hr10b hkrb|-;have n0:=Qi hxb2;have nf:=Q4 hfb;have m0:=Qi h15b;repeat refine sX ?_
     clear n0 nf m0;refine Kd rfl rfl ?_;intro K hK;go_simp;refine(Qr (hPLA _ hkrb.drew _ ho8 (hr8b.same (Ac.refl _ _).drew))).mono ?_;rintro e w12 ⟨v12,rfl,hr12,ho12,hk12⟩;have hk2c:Qd w11 w12:=(Ac.refl _ w11).drew.trans hk12;obtain⟨a12,c12,rfl⟩:=hr12.Ab;refine hK _ _ ⟨hk2c.s hxb2,hk2c.s hfb,hk2c.s h15b⟩ ?_;clear hK K hPLA hk12;refine Kd rfl rfl ?_;intro K hK;go_simp;refine(Qr (hSHp _ (hkrb.trans hk2c) _ ho12 hr12)).mono ?_;rintro e w13 ⟨v13,rfl,hr13,ho13,hk13⟩;have hk2d:=hk2c.trans hk13;obtain⟨a13,c13,rfl⟩:=hr13.Ab;refine hK _ _ ⟨hk2d.s hxb2,hk2d.s hfb,hk2d.s h15b⟩ ?_;clear hK K hSHp;refine Kd rfl rfl ?_;intro K hK;go_simp;refine(Qr (hSM _ _ _ (hr10b.same hk2d) hr13)).mono ?_;rintro e w14 ⟨rfl,hk14⟩;have hk2e:=hk2d.trans hk14;have hxe:=hk2e.s hxb2;refine hK _ _ ⟨hxe,hk2e.s hfb,hk2e.s h15b⟩ ?_;clear hK K hSM hk13 hk14;repeat refine sX ?_
     refine Jc ?_;have hkr14:=hkrb.trans hk2e;have hx14:=hr10b.same hk2e;have h614:=hs6.trans hkr14;cases D with
     |true=>
      have hsn:AV (fun b=>S b/\b≠w.heap.size) w14 w6.heap.size (.slice va (V7 id t (.node gh gl) i).length vc) (V7 id t (.node gh gl) (i+1)):=by
       rw[HNX3.out];simpa using(hown.same hsx).same hkr14
      go_wp2_with fail;go_roundw
      case rel=>exact⟨i+1,oM,by go_num,hsn,h614⟩
      case measure=>simp[RowKit.intOf];omega
     |false=>
      have n0:=Qi hxe;go_wp2_with fail;refine(hCLx _ hkr14 _ ho10 hx14).mono ?_;rintro e w15 ⟨v15,rfl,hr15,ho15,hk15⟩;have hkr15:=hkr14.trans hk15;obtain⟨aY,cY,rfl⟩:=hr15.Ab;have hkA:=LW w15 (.cells #[.slice pa j pc,i6 X.hd.kind,.bool X.hd.b,.bool X.hd.d.neg,.string X.hd.d.digits,i6 X.hd.d.exp,.int .u64 (X.hd.u:Int),i6 X.hd.w,.string X.hd.s,.slice aY X.l.length cY] NA);have h6A:=(hs6.trans hkr15).trans hkA;obtain⟨v9,w17,hrun,hown9,hk17⟩:=Tl (S:=fun b=>S b/\b≠w.heap.size) (b:=w15.heap.size) (w:=w15.alloc (.cells #[.slice pa j pc,i6 X.hd.kind,.bool X.hd.b,.bool X.hd.d.neg,.string X.hd.d.digits,i6 X.hd.d.exp,.int .u64 (X.hd.u:Int),i6 X.hd.w,.string X.hd.s,.slice aY X.l.length cY] NA)) (pv:=.slice pa j pc) (lv:=.slice aY X.l.length cY) 30 p X ((hown.same (hsx.trans hkr15)).same hkA) (Qt _ _) (Aw.same hpsN ((hsx.trans hkr15).trans hkA)) ho15 ((hr15.mono fun b _ h=>h.1).same hkA) oM h6A.size;have hs17:Qd w6 w17:=Ho h6A hk17 fun b o hb=>fun e=>by have:=(hown.AC e).1;have:=Qg hb;omega
      have hsn:AV (fun b=>S b/\b≠w.heap.size) w17 w6.heap.size v9 (V7 id t (.node gh gl) (i+1)):=by
       rw[HNX3.out];simpa using hown9
      clear n0 hxe hCLx;go_wp2_with(at_builtin;refine Ek rfl _ _ rfl rfl rfl hrun ?_);go_roundw
      case rel=>exact⟨i+1,oM,by go_num,hsn,hs17⟩
      case measure=>simp[RowKit.intOf];omega
  ·have hiN:i=LN:=oM;subst hiN;have hfin:=(hown.read (fun b hb=>hS0 b oM) oM).mono (S':=S) fun b _ h=>h.1
   have hLe:V7 id t (.node gh gl) i=V7 id t (.node gh gl) L.length:=by rw[HLN.out]
   have hkf:=hkw6.trans hsm;clear hpl;go_wp2_with fail;go_ret2;refine⟨_,rfl,?_,hkf⟩;rw[<-hLe];exact hfin):P:=h
def Qfe{P:Prop}(h:P:=by
 rw[hL.out]at hPA;simp only[Aa.Ae]at hPA;clear z0 hfz hk5 hkw4 hrg4 hr4 hb4 hf4 hg4 hz4;have g0:=Qi hg5;go_wp2_with fail;refine(hPA _ Xd).mono ?_;rintro e w6 ⟨v6,rfl,hp6,hk6⟩;obtain⟨pa6,pc6,rfl⟩:=hp6.Ab;have hb6:=hk6.s hb5;have hf6:=hk6.s hf5;have hg6:=hk6.s hg5;have hr6:=hr5.same hk6;have hrg6:=hrg5.same hk6;exact Qiz):P:=h
def Qff{P:Prop}(h:P:=by
 have hkw4:Qd w w4:=(hkw1.trans hk2).trans hk4;obtain⟨a5,c5,rfl⟩:=hr4.Ab;rw[hn.out]at hr4|-;have ho4h:h.ok:=by rw[<-hh.out];exact ho
 clear n0 hk4 hk2 hb2 hf2 hg2 hr1 hb1 hf1 hCL;have z0:=Qi hb4;have hfz:=Jd hb4;go_upto_region 8 with fail;obtain⟨hb5,hk5⟩:=Yw hb4 h (.slice a5 n c5);generalize World.setCell (World.setCell _ _ _) _ (.slice a5 n c5)=w5 at hb5 hk5|-;refine Qim ?_;intro hf5 hg5 hkw5 hz5 hr5 hrg5;have hPA:=fun W (hk:Qd w5 W)=>fX (.node gh gl) (fun b=>S b/\b≠w.heap.size) (.slice ga gn gc) W (hG.same (hkw5.trans hk)) (Qj hN (hkw5.trans hk).size) ho1 (hrg5.same hk) hgc fun k h=>hS0 k (by have:=hk.size;omega)
 exact Qfe):P:=h
def qY{P:Prop}(h:P:=by
 rintro e w4 ⟨v4,rfl,hr4,ho4,hk4⟩;have hz4:=hk4.size;have hb4:=hk4.s hb2;have hf4:=hk4.s hf2;have hg4:=hk4.s hg2;have hrg4:=(hr1.same hk2).same hk4;exact Qff):P:=h
def mX(S:Qz)(id:Int)(t:Aa)(lv:Q0)(w:Qm)(hG:Ah N E w)(hN:N<=w.heap.size)(ho:t.hd.ok)(hr:Ad S w t.l lv)(hS:∀k,w.heap.size<=k->S k)
  (h40:Zh t)(hdep:t.depth<=900000)(hc:t.count<=1152921504606846976)(hid:1<=id/\id<=4)(hgood:(Q8 Ky t id).2=0)(h3:id≠3):Calls prog 12 #[Qu t.hd lv,.int .i64 id] w (C2 S (Gz Ky t id) w):=by
 have hun:¬(id=3/\Kz t=false):=fun e=>h3 e.1
 refine Qf9 ?_
 intro hM hsit hg40 hS0 hr0 hCO
 have j:(id==3)=false:=by simpa using h3
 refine Qdc ?_
 intro hCL G q hg
 rw[hg]at hCO hgood hsit hg40
 rw[hg]
 simp only at hgood hsit hg40|-
 unfold FQ at hCO
 unfold J1 at hCL
 unfold C2
 simp only at hCO|-
 subst hgood
 have hgc:G.count<=1000000:=Qj hsit.right.2.2 dM
 obtain⟨L,hL⟩:=X0 (Th G)
 have hpth:∀p∈L,Xv p=true/\∃c,MI G p=some c:=fun p hp=>Tz.1 (by rw[hL];exact hp)
 have hLlen:L.length<=1000000:=by rw[<-hL];exact Qj (CG 16 G []) hgc
 obtain⟨gh,gl⟩:=G
 simp only[Aa.Ae,Aa.Ag]at hCO
 obtain⟨a,cap,rfl⟩:=hr.Ab
 obtain⟨n,hn⟩:=X0 t.l.length
 obtain⟨gn,hgn⟩:∃n,gl.length=n:=⟨_,rfl⟩
 obtain⟨h,hh⟩:=X0 t.hd
 rw[hn,hh]at hCO hCL
 refine Qga ?_
 intro hb0 hf0
 replace hg:=Qc hg
 replace hL:=Qc hL
 replace hh:=Qc hh
 replace hn:=Qc hn
 replace hgn:=Qc hgn
 clear hr hM hun h3
 go_in
 go_wp2_with fail
 refine(hCO _ Xd (by simp<;>omega)).mono ?_
 rintro e w1 ⟨v,rfl,ho1,hr1,hk1⟩
 obtain⟨ga,gc,rfl⟩:=hr1.Ab
 rw[hgn.out]at hr1
 refine Qgb ?_
 intro hkw1 hb1 hf1 hz1 hb2 hf2 hg2 hk2 n0
 clear hk1 hb0 hf0 hCO
 go_wp2_with fail
 refine(hCL _ Xd (by simp<;>omega)).mono ?_
 exact qY
def Qdd(S:Qz)(id:Int)(t:Aa)(lv:Q0)(w:Qm)(hG:Ah N E w)(hN:N<=w.heap.size)(ho:t.hd.ok)(hr:Ad S w t.l lv)(hS:∀k,w.heap.size<=k->S k)
  (h40:Zh t)(hdep:t.depth<=900000)(hc:t.count<=1152921504606846976)(hid:1<=id/\id<=4)(hgood:(Q8 Ky t id).2=0)(h3:id=3)(hst:Kz t=true):Calls prog 12 #[Qu t.hd lv,.int .i64 id] w (C2 S (Gz Ky t id) w):=by
 have hun:¬(id=3/\Kz t=false):=fun e=>by rw[hst]at e;cases e.2
 refine Qf9 ?_
 intro hM hsit hg40 hS0 hr0 hCO
 have z:(id==3)=true:=by simpa using h3
 refine Qc8 ?_
 intro hIS
 rw[hst]at hIS
 refine Qdc ?_
 intro hCL G q hg
 rw[hg]at hCO hgood hsit hg40
 rw[hg]
 simp only at hgood hsit hg40|-
 unfold FQ at hCO
 unfold J1 at hCL
 unfold C2
 simp only at hCO|-
 subst hgood
 have hgc:G.count<=1000000:=Qj hsit.right.2.2 dM
 obtain⟨L,hL⟩:=X0 (Th G)
 have hpth:∀p∈L,Xv p=true/\∃c,MI G p=some c:=fun p hp=>Tz.1 (by rw[hL];exact hp)
 have hLlen:L.length<=1000000:=by rw[<-hL];exact Qj (CG 16 G []) hgc
 obtain⟨gh,gl⟩:=G
 simp only[Aa.Ae,Aa.Ag]at hCO
 obtain⟨a,cap,rfl⟩:=hr.Ab
 obtain⟨n,hn⟩:=X0 t.l.length
 obtain⟨gn,hgn⟩:∃n,gl.length=n:=⟨_,rfl⟩
 obtain⟨h,hh⟩:=X0 t.hd
 rw[hn,hh]at hCO hCL hIS
 refine Qga ?_
 intro hb0 hf0
 replace hg:=Qc hg
 replace hL:=Qc hL
 replace hh:=Qc hh
 replace hn:=Qc hn
 replace hgn:=Qc hgn
 clear hr hM hun h3 hst
 go_in
 go_wp2_with fail
 refine(hCO _ Xd (by simp<;>omega)).mono ?_
 rintro e w1 ⟨u,rfl,ho1,hr1,hk1⟩
 obtain⟨ga,gc,rfl⟩:=hr1.Ab
 rw[hgn.out]at hr1
 refine Qgb ?_
 intro hkw1 hb1 hf1 hz1 hb2 hf2 hg2 hk2 n0
 clear hk1 hb0 hf0 hCO
 go_wp2_with fail
 refine(hIS _ (hkw1.trans hk2)).mono ?_
 rintro e w3 ⟨rfl,hk3⟩
 have hb3:=hk3.s hb2
 have v:=hk3.s hf2
 have y:=hk3.s hg2
 have j:=hk2.trans hk3
 have m:w.heap.size+1<w3.heap.size:=Qg v
 clear n0 hb2 hf2 hg2 hk2 hk3 hIS
 have hb2:=hb3
 have hf2:=v
 have hg2:=y
 have hk2:=j
 clear hb3 v y j
 have n0:=Qi hb2
 go_wp2_with fail
 refine(hCL _ (hkw1.trans hk2) oM).mono ?_
 exact qY
def gN(S:Qz)(id:Int)(t:Aa)(lv:Q0)(w:Qm)(hG:Ah N E w)(hN:N<=w.heap.size)(ho:t.hd.ok)(hr:Ad S w t.l lv)(hS:∀k,w.heap.size<=k->S k)
  (h40:Zh t)(hdep:t.depth<=900000)(hc:t.count<=1152921504606846976)(hid:1<=id/\id<=4):Calls prog 12 #[Qu t.hd lv,.int .i64 id] w (C2 S (Gz Ky t id) w):=by
 by_cases j:(Q8 Ky t id).2=0
 ·by_cases q:id=3
  ·cases hs:Kz t with
   |true=>exact Qdd S id t lv w hG hN ho hr hS h40 hdep hc hid j q hs
   |false=>
    subst q;exact mV S t lv w hG hN ho hr hS h40 hdep hc j hs
  ·exact mX S id t lv w hG hN ho hr hS h40 hdep hc hid j q
 ·exact Qc7 S id t lv w hG hN ho hr hS h40 hdep j
def Se(ho:h.ok):(Aa.node h []).Bp S w (Qn h (.slice none 0 0)):=Kc.2 ⟨ho,_,rfl,Ad.nil _ _⟩
def QS{cs rest:Kb}(h1:x.Bp S w cs)(h2:Ak S w l rest):Ak S w (x::l) (cs++rest):=by
 rw[Ak];exact⟨cs,rest,rfl,h1,h2⟩
def qZ:GE.hd.ok:=by unfold GE Rb Hd.ok Qh Ko;decide
def Qfg:XN.hd.ok:=by unfold XN Hd.ok Qh Ko;decide
def Qht:tg1.hd.ok:=by unfold tg1 Hd.ok Qh Ko;decide
def rA:Zh JB:=fun x hx=>Zo (Vf.1 (show JB.flat.all (fun x=>decide (x.l.length<=40))=true by kernel_rfl) x hx)
def Qfh:Zh wB:=fun x hx=>Zo (Vf.1 (show wB.flat.all (fun x=>decide (x.l.length<=40))=true by kernel_rfl) x hx)
def Qde{P:Prop}(h:P:=by
 refine⟨sM,fun s hs=>?_⟩;rw[Zm.1 hs];exact⟨Xi _,dM,dM⟩):P:=h
def mY:∀x∈[([X4 0],XN),([X4 1],tg1)],x.1.length<=1000000/\∀s∈x.1,s.key.size<=1000000/\ -9223372036854775808<=s.index/\s.index<=9223372036854775807:=by
 intro x hx;rcases Xg.1 hx with rfl|hx
 ·exact Qde
 ·rw[Zm.1 hx];exact Qde
def vW:∀x∈[([X4 0],XN),([X4 1],tg1)],Zh x.2/\x.2.depth<=1000000000:=by
 intro x hx;have h:∀x∈[([X4 0],XN),([X4 1],tg1)],(x.2.flat.all (fun x=>decide (x.l.length<=40))&&decide (x.2.depth<=1000000000))=true:=by
  intro y j;rcases Xg.1 j with rfl|j
  ·kernel_rfl
  ·rw[Zm.1 j];kernel_rfl
 have:=h x hx;rw[X1]at this;exact⟨fun y j=>Zo (Vf.1 this.1 y j),Zo this.2⟩
def gO(w:Qm)(hG:Ah N E w)(hN:N<=w.heap.size):Calls prog 10 #[] w fun e w'=>e=.returned (.bool true)/\Qd w w':=by
 go_in;go_upto_region 3 with fail;have q:Qd w ((((w.alloc (.cells #[i6 3,.bool false,.bool false,.string ⟨#[50]⟩,i6 0,.int .u64 0,i6 0,.string ⟨#[]⟩,.slice none 0 0] 27)).alloc (.cells #[i6 3,.bool false,.bool false,.string ⟨#[50]⟩,i6 0,.int .u64 0,i6 0,.string ⟨#[]⟩,.slice none 0 0] 27)).alloc (.cells #[i6 4,.bool false,.bool false,.string ⟨#[]⟩,i6 0,.int .u64 4607182418800017408,i6 64,.string ⟨#[]⟩,.slice none 0 0,i6 9,.bool false,.bool false,.string ⟨#[]⟩,i6 0,.int .u64 1,i6 0,.string ⟨#[]⟩,.slice (some (ad (w.heap.size+1) 0)) 1 1,i6 3,.bool false,.bool false,.string ⟨#[50]⟩,i6 0,.int .u64 0,i6 0,.string ⟨#[]⟩,.slice none 0 0] 27)).alloc (.cells #[i6 7,.bool false,.bool false,.string ⟨#[]⟩,i6 0,.int .u64 0,i6 0,.string ⟨#[]⟩,.slice (some (ad (w.heap.size+1+1) 0)) 3 3] 27)):=Xd;have r:((((w.alloc (.cells #[i6 3,.bool false,.bool false,.string ⟨#[50]⟩,i6 0,.int .u64 0,i6 0,.string ⟨#[]⟩,.slice none 0 0] 27)).alloc (.cells #[i6 3,.bool false,.bool false,.string ⟨#[50]⟩,i6 0,.int .u64 0,i6 0,.string ⟨#[]⟩,.slice none 0 0] 27)).alloc (.cells #[i6 4,.bool false,.bool false,.string ⟨#[]⟩,i6 0,.int .u64 4607182418800017408,i6 64,.string ⟨#[]⟩,.slice none 0 0,i6 9,.bool false,.bool false,.string ⟨#[]⟩,i6 0,.int .u64 1,i6 0,.string ⟨#[]⟩,.slice (some (ad (w.heap.size+1) 0)) 1 1,i6 3,.bool false,.bool false,.string ⟨#[50]⟩,i6 0,.int .u64 0,i6 0,.string ⟨#[]⟩,.slice none 0 0] 27)).alloc (.cells #[i6 7,.bool false,.bool false,.string ⟨#[]⟩,i6 0,.int .u64 0,i6 0,.string ⟨#[]⟩,.slice (some (ad (w.heap.size+1+1) 0)) 3 3] 27)).heap[w.heap.size+1+1+1]? =some (.cells #[i6 7,.bool false,.bool false,.string ⟨#[]⟩,i6 0,.int .u64 0,i6 0,.string ⟨#[]⟩,.slice (some (ad (w.heap.size+1+1) 0)) 3 3] 27 (0,0)):=Ql sM;have f:((((w.alloc (.cells #[i6 3,.bool false,.bool false,.string ⟨#[50]⟩,i6 0,.int .u64 0,i6 0,.string ⟨#[]⟩,.slice none 0 0] 27)).alloc (.cells #[i6 3,.bool false,.bool false,.string ⟨#[50]⟩,i6 0,.int .u64 0,i6 0,.string ⟨#[]⟩,.slice none 0 0] 27)).alloc (.cells #[i6 4,.bool false,.bool false,.string ⟨#[]⟩,i6 0,.int .u64 4607182418800017408,i6 64,.string ⟨#[]⟩,.slice none 0 0,i6 9,.bool false,.bool false,.string ⟨#[]⟩,i6 0,.int .u64 1,i6 0,.string ⟨#[]⟩,.slice (some (ad (w.heap.size+1) 0)) 1 1,i6 3,.bool false,.bool false,.string ⟨#[50]⟩,i6 0,.int .u64 0,i6 0,.string ⟨#[]⟩,.slice none 0 0] 27)).alloc (.cells #[i6 7,.bool false,.bool false,.string ⟨#[]⟩,i6 0,.int .u64 0,i6 0,.string ⟨#[]⟩,.slice (some (ad (w.heap.size+1+1) 0)) 3 3] 27)).heap[w.heap.size+1+1]? =some (.cells #[i6 4,.bool false,.bool false,.string ⟨#[]⟩,i6 0,.int .u64 4607182418800017408,i6 64,.string ⟨#[]⟩,.slice none 0 0,i6 9,.bool false,.bool false,.string ⟨#[]⟩,i6 0,.int .u64 1,i6 0,.string ⟨#[]⟩,.slice (some (ad (w.heap.size+1) 0)) 1 1,i6 3,.bool false,.bool false,.string ⟨#[50]⟩,i6 0,.int .u64 0,i6 0,.string ⟨#[]⟩,.slice none 0 0] 27 (0,0)):=Qb (Ql sM);have a0:((((w.alloc (.cells #[i6 3,.bool false,.bool false,.string ⟨#[50]⟩,i6 0,.int .u64 0,i6 0,.string ⟨#[]⟩,.slice none 0 0] 27)).alloc (.cells #[i6 3,.bool false,.bool false,.string ⟨#[50]⟩,i6 0,.int .u64 0,i6 0,.string ⟨#[]⟩,.slice none 0 0] 27)).alloc (.cells #[i6 4,.bool false,.bool false,.string ⟨#[]⟩,i6 0,.int .u64 4607182418800017408,i6 64,.string ⟨#[]⟩,.slice none 0 0,i6 9,.bool false,.bool false,.string ⟨#[]⟩,i6 0,.int .u64 1,i6 0,.string ⟨#[]⟩,.slice (some (ad (w.heap.size+1) 0)) 1 1,i6 3,.bool false,.bool false,.string ⟨#[50]⟩,i6 0,.int .u64 0,i6 0,.string ⟨#[]⟩,.slice none 0 0] 27)).alloc (.cells #[i6 7,.bool false,.bool false,.string ⟨#[]⟩,i6 0,.int .u64 0,i6 0,.string ⟨#[]⟩,.slice (some (ad (w.heap.size+1+1) 0)) 3 3] 27)).heap[w.heap.size+1]? =some (.cells #[i6 3,.bool false,.bool false,.string ⟨#[50]⟩,i6 0,.int .u64 0,i6 0,.string ⟨#[]⟩,.slice none 0 0] 27 (0,0)):=Qb (Qb (Ql sM));generalize((((w.alloc (.cells #[i6 3,.bool false,.bool false,.string ⟨#[50]⟩,i6 0,.int .u64 0,i6 0,.string ⟨#[]⟩,.slice none 0 0] 27)).alloc (.cells #[i6 3,.bool false,.bool false,.string ⟨#[50]⟩,i6 0,.int .u64 0,i6 0,.string ⟨#[]⟩,.slice none 0 0] 27)).alloc (.cells #[i6 4,.bool false,.bool false,.string ⟨#[]⟩,i6 0,.int .u64 4607182418800017408,i6 64,.string ⟨#[]⟩,.slice none 0 0,i6 9,.bool false,.bool false,.string ⟨#[]⟩,i6 0,.int .u64 1,i6 0,.string ⟨#[]⟩,.slice (some (ad (w.heap.size+1) 0)) 1 1,i6 3,.bool false,.bool false,.string ⟨#[50]⟩,i6 0,.int .u64 0,i6 0,.string ⟨#[]⟩,.slice none 0 0] 27)).alloc (.cells #[i6 7,.bool false,.bool false,.string ⟨#[]⟩,i6 0,.int .u64 0,i6 0,.string ⟨#[]⟩,.slice (some (ad (w.heap.size+1+1) 0)) 3 3] 27))=w4 at q r f a0|-;have ae:Ad K3 w4 [GE] (.slice (some (ad (w.heap.size+1) 0)) 1 1):=Ou (l:=[GE]) a0 trivial (Y4 (Se qZ)) sM sM;have b:Ad K3 w4 JB.l (.slice (some (ad (w.heap.size+1+1) 0)) 3 3):=Ou (l:=[XN,tg1,GE]) f trivial (QS (Se Qfg) (QS (Kc.2 ⟨Qht,_,rfl,ae⟩) (Y4 (Se qZ)))) sM sM;clear a0 f ae;have hT:=fun W (hk:Qd w4 W)=>gN K3 2 JB (.slice (some (ad (w.heap.size+1+1) 0)) 3 3) W (hG.same (q.trans hk)) (Qj hN (q.trans hk).size) (K1 7 dM) (b.same hk) (fun _ _=>trivial) rA dM dM dM
 have hC:=fun W (hk:Qd w4 W)=>DF DL JB 2 K3 (.slice (some (ad (w.heap.size+1+1) 0)) 3 3) W (hG.same (q.trans hk)) (Qj hN (q.trans hk).size) dM (K1 7 dM) (b.same hk) (fun _ _=>trivial) rA (fun h=>La h)
 rw[lJ]at hT;rw[eC]at hC;unfold C2 at hT;unfold FQ at hC;have x0:=Qi r;go_upto_region 4 with(go_at_call 12;refine(hT _ (Ac.refl _ _)).mono ?_;rintro e w5 ⟨v5,rfl,a1,c⟩);have y:=c.s r;clear x0;have x0:=Qi y;go_upto_region 5 with(go_at_call 15;refine(hC _ c).mono ?_;rintro e w6 ⟨v6,rfl,b1,k,t⟩;obtain⟨a6,c6,rfl⟩:=k.Ab);have m:=t.s y;have a7:=a1.same t;have v:=LW w6 (.cells (nR wB.hd (.slice a6 wB.l.length c6)) 27);have a3:=Qt w6 (.cells (nR wB.hd (.slice a6 wB.l.length c6)) 27);generalize(w6.alloc (.cells (nR wB.hd (.slice a6 wB.l.length c6)) 27))=w7 at v a3|-;have n:=v.s m;have z:=a7.same v;have af:=k.same v;have u:=(c.trans t).trans v;have p:=q.trans u;obtain⟨pa,pc,rfl⟩:=z.Ab;have hP:=mW K3 2 dM wB [([X4 0],XN),([X4 1],tg1)] (.slice a6 wB.l.length c6) (.slice pa 2 pc) w7 (hG.same p) (Qj hN p.size) b1 af (fun _ _=>trivial) z Qfh dM dM vW mY;rw[Qib]at hP;unfold FQ at hP;clear x0 y m a1 a7 k hT hC;have x0:=Qi a3;go_upto_region 6 with(go_at_call 16;refine hP.mono ?_;rintro e w8 ⟨v8,rfl,b5,x,b0⟩;obtain⟨a8,c8,rfl⟩:=x.Ab);have d:=LW w8 (.cells (nR JB.hd (.slice a8 JB.l.length c8)) 27);have ab:=Qt w8 (.cells (nR JB.hd (.slice a8 JB.l.length c8)) 27);generalize(w8.alloc (.cells (nR JB.hd (.slice a8 JB.l.length c8)) 27))=w9 at d ab|-;have j:=b0.trans d;have a5:=j.s n;have aa:=z.same j;have ah:=x.same d;have b2:=p.trans j;have a2:=b.same (u.trans j);have a9:=Sq JB JB K3 (.slice a8 JB.l.length c8) (.slice (some (ad (w.heap.size+1+1) 0)) 3 3) w9 ah a2;rw[(Ru JB JB).2 rfl]at a9;obtain⟨pb,po,v0,l0,e0,_,a4,_⟩:=aa.get 0 dM;obtain⟨b4,b6,v1,l1,e1,_,ac,_⟩:=aa.get 1 dM;rw[e0]at e1;cases e1;subst e0;have kw:=a4 7 _ rfl;have ku:=ac 6 _ rfl;clear x0 n x af z hP a4 ac;have x0:=Qi ab;have n0:=Qi a5;go_wp2_with(go_at_call 17;refine a9.mono ?_;rintro e b3 ⟨rfl,ag⟩);go_ret;exact⟨rfl,b2.trans ag⟩
def Rs(t:Aa):Aa:=if Q5 t 2=60 then t else Xu t
def LL(S:Qz)(t:Aa)(lv:Q0)(w:Qm)(hG:Ah N E w)(hN:N<=w.heap.size)(ho:t.hd.ok)(hr:Ad S w t.l lv)(hd:t.depth<=1099511627776)(hS:∀k,w.heap.size<=k->S k)
  (hs:Q5 t 2≠60->(∀x∈t.flat,Xc x=true)/\(∀x∈t.flat,x.l.length<=40)/\(Q3 t).l.length<=2000):
  Calls prog 28 #[Qu t.hd lv] w (J1 S (Rs t) w):=by
 have q:=fun W (hk:Qd w W)=>E0 t lv W (hG.same hk) hd ((hr.mono fun _ _ _=>trivial).same hk) ho
 have d:Rs t=if Q5 t 2=60 then t else Xu t:=rfl
 generalize hc:Q5 t 2=c at q d hs
 obtain⟨a,z,rfl⟩:=hr.Ab
 by_cases y:c=60
 ·rw[Qe y]at d;rw[d];have j:(!decide (c=60))=false:=by rw[Kp y];rfl
  rw[j]at q;generalize hn:t.l.length=n at q|-;have hr2:Ad S w t.l (.slice a n z):=by rw[<-hn];exact hr
  clear d hc hs y j hr hn;go_in;go_wp2_with fail;refine(q _ Xd).mono ?_;rintro e w1 ⟨rfl,hk1⟩;refine eY ?_;intro hkw1 hb1 hb2;have n0:=Qi hb1;have z0:=Qi hb2;have ab:=Jd hb2;clear hk1;go_wp2_with fail;obtain⟨h9,hk9⟩:=Yw hb2 t.hd (.slice a n z);refine DS rfl rfl h9 rfl ⟨_,rfl,?_,ho,Xt hkw1 hk9 oM⟩;exact Qbo
 ·rw[Qa y]at d;rw[d];have j:(!decide (c=60))=true:=by rw[Z4 y];rfl
  rw[j]at q;obtain⟨a8,a6,a9⟩:=hs y;have a4:=R8 t a6;have ac:Ad (fun b=>S b/\b≠w.heap.size+1) w t.l (.slice a t.l.length z):=hr.mono fun b hb h=>⟨h,oM⟩
  have a1:=fun W (hk:Qd w W) (hz:w.heap.size+2<=W.heap.size)=>a4 (fun b=>S b/\b≠w.heap.size+1) (.slice a t.l.length z) W ho (ac.same hk) fun k h=>⟨hS k (Qj hk.size h),oM⟩
  have a5:=fun W (hk:Qd w W) (hz:w.heap.size+2<=W.heap.size) v (hv:Ad (fun b=>S b/\b≠w.heap.size+1) W t.l v)=>F2 (fun b=>S b/\b≠w.heap.size+1) t v W (hG.same hk) (Qj hN hk.size) ho hv a8 (fun k h=>⟨hS k (Qj hk.size h),oM⟩) a9
  generalize hR:Xu t=R at a5|-;generalize hn:t.l.length=n at q a1|-;clear d hc y j hr hR hs a8 a6 a9 a4;go_in;go_wp2_with fail;refine(q _ Xd).mono ?_;rintro e w1 ⟨rfl,hk1⟩;refine eY ?_;intro hkw1 hb1 hb2;have n0:=Qi hb1;have ad:w.heap.size+2<=w1.heap.size:=Qg hb2;clear hk1;go_wp2_with fail;refine(a1 _ hkw1 ad).mono ?_;rintro e w2 ⟨v2,rfl,hr2,ag,p⟩;obtain⟨a2,c2,rfl⟩:=hr2.Ab;have u:=hkw1.trans p;have af:=p.size;have ae:=p.s hb2;clear n0 hb1;go_wp2_with fail;have a7:=a5 _ u oM _ hr2;rw[hn]at a7;refine a7.mono ?_;rintro e w3 ⟨v3,rfl,m,aa,a0⟩;obtain⟨a3,c3,rfl⟩:=m.Ab;have r:=u.trans a0;have f:=a0.s ae;have z0:=Qi f;have ab:=Jd f;go_wp2_with fail;obtain⟨h9,hk9⟩:=Yw f R.hd (.slice a3 R.l.length c3);refine DS rfl rfl h9 rfl ⟨_,rfl,?_,aa,Xt r hk9 oM⟩;exact(m.Af hk9 fun b hb _ _=>hb.2).mono fun b _ hb=>hb.1
def NF:∀t:Aa,∀(S:Qz) (lv:Q0) (w:Qm),Ad S w t.l lv->Calls prog 32 #[Qu t.hd lv] w fun e w'=>e=.returned (.int .i64 (Yk t))/\Qd w w':=by
 refine Aa.ind fun h l ih=>?_
 intro S lv w hl;simp only[Aa.Ae,Aa.Ag]at hl|-;obtain⟨a2,a,r,rfl,a3,hi⟩:=hl.shape;have n:Yk (.node h l)=wrap64 ((1+Q7 l:Nat):Int):=by unfold Yk;simp only[Aa.count]
 rw[n];clear n;go_in;go_wp2;go_loopw [3,4] (fun v i wr=>∃k:Nat,k<=l.length/\i=i6 k/\v=i6 (wrap64 ((1+Q7 (l.take k):Nat):Int))/\Qd w wr/\wr.heap[w.heap.size]? =some (.cells (nR h (.slice a l.length r)) 27 (0,0)))
  (fun _ i _=>l.length-(RowKit.intOf i).toNat)
 case atStart=>exact⟨0,Xi _,rfl,by rw[E2,show((1+Q7 []:Nat):Int)=1 from rfl,F9 (1:Int) oM],(Ac.refl _ _).alloc _,Qt w _⟩
 case round=>
  obtain⟨k,hk,rfl,rfl,j,d⟩:=hrel;have n0:=Qi d;obtain⟨q,m⟩:=X0 (wrap64 ((1+Q7 (l.take k):Nat):Int));by_cases y:k<l.length
  ·obtain⟨b,a4,a6,rfl,hS,hb,hr,a5,a1⟩:=hi k y;obtain⟨a',p,rfl⟩:=hr.Ab;have c0:=Rv (Qy j a1);have u:=Io l k y;obtain⟨cc,z⟩:∃q,Yk (l[k])=q:=⟨_,rfl⟩;have f:wrap64 ((1+Q7 (l.take (k+1)):Nat):Int)=wrap64 (q+cc):=by
    rw[<-m,<-z,u];unfold Yk;rw[gV];congr 1;push_cast;omega
   have a0:=Qc f;have c:=fun(W:Qm) (hr2:Ad S W (l[k]).l (.slice a' (l[k]).l.length p))=>ih _ (Zp y) S _ W hr2
   rw[z]at c;rw[m];clear u f m z;go_wp2_with(first| (go_at_call 32;refine(c _ (hr.same j)).mono ?_;rintro e w' ⟨rfl,x⟩));go_roundw
   case rel=>exact⟨k+1,oM,by go_num,by rw[a0.out],j.trans x,x.s d⟩
   case measure=>simp[RowKit.intOf];omega
  ·obtain rfl:k=l.length:=oM;rw[Vc]at m;rw[Vc,m];go_wp2;go_ret;exact⟨by rw[m];rfl,j⟩
def MH(t:Aa):Aa:=if 400<Yk (t.cut 17)then .node (DZ t.hd) []else t.cut 17
def Qdf(t:Aa):(MH t).hd=DZ t.hd:=by unfold MH;split;rfl;exact jI 17 t
def Qdg{P Q:Prop}(h:Q)(f:Wz Q->P:=by
 intro zz;obtain⟨h9,hk9⟩:=Yw hb q (.slice a2 cl.length c2);have hrX:=hk9.same _ _ hr oM;have hr3:Ad (fun b=>w.heap.size+2<=b) w1 cl (.slice a2 cl.length c2):=hr2.mono fun b _ (hb:_<=b)=>by simpa using hb
 have hrp:=hr3.Af hk9 fun b (hb:w.heap.size+2<=b) _ _=>oM
 revert h9 hk9 hrX hr3 hrp;exact zz.o):P:=f ⟨h⟩
def Qgc{P Q:Prop}(h:Q)(f:Wz Q->P:=by
 intro zz;have hbc:=hk3.s h9;have hrc:=hk3.s hrX;have hrp3:=hrp.same hk3;have hkw3:Qd w w3:=hkX.trans hk3;have n0:=Qi hbc;have m0:=Qi hrc;have hfb:=Jd hbc;have hfr:=Jd hrc;have hkeep:∀(X:Qm) (p:Addr) (v:Q0) (b:Nat),p.block≠b->(X.setCell p v).heap[b]? =X.heap[b]?:=fun X p v b h=>Sg X p v b (fun e=>h e.symm)
 revert hbc hrc hrp3 hkw3 n0 m0 hfb hfr hkeep;exact zz.o):P:=f ⟨h⟩
def Qfi(t:Aa)(lv:Q0)(w:Qm)(hrep:t.AS w lv):
  Calls prog 11 #[Qu t.hd lv] w fun e w'=>∃lv',e=.returned (Qu (DZ t.hd) lv')/\Ad (fun b=>w.heap.size<=b) w' (MH t).l lv'/\Qd w w':=by
 obtain⟨ho,a,f,rfl,a1,hL⟩:=Lh hrep
 have hcut:=fun W (hk:Qd w W)=>oI 17 t _ W oM (hrep.same hk)
 generalize hn:t.l.length=n at hcut|-
 generalize hh:t.hd=h at hcut|-
 generalize hq:DZ h=q at hcut|-
 have c:t.cut 17=.node q (t.cut 17).l:=by rw[<-hq,<-hh,<-jI 17];exact(Aa.eta _).symm
 generalize a0:(t.cut 17).l=cl at hcut c
 have m:(MH t).l=if 400<Yk (.node q cl)then[]else cl:=by unfold MH;rw[c];split<;>rfl
 rw[m]
 generalize x:Yk (.node q cl)=cc
 have y:=fun(W:Qm) (lv2:Q0) (hr:Ad K3 W cl lv2)=>NF (.node q cl) K3 lv2 W hr
 rw[x]at y
 simp only[Aa.Ae]at y
 clear x m c a0 hh hq hn hrep hL ho
 go_in
 by_cases z:400<cc
 ·rw[Qe z];go_wp2_with(first
   | (go_at_call 31;refine(hcut _ Xd).mono ?_;rintro e w1 ⟨lv2,rfl,hr2,v⟩;obtain⟨a2,c2,rfl⟩:=hr2.Ab;have hb:=v.same w.heap.size _ (show _=some (.cells (nR h (.slice a n f)) 27 (0,0)) from BR) trivial;have hr:=v.same (w.heap.size+1) _ (show _=some (.cells zR 27 (0,0)) from BR) trivial;have n0:=Qi hb;have m0:=Qi hr;have hfb:=Jd hb;have hfr:∀j,w1.frozen? (ad (w.heap.size+1) j)=false:=Je hr)
   | (go_at_call 32;fail))
  refine Qdg ?_;intro h9 hk9 hrX hr3 hrp;have hkX:Qd w _:=(⟨hk9.os.trans v.os,hk9.tape.trans v.tape,hk9.output.trans v.output,Qj (by have:=v.size;simp at this;omega) hk9.size,fun k o hk _=>hk9.same k o (v.same k o (Qb (Qb hk)) trivial) (Ku hk)⟩:Qd w _);clear n0 m0 hfb hfr hk9 hr3 hr2 hr hb v;generalize((((((((((w1.setCell (ad w.heap.size 0) (i6 q.kind)).setCell (ad w.heap.size 1) (.bool q.b)).setCell (ad w.heap.size 2) (.bool q.d.neg)).setCell (ad w.heap.size 3) (.string q.d.digits)).setCell (ad w.heap.size 4) (i6 q.d.exp)).setCell (ad w.heap.size 5) (.int .u64 q.u)).setCell (ad w.heap.size 6) (i6 q.w)).setCell (ad w.heap.size 7) (.string q.s)).setCell (ad w.heap.size 8) (.slice a2 cl.length c2)))=X at h9 hrX hrp hkX|-;refine(y X _ (hrp.mono fun _ _ _=>trivial)).mono ?_;rintro e w3 ⟨rfl,hk3⟩;refine Qgc ?_;intro hbc hrc hrp3 hkw3 n0 m0 hfb hfr hkeep;clear h9 hrX hrp hkX hk3;go_wp2;have hX:(w3.setCell (ad w.heap.size 8) (.slice none 0 0)).heap[w.heap.size+1]? =some (.cells zR 27 (0,0)):=by rw[hkeep _ _ _ _ (by show w.heap.size≠w.heap.size+1;omega)];exact hrc
  obtain⟨h9,hk9⟩:=Yw hX q (.slice none 0 0);refine DS rfl rfl h9 rfl ⟨_,rfl,Ad.nil _ _,?_⟩;have r:Qd w (w3.setCell (ad w.heap.size 8) (.slice none 0 0)):=hkw3.setCell (p:=(ad w.heap.size 8)) _ (fun o _ _ h=>absurd h (J0 _));exact Ho r hk9 fun k o hk=>(Ku hk)
 ·rw[Qa z];go_wp2_with(first
   | (go_at_call 31;refine(hcut _ Xd).mono ?_;rintro e w1 ⟨lv2,rfl,hr2,v⟩;obtain⟨a2,c2,rfl⟩:=hr2.Ab;have hb:=v.same w.heap.size _ (show _=some (.cells (nR h (.slice a n f)) 27 (0,0)) from BR) trivial;have hr:=v.same (w.heap.size+1) _ (show _=some (.cells zR 27 (0,0)) from BR) trivial;have n0:=Qi hb;have m0:=Qi hr;have hfb:=Jd hb;have hfr:∀j,w1.frozen? (ad (w.heap.size+1) j)=false:=Je hr)
   | (go_at_call 32;fail))
  refine Qdg ?_;intro h9 hk9 hrX hr3 hrp;have hkX:Qd w _:=(⟨hk9.os.trans v.os,hk9.tape.trans v.tape,hk9.output.trans v.output,Qj (by have:=v.size;simp at this;omega) hk9.size,fun k o hk _=>hk9.same k o (v.same k o (Qb (Qb hk)) trivial) (Ku hk)⟩:Qd w _);clear n0 m0 hfb hfr hk9 hr3 hr2 hr hb v;generalize((((((((((w1.setCell (ad w.heap.size 0) (i6 q.kind)).setCell (ad w.heap.size 1) (.bool q.b)).setCell (ad w.heap.size 2) (.bool q.d.neg)).setCell (ad w.heap.size 3) (.string q.d.digits)).setCell (ad w.heap.size 4) (i6 q.d.exp)).setCell (ad w.heap.size 5) (.int .u64 q.u)).setCell (ad w.heap.size 6) (i6 q.w)).setCell (ad w.heap.size 7) (.string q.s)).setCell (ad w.heap.size 8) (.slice a2 cl.length c2)))=X at h9 hrX hrp hkX|-;refine(y X _ (hrp.mono fun _ _ _=>trivial)).mono ?_;rintro e w3 ⟨rfl,hk3⟩;refine Qgc ?_;intro hbc hrc hrp3 hkw3 n0 m0 hfb hfr hkeep;clear h9 hrX hrp hkX hk3;go_wp2;obtain⟨h9,hk9⟩:=Yw hrc q (.slice a2 cl.length c2);refine DS rfl rfl h9 rfl ⟨_,rfl,?_,?_⟩
  ·refine Ad.mono (fun b _ (hb:w.heap.size+2<=b)=>(by omega:w.heap.size<=b)) ?_;exact hrp3.Af hk9 fun b (hb:w.heap.size+2<=b) _ _=>oM
  ·exact Ho hkw3 hk9 fun k o hk=>(Ku hk)
def QT:∀{l:Qp},x∈Re l->∃k∈l,x∈k.flat
 | [],h=>by rw[Re]at h;cases h
 |y::l,h=>by
  rw[Re]at h;rcases Kn.1 h with h|h
  ·exact⟨y,Yr,h⟩
  ·obtain⟨k,hk,hx⟩:=QT h;exact⟨k,Kk _ hk,hx⟩
def Sf(hx:x∈(Aa.node h l).flat):x=.node h l∨∃k∈l,x∈k.flat:=by
 rw[Aa.flat]at hx;rcases Xg.1 hx with h|h
 ·exact .inl h
 ·exact .inr (QT h)
def VJ:∀(d:Nat) (t:Aa),(t.cut d).depth<=d+1
 |0,t=>by rw[Aa.cut,Nn];exact Q6 _
 |d+1,t=>by
  rw[Aa.cut,Aa.depth];have:Xr ((t.l.take 40).map (Aa.cut d))<=d+1:=M1 fun x hx=>by
   obtain⟨y,_,rfl⟩:=Xq.1 hx;exact VJ d y
  omega
def gQ:∀(d:Nat) (t x:Aa),x∈(t.cut d).flat->x.l.length<=40
 |0,t,x,hx=>by
  rw[Aa.cut]at hx;rcases Sf hx with rfl| ⟨k,hk,_⟩
  ·exact Xi _
  ·cases hk
 |d+1,t,x,hx=>by
  have h0:=Qdy (d+1) t;rw[Aa.cut]at hx h0;rcases Sf hx with rfl| ⟨k,hk,j⟩
  ·exact h0
  ·obtain⟨y,_,rfl⟩:=Xq.1 hk;exact gQ d y x j
def vX(t:Aa):(MH t).depth<=18:=by
 unfold MH;split
 ·rw[Nn];decide
 ·exact VJ 17 t
def Qdh(t x:Aa)(hx:x∈(MH t).flat):x.l.length<=40:=by
 unfold MH at hx;split at hx
 ·rcases Sf hx with rfl| ⟨k,j,_⟩
  ·exact Xi _
  ·cases j
 ·exact gQ 17 t x hx
def Qhu(h:t.hd.okW):(MH t).hd.ok:=by rw[Qdf];exact bE h
def F8(h:AA t):Rs t=Xu t:=by
 unfold Rs;rw[Qa (h.check 2)]
def mZ{T:Aa}(hc:T.count<=1152921504606846976):(Rs T).same (Rs (Rs T))=true/\Yk (Rs T)<=Yk T/\(Rs T).hd.kind=T.hd.kind/\(Rs T).hd.u=T.hd.u:=by
 by_cases c:Q5 T 2=60
 ·have e:Rs T=T:=by unfold Rs;rw[Qe c]
  rw[e,e];exact⟨(Ru _ _).2 rfl,Int.le_refl _,rfl,rfl⟩
 ·have j:=(Ef hc).1 c;have q:=Eg j;rw[F8 j,F8 q,cJ j.1];have v:=S9 j.1;refine⟨(Ru _ _).2 rfl,?_,zF j.1⟩;rw[Lq oM,Lq oM];omega
def NG{T:Aa}(hc:T.count<=1152921504606846976)(hd:T.depth<=18)(hl:Zh T):(Rs T).depth<=1000/\Zh (Rs T):=by
 by_cases c:Q5 T 2=60
 ·have e:Rs T=T:=by unfold Rs;rw[Qe c]
  rw[e];exact⟨oM,hl⟩
 ·have j:=(Ef hc).1 c;rw[F8 j];exact⟨by have:=(Eg j).2.1;omega,JY j.1 hl⟩
def Qfj(hk:Ac (fun k _=>k≠w.heap.size) w W):Qd w W:=⟨hk.os,hk.tape,hk.output,hk.size,fun k o j _=>hk.same k o j (Ku j)⟩
def EmbedShells.Bx(t:Aa)(lv:Q0)(w:Qm)(hG:Ah w.heap.size E w)(hrep:t.AS w lv)(hcnt:(MH t).count<=1152921504606846976):
  Calls prog 8 #[Qu t.hd lv] w fun e w'=>e=.returned (.bool true)/\Qd w w':=by
 obtain⟨ho,a,cap,rfl,cb,hL⟩:=Lh hrep
 have j:=fun W (hk:Qd w W)=>Qfi t _ W (hrep.same hk)
 have d1:=fun W (hk:Qd w W)=>gO (N:=w.heap.size) (E:=E) W (hG.same hk) hk.size
 have b4:=Qhu ho
 have bh:=vX t
 have af:=Qdh t
 have be:=Qdf t
 generalize hT:MH t=T at j b4 bh af be hcnt
 rw[<-be]at j
 have p:=mZ hcnt
 obtain⟨ch,c1⟩:=NG hcnt bh af
 refine IY ?_
 intro n hn h hh
 rw[hn,hh]at j
 rw[hn,hh]
 clear hT hn hh be hL hrep cb ho
 have cd:∀U:Aa,U.depth<=1000->Zh U->(Q5 U 2≠60->(∀x∈U.flat,Xc x=true)/\(∀x∈U.flat,x.l.length<=40)/\(Q3 U).l.length<=2000):=fun U _ c7 c5=>⟨BI c5,c7,by have:=(ER (BI c5) c7).2;omega⟩
 have a1:=fun(S:Qz) lv W (hg:Ah w.heap.size E W) (hn:w.heap.size<=W.heap.size) hr hS=>LL S T lv W hg hn b4 hr oM hS (cd T oM af)
 have f:=fun(S:Qz) lv W (hg:Ah w.heap.size E W) (hn:w.heap.size<=W.heap.size) ho hr hS=>LL S (Rs T) lv W hg hn ho hr oM hS (cd _ ch c1)
 have ba:=fun W lv hr=>Pq T lv W hr b4
 obtain⟨ST,c8⟩:∃x,Rs T=x:=⟨_,rfl⟩
 rw[c8]at a1 f p
 obtain⟨UT,c6⟩:∃x,Rs ST=x:=⟨_,rfl⟩
 rw[c6]at f p
 have b1:=fun(W:Qm) S lv lv' h1 h2=>Sq ST UT S lv lv' W h1 h2
 rw[p.1]at b1
 unfold J1 at a1 f
 obtain⟨sh,d0⟩:∃x,ST.hd=x:=⟨_,rfl⟩
 obtain⟨uh,d5⟩:∃x,UT.hd=x:=⟨_,rfl⟩
 obtain⟨cS,bc⟩:∃x,Yk ST=x:=⟨_,rfl⟩
 obtain⟨cT,ab⟩:∃x,Yk T=x:=⟨_,rfl⟩
 have bd:=fun W lv hr ho=>Pq ST lv W hr ho
 obtain⟨_,b2,a5,ac⟩:=p
 rw[bc,ab]at b2
 rw[d0]at a5 ac a1 f b1 bd
 rw[d5]at f b1
 rw[ab]at ba
 rw[bc]at bd
 obtain⟨sn,dc⟩:∃x,ST.l.length=x:=⟨_,rfl⟩
 obtain⟨un,d8⟩:∃x,UT.l.length=x:=⟨_,rfl⟩
 clear bc ab c8 c6 ch c1 bh af
 obtain⟨q,l⟩:=T
 simp only[Aa.Ae,Aa.Ag]at j b4 a1 ba a5 ac
 refine pJ ?_
 intro hbn hk0
 have c9:(w.alloc (.cells (nR h (.slice a n cap)) 27)).heap.size=w.heap.size+1:=sM
 go_in
 go_wp2_with fail
 refine(d1 _ hk0).mono ?_
 rintro e w1 ⟨rfl,ah⟩
 have b9:=ah.s hbn
 have a6:=hk0.trans ah
 have d6:=ah.size
 rw[c9]at d6
 clear hk0 ah c9 hbn d1
 have n0:=Qi b9
 go_wp2_with fail
 refine(j _ a6).mono ?_
 rintro e w2 ⟨f0,rfl,bf,bb⟩
 obtain⟨a2,c2,rfl⟩:=bf.Ab
 have ae:=bb.s b9
 have b8:=a6.trans bb
 clear n0 j
 have n0:=Qi ae
 have dd:=Jd ae
 replace b2:=Qc b2
 replace a5:=Qc a5
 replace ac:=Qc ac
 go_upto_region 3 with fail
 obtain⟨h9,r⟩:=Yw ae q (.slice a2 l.length c2)
 have b3:=(bf.mono (S':=fun b=>b≠w.heap.size) fun b _ (hb:w1.heap.size<=b)=>oM).Af r fun b hb _ _=>hb
 have a8:=(Ac.of_same (S:=fun k _=>k≠w.heap.size) b8).trans r
 generalize World.setCell (World.setCell _ _ _) _ (.slice a2 l.length c2)=w3 at h9 b3 a8|-
 clear n0 dd r ae b9 bf bb a6 b8
 have df:w.heap.size<w3.heap.size:=Qg h9
 have n0:=Qi h9
 have d7:Ah w.heap.size E w3:=hG.Af a8 fun k d3 _=>oM
 go_upto_region 4 with(go_at_call 28;refine(a1 (fun b=>b≠w.heap.size) _ _ d7 oM b3 (fun k h=>oM)).mono ?_;rintro e w4 ⟨v4,rfl,ad,ca,bg⟩;obtain⟨a3,c3,rfl⟩:=ad.Ab;rw[dc]at ad|-)
 have a9:Qd w3 (w4.alloc (.cells (nR sh (.slice a3 sn c3)) 27)):=bg.alloc _
 have a7:=Qt w4 (.cells (nR sh (.slice a3 sn c3)) 27)
 have ag:Ad (fun b=>b≠w.heap.size) (w4.alloc (.cells (nR sh (.slice a3 sn c3)) 27)) ST.l (.slice a3 sn c3):=ad.same ((Ac.refl _ _).alloc _)
 have db:=bg.size
 generalize d4:w4.heap.size=sb at a7 db|-
 generalize(w4.alloc (.cells (nR sh (.slice a3 sn c3)) 27))=w5 at a9 a7 ag|-
 have cf:=a9.s h9
 have aa:=a8.trans (Ac.of_same a9)
 have b6:=b3.same a9
 have d9:Ah w.heap.size E w5:=hG.Af aa fun k d3 _=>oM
 clear d4 n0 ad bg a1 h9 b3
 have x0:=Qi a7
 go_upto_region 5 with(go_at_call 28;refine(f (fun b=>b≠w.heap.size) _ _ d9 aa.size ca ag (fun k h=>by have:=a9.size;omega)).mono ?_;rintro e w6 ⟨v6,rfl,b0,dg,c0⟩;obtain⟨a4,c4,rfl⟩:=b0.Ab;rw[d8]at b0|-)
 have a0:Qd w5 (w6.alloc (.cells (nR uh (.slice a4 un c4)) 27)):=c0.alloc _
 have c:=Qt w6 (.cells (nR uh (.slice a4 un c4)) 27)
 have d2:Ad (fun b=>b≠w.heap.size) (w6.alloc (.cells (nR uh (.slice a4 un c4)) 27)) UT.l (.slice a4 un c4):=b0.same ((Ac.refl _ _).alloc _)
 generalize da:w6.heap.size=ub at c|-
 generalize(w6.alloc (.cells (nR uh (.slice a4 un c4)) 27))=w7 at a0 c d2|-
 have y:=a0.s cf
 have z:=a0.s a7
 have cc:=aa.trans (Ac.of_same a0)
 have b5:=ag.same a0
 have cg:=b6.same a0
 clear da x0 b0 c0 f cf a7 ag b6
 have n0:=Qi y
 have x0:=Qi z
 have y0:=Qi c
 refine EA ?_
 refine KC (n:=0) (And.intro y (And.intro z c)) ?_
 simp only[Vz]
 repeat refine sX ?_
 iterate 2 refine sG ?_
 refine Sv ?_
 intro K hK
 refine(Qr (b1 w7.drew (fun b=>b≠w.heap.size) (.slice a3 sn c3) (.slice a4 un c4) (b5.same (Ac.refl _ _).drew) (d2.same (Ac.refl _ _).drew))).mono ?_
 rintro e w8 ⟨rfl,ce⟩
 have m:Qd w7 w8:=((Ac.refl _ w7).drew).trans ce
 refine hK _ _ ⟨m.s y,m.s z,m.s c⟩ ?_
 clear hK K n0 x0 y0 ce
 have n0:=Qi (m.s y)
 have x0:=Qi (m.s z)
 repeat refine sX ?_
 refine sG ?_
 refine Sv ?_
 intro K hK
 refine(Qr (bd w8 (.slice a3 sn c3) ((b5.same m).mono fun _ _ _=>trivial) ca)).mono ?_
 rintro e w9 ⟨rfl,r⟩
 have d:=m.trans r
 refine hK _ _ ⟨d.s y,d.s z,d.s c⟩ ?_
 clear hK K n0 x0 r
 have n0:=Qi (d.s y)
 have x0:=Qi (d.s z)
 refine sG ?_
 refine Sv ?_
 intro K hK
 refine(Qr (ba w9 (.slice a2 l.length c2) ((cg.same d).mono fun _ _ _=>trivial))).mono ?_
 rintro e dh ⟨rfl,b7⟩
 have v:=d.trans b7
 refine hK _ _ ⟨v.s y,v.s z,v.s c⟩ ?_
 clear hK K n0 x0 b7
 have n0:=Qi (v.s y)
 have x0:=Qi (v.s z)
 have f1:decide (cS<=cT)=true:=Kp b2.out
 have f2:(sh.kind==q.kind)=true:=by rw[a5.out];simp
 have de:((sh.u:Int)==(q.u:Int))=true:=by rw[ac.out];simp
 refine sG ?_
 repeat refine sX ?_
 iterate 5 refine sG ?_
 repeat refine sX ?_
 iterate 5 refine sG ?_
 repeat refine sX ?_
 refine DA ?_
 go_simp
 go_wp2
 go_ret
 exact⟨rfl,Qfj (cc.trans (Ac.of_same v))⟩
end Go.Tm
namespace Go.Tm
open Go.Proofs Go.Proofs.YtkfaoeobfigagaaGreatDoor Go.RowKit Go.Proofs.Tryz
def Lb{H:Type}:∀l:List (DataW H),(l.map Rows.uptoBulk).sum=Rows.uptoBulkAll l
 | []=>by rw[Rows.uptoBulkAll];rfl
 |d::l=>by rw[Rows.uptoBulkAll,Zy,List.sum_cons,Lb l]
def vY{H:Type}:Iw (Rows.uptoBulk (H:=H)):=
 ⟨fun j=>by rw[Lb,Rows.uptoBulk];exact Q6 _,fun e s=>by rw[Lb,Rows.uptoBulk];omega⟩
def nA{H:Type}{d:DataW H}{l:List (DataW H)}(h:Rows.uptoSmall H (d::l)=true):Rows.uptoBulk d<=1048576:=by
 have j:=Zo h;rw[Rows.uptoBulkAll]at j;omega
end Go.Tm
namespace Go.Tm
open Go.ChangeShapes Go.Proofs Go.RowKit Go.WideShapes Go.Proofs.Tryz
variable{W:Qm}{v:Q0}
def QU(t:Aa):1<=t.count:=by cases t;rw[Aa.count];omega
def QV{d:Nat}(ih:∀t:Aa,(t.cut d).count<=t.count):∀(n:Nat) (l:Qp),Q7 ((l.take n).map (Aa.cut d))<=Q7 l
 |0,_=>by simp only[E2,EV];rw[Q7];exact Xi _
 |_+1,[]=>by simp only[List.take_nil,EV];exact Q6 _
 |n+1,t::l=>by
  rw[Nc,Zy,Q7,Q7];have h1:=ih t;have j:=QV ih n l;omega
def VK:∀(d:Nat) (t:Aa),(t.cut d).count<=t.count
 |0,t=>by
  have h1:=QU t;rw[Aa.cut,Aa.count,Q7];exact h1
 |d+1,.node h l=>by
  rw[Aa.cut,Aa.count,Aa.count]
  have:=QV (VK d) 40 l;simp only[Aa.l]at*
  omega
def vZ(t:Aa):(MH t).count<=t.count:=by
 unfold MH;split
 ·have j:=QU t;rw[Aa.count,Q7];exact j
 ·exact VK 17 t
def Qhv{P:Prop}(h:P:=by
 cases v with
 |agg cs=>
  simp only[Value.cells]at hcs;rw[show cs=(Qn t.hd lv).toArray from Array.ext' (by simpa using hcs)]
 |_=>simp[Value.cells]at hcs):P:=h
def ZB{H:Type}{enc:TypeId × Q0->H}{base:Nat}{spare:Nat->Bool}{held:Bool}{d:DataW H}{p:List MemPlace}(h:DataW.Trod enc prog W base spare held 27 v d p):∃(t:Aa) (lv:Q0),v=Qu t.hd lv/\t.AS W lv/\∀B:DataW H->Nat,Iw B->t.count<=B d:=by
 obtain⟨j,z⟩:=h;obtain⟨t,lv,hcs,y,q⟩:=YU j _ _ z;refine⟨t,lv,?_,y,q⟩;exact Qhv
end Go.Tm
namespace Go.Proofs.YtkfaoeobfigagaaGreatDoor.embedShellsUpto
open Go.ChangeAt Go.ChangeShapes Go.RowKit Go.WideShapes Go.Proofs.Tryz
def own:ownKnob prog.godebug=none:=by kernel_rfl
def reads(os:Os){H:Type}(enc:TypeId × Value->H):∃places,DataW.whole enc prog ((World.laidAll prog os Rows.embedShellsUptoRow.laid).forCall (fun _ _=>0) ⟨#[],#[.agg #[.int .i64 0,.bool false,.bool false,.string ByteArray.empty,.int .i64 0,.int .u64 0,.int .i64 0,.string ByteArray.empty,.slice none 0 0]],[]⟩).memory f8.params.toList Rows.embedShellsSpec.vars false #[Value.agg #[.int .i64 0,.bool false,.bool false,.string ByteArray.empty,.int .i64 0,.int .u64 0,.int .i64 0,.string ByteArray.empty,.slice none 0 0]].toList 8=some ([.agg [.lit (.int .i64 0),.lit (.bool false),.agg [.lit (.bool false),.lit (.string []),.lit (.int .i64 0)],.lit (.int .u64 0),.lit (.int .i64 0),.lit (.string []),.nil]],[],places):=
 ⟨[],kM⟩
def okw(os:Os):Input.okWideB prog ((World.laidAll prog os Rows.embedShellsUptoRow.laid).forCall (fun _ _=>0) ⟨#[],#[.agg #[.int .i64 0,.bool false,.bool false,.string ByteArray.empty,.int .i64 0,.int .u64 0,.int .i64 0,.string ByteArray.empty,.slice none 0 0]],[]⟩) 8 ⟨#[],#[.agg #[.int .i64 0,.bool false,.bool false,.string ByteArray.empty,.int .i64 0,.int .u64 0,.int .i64 0,.string ByteArray.empty,.slice none 0 0]],[]⟩=true:=by kernel_rfl
def lifted(os:Os)(started:os.Started)(H:Type)(enc:TypeId × Value->H)(F:Stop.Interp):
  ReturnsInHanded {} checked os 8 .any ((Rows.OpenSpec.upto Rows.embedShellsSpec).preRow enc prog f8 [] false Rows.embedShellsUptoRow.laid)
   (((Rows.OpenSpec.upto Rows.embedShellsSpec).at F).post enc prog f8 false true false false):=by
 obtain⟨a0,hx⟩:=reads os enc
 refine returnsInHanded_of_row (C:=checked) (s:=Rows.OpenSpec.upto Rows.embedShellsSpec) own started (by kernel_rfl) func8
  ⟨World.laidAll prog os Rows.embedShellsUptoRow.laid,fun _ _=>0,⟨#[],#[.agg #[.int .i64 0,.bool false,.bool false,.string ByteArray.empty,.int .i64 0,.int .u64 0,.int .i64 0,.string ByteArray.empty,.slice none 0 0]],[]⟩,World.laidAll_os _ _ _,World.shaped_of_ZipB (by kernel_rfl) (by kernel_rfl),(Input.okWide_of_okWideB (base:=0) (okw os)).1,(Input.okWide_of_okWideB (okw os)).2,
   OpenSpec.preRow_of_cond 8 hx (by kernel_rfl) (fun k hk=>by cases hk;kernel_rfl) (by kernel_rfl) (by rw[MakeChecks.laidMetH_plain _ _ _ (by kernel_rfl)];exact laidMet_laidAll _ (by kernel_rfl) (by kernel_rfl)),
   by simp only[Assume.holds];exact⟨by simp,by simp,fun _=>Modest.zero,by simp,by simp⟩⟩ ?_
 intro W base m ds gs a1 c hW _ b _ hL _ _
 have d:∀(j:Nat) t v,f8.params[j]? =some t->m[j]? =some v->Value.okWide prog W .any base t v:=c
 have f:=hW
 have r:=b _ rfl
 obtain⟨p,q,a4,hV,rfl,_,_⟩:=hW
 have hA:DataW.TrodAll enc prog W 0 (fun _=>true) true f8.params.toList m.toList ds p:=a4
 rw[params8]at hA d
 obtain⟨v0,d0,rfl,rfl,h0⟩:=trodAll_one hA
 obtain⟨rfl,rfl⟩:=trodVars_none hV
 obtain⟨t0,a3,rfl,n,u⟩:=Go.Tm.ZB h0
 have y:(Go.Tm.MH t0).count<=1152921504606846976:=by
  have h5:=u _ Go.Tm.vY;have h6:=Go.Tm.nA r;have h7:=Go.Tm.vZ t0;omega
 rw[MakeChecks.laidMetH_plain _ _ _ (by kernel_rfl)]at hL
 obtain⟨E,hG⟩:=Go.Tm.YW hL
 have z:∀x∈p,x.block<W.heap.size:=fun x hx=>f.lt x (by simp;exact hx)
 refine(Go.Tm.EmbedShells.Bx t0 a3 W hG n y).mono fun e W' ⟨he,hk⟩=>?_
 subst he
 exact⟨_,rfl,Go.Tm.VT (pa:=p++([])) (pv:=[]) f (fun _ _ _=>(trodAll_cons_mk (shut_bool underlying4 _) trodAll_mk0))
  (fun sp a2=>(trodAll_cons_mk (Go.Tm.jL h0 hk z (fun x hx=>a2 x (by simp;exact hx))) trodAll_mk0)) (fun _ _=>rfl) (by simp)
  hk (ok_one (by kernel_rfl) rfl (okWide_bool_mk underlying4 _))⟩
end Go.Proofs.YtkfaoeobfigagaaGreatDoor.embedShellsUpto
