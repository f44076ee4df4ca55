/-
  Part 6 of what the claim leans on: contracts of the functions that the law reaches, and plain facts. Conditions: the theorems' own.
-/
import Derived.Shelf.SlSortCmp.KitK
import Derived.RangeFuncBox
import Derived.Test.YtkfaoeobfigagaaGreatDoorShYE
set_option linter.all false
set_option maxRecDepth 100000
set_option maxHeartbeats 16000000
namespace Go.Tm
open Go.Proofs Go.RowKit Go.Proofs.Tryz
variable{F:Fence}{B N b n:Nat}{P:Program}{Q:Exit->Act->Qm->Prop}{ops:Array Oper}{o oL:Oper}{a:Act}{w w':Qm}{E:Am}{f0:Nat × Nat}{S:Qz}{l:Qp}{lv v v':Q0}{X:Hd->Dc × Bool}{h:Hd}{x:Aa}
def ID:=@Nat.max_assoc
def SA(B b c g:Nat)(xs:Qv)(w:Qm)(h:Wr B b xs w)(hg:w.heap[g]? =some (.cells #[.int .u8 (c:Int)] 5 (0,0)))(hgB:g<B∨∀B',B'=B->g≠b)(hlen:xs.length<=1000000)(hBw:B<=w.heap.size):
  Calls prog 396 #[.pointer (some ⟨b,0,none⟩),.slice (some ⟨g,0,none⟩) 1 1] w fun e w'=>(∃v,e=.returned v)/\Wr B b (xs++[c]) w'/\Ac (N2 B b) w w':=by
 have j:=UD T0 B b c xs w h oM hBw
 have z:w.cell? (ad g 0)=some (.int .u8 (c:Int)):=Q4 hg
 go_in
 go_wp2
 refine Ik 2 ?_
 rw[Yg]
 go_wp2_with fail
 refine j.mono ?_
 rintro e m ⟨rfl,q,y⟩
 go_wp2_with fail
 rw[Yg]
 go_wp2
 go_end0
 exact⟨⟨_,rfl⟩,q,y⟩
def KC{id:Nat}{p:Prop}{S:Qm->Prop}[Fa p w S](hp:p)(h:AL (Dh F n P ops (Sp F n P ops Q oL) S reads (Vz ops.toList) a w.drew))(ho:nG ops.toList=some oL:=by rfl)(hF:∀f,F.fn f:=by exact fun _=>trivial)(hd:F.depth=none:=by rfl)(hm:P.follows .mixedOrders=true:=by kernel_rfl)(hc:Fb ops reads=true:=by kernel_rfl)(hw:((List.range (ops.size-1)).all fun i=>MN ops 10 i (ops.size-1))=true:=by kernel_rfl):(Code.region id ops true).wpIn F n P Q a w:=Gh S reads hF hd hm ho hc hw (Fa.o hp) h
def pJ{P Q:Prop}(h:Q)(f:Wz Q->P:=by
 intro zz;have hbn:=Qt w (.cells (nR h (.slice a n cap)) 27);have hk0:=LW w (.cells (nR h (.slice a n cap)) 27);revert hbn hk0;exact zz.o):P:=f ⟨h⟩
def DA{P Q:Prop}(h:Q)(f:Wz Q->P:=by
 intro zz;refine BD (G5 rfl ?_);exact zz.o):P:=f ⟨h⟩
def Qgx{P:Prop}(h:P:=by
 go_simp;refine(Qr (hws _ Xd)).mono ?_;rintro e w2 ⟨⟨v,rfl⟩,hb2,hk2⟩;clear n0 hws;go_wp2;go_end0;exact⟨⟨_,rfl⟩,hb2,hkw1.trans ⟨hk2.os,hk2.tape,hk2.output,hk2.size,hk2.same⟩⟩):P:=h
def pK{P:Prop}(h:P:=by
 rw[hys]at hws;clear n0 hhd hb1 hk1 hbn hk0 hl9 hb hys;have n0:=Qi hbn1;go_wp2;refine EA ?_;refine KC (n:=0) hbn1 ?_;simp only[Vz];repeat refine sX ?_
 refine DA ?_;exact Qgx):P:=h
def kH(B b:Nat)(h:Hd)(a:Jr)(n cap:Nat)(xs:Qv)(w:Qm)(hb:Wr B b xs w)(hs:h.s.size<=400)(hlen:xs.length<=1000)(hBw:B<=w.heap.size):
  Calls prog 379 #[.pointer (some ⟨b,0,none⟩),Qu h (.slice a n cap)] w fun e w'=>(∃v,e=.returned v)/\Wr B b (xs++Yo 3 h.s.size++Qf h.s) w'/\Ac (N2 B b) w w':=by
 refine pJ ?_
 intro hbn hk0
 have y:=Ow hb
 have hhd:=Mv B b 3 h.s.size xs _ (Rz hb hk0) dM oM oM (Qj hBw hk0.size)
 have n0:=Qi hbn
 have m:(h.s.size:Int)<=400:=oM
 generalize hys:xs++Yo 3 h.s.size=ys
 go_in
 go_wp2_with fail
 refine hhd.mono ?_
 rintro e z ⟨⟨v,rfl⟩,hb1,hk1⟩
 have hbn1:=hk1.same _ _ hbn ⟨oM,.inr fun c f e=>by cases e⟩
 have hkw1:Ac (N2 B b) w z:=(Ac.of_same hk0).trans hk1
 have hl9:=P5 3 h.s.size
 have q:=hk1.size
 have j:=hk0.size
 have hws:=fun W (hs2:Qd z W)=>Ck T0 B b h.s (xs++Yo 3 h.s.size) W (Rz hb1 hs2) (by rw[Zv];omega) (Qj hBw (Qj j (Qj q hs2.size)))
 exact pK
def sN(B b:Nat)(h:Hd)(a:Jr)(n cap:Nat)(xs:Qv)(w:Qm)(hb:Wr B b xs w)(hs:h.s.size<=400)(hlen:xs.length<=1000)(hBw:B<=w.heap.size):
  Calls prog 380 #[.pointer (some ⟨b,0,none⟩),Qu h (.slice a n cap)] w fun e w'=>(∃v,e=.returned v)/\Wr B b (xs++Yo 2 h.s.size++Qf h.s) w'/\Ac (N2 B b) w w':=by
 refine pJ ?_
 intro hbn hk0
 have y:=Ow hb
 have hhd:=Mv B b 2 h.s.size xs _ (Rz hb hk0) dM oM oM (Qj hBw hk0.size)
 have n0:=Qi hbn
 have m:(h.s.size:Int)<=400:=oM
 generalize hys:xs++Yo 2 h.s.size=ys
 go_in
 go_wp2_with fail
 refine hhd.mono ?_
 rintro e z ⟨⟨v,rfl⟩,hb1,hk1⟩
 have hbn1:=hk1.same _ _ hbn ⟨oM,.inr fun c f e=>by cases e⟩
 have hkw1:Ac (N2 B b) w z:=(Ac.of_same hk0).trans hk1
 have hl9:=P5 2 h.s.size
 have q:=hk1.size
 have j:=hk0.size
 have hws:=fun W (hs2:Qd z W)=>Ck T0 B b h.s (xs++Yo 2 h.s.size) W (Rz hb1 hs2) (by rw[Zv];omega) (Qj hBw (Qj j (Qj q hs2.size)))
 exact pK
def Rm(h:Hd):Qv:=
 if h.kind=1 then[246]
 else if h.kind=2 then(if h.b then[245]else[244])
 else if h.kind=3 then(if(Z9 h.d).1 then Yo 1 (((Z9 h.d).2.1+18446744073709551615) % 18446744073709551616)else Yo 0 (Z9 h.d).2.1)
 else if h.kind=5 then Yo 3 h.s.size++Qf h.s
 else if h.kind=6 then Yo 2 h.s.size++Qf h.s
 else[]
def sO(d:Dc):(Z9 d).2.1<18446744073709551616:=by
 unfold Z9;split
 ·decide
 ·show(Nt _).1<_;unfold Nt;split
  ·rename_i h;rw[X1]at h;exact Zo h.2
  ·decide
def kI(B b:Nat)(h:Hd)(a:Jr)(n cap:Nat)(xs:Qv)(w:Qm)(hb:Wr B b xs w)(hlen:xs.length<=1000)(hBw:B<=w.heap.size):
  Calls prog 375 #[.pointer (some ⟨b,0,none⟩),Qu h (.slice a n cap)] w fun e w'=>(∃v,e=.returned v)/\Wr B b (xs++[246]) w'/\Ac (N2 B b) w w':=by
 have j:Qd w ((w.alloc (.cells (nR h (.slice a n cap)) 27)).alloc (.cells #[.int .u8 (246:Nat)] 5)):=Xd
 have u:((w.alloc (.cells (nR h (.slice a n cap)) 27)).alloc (.cells #[.int .u8 (246:Nat)] 5)).heap[w.heap.size+1]? =some (.cells #[.int .u8 (246:Nat)] 5 (0,0)):=Ql sM
 have z:=Ow hb
 have m:=SA B b 246 (w.heap.size+1) xs _ (Rz hb j) u (.inr fun _ _=>oM) oM (Qj hBw j.size)
 go_in
 go_wp2_with fail
 refine m.mono ?_
 rintro e c ⟨⟨v,rfl⟩,q,y⟩
 clear m
 go_wp2_with fail
 go_end0
 exact⟨⟨_,rfl⟩,q,(Ac.of_same j).trans y⟩
def cR(B b:Nat)(h:Hd)(a:Jr)(n cap:Nat)(xs:Qv)(w:Qm)(hb:Wr B b xs w)(hlen:xs.length<=1000)(hBw:B<=w.heap.size):
  Calls prog 376 #[.pointer (some ⟨b,0,none⟩),Qu h (.slice a n cap)] w fun e w'=>(∃v,e=.returned v)/\Wr B b (xs++if h.b then[245]else[244]) w'/\Ac (N2 B b) w w':=by
 have p:=Ow hb
 have m:=Qt w (.cells #[.int .i64 h.kind,.bool h.b,.bool h.d.neg,.string h.d.digits,.int .i64 h.d.exp,.int .u64 (h.u:Int),.int .i64 h.w,.string h.s,.slice a n cap] 27)
 obtain⟨n0,n1,r,n3,n4,n5,n6,n7,n8⟩:=Qi m
 have y:∀c:Nat,Qd w ((w.alloc (.cells #[.int .i64 h.kind,.bool h.b,.bool h.d.neg,.string h.d.digits,.int .i64 h.d.exp,.int .u64 (h.u:Int),.int .i64 h.w,.string h.s,.slice a n cap] 27)).alloc (.cells #[.int .u8 (c:Int)] 5)):=fun c=>Xd
 have x:∀c:Nat,((w.alloc (.cells #[.int .i64 h.kind,.bool h.b,.bool h.d.neg,.string h.d.digits,.int .i64 h.d.exp,.int .u64 (h.u:Int),.int .i64 h.w,.string h.s,.slice a n cap] 27)).alloc (.cells #[.int .u8 (c:Int)] 5)).heap[w.heap.size+1]? =some (.cells #[.int .u8 (c:Int)] 5 (0,0)):=fun c=>Ql sM
 have k:=fun c=>SA B b c (w.heap.size+1) xs _ (Rz hb (y c)) (x c) (.inr fun _ _=>oM) oM (Qj hBw (y c).size)
 obtain⟨hB,z⟩:=X0 h.b
 cases hB with
 |true=>
  rw[z,Qe rfl];have q:=k 245;have j:=y 245;rw[z]at q j;clear k x m n0 r n3 n4 n5 n6 n7 n8;go_in;go_wp2_with fail;refine q.mono ?_;rintro e w1 ⟨⟨v,rfl⟩,f,t⟩;clear q n1;go_wp2_with fail;refine Xs (Dr rfl _ _ _) rfl ?_;exact⟨⟨_,rfl⟩,f,(Ac.of_same j).trans t⟩
 |false=>
  rw[z,Qa dM];have q:=k 244;have j:=y 244;rw[z]at q j;clear k x m n0 r n3 n4 n5 n6 n7 n8;go_in;go_wp2_with fail;refine q.mono ?_;rintro e w1 ⟨⟨v,rfl⟩,f,t⟩;clear q n1;go_wp2_with fail;go_end0;exact⟨⟨_,rfl⟩,f,(Ac.of_same j).trans t⟩
def sP(B b:Nat)(h:Hd)(a:Jr)(n cap:Nat)(xs:Qv)(w:Qm)(hG:Ah N E w)(hs:h.d.digits.size<=1099511627776)(hb:Wr B b xs w)(hlen:xs.length<=1000)(hBw:B<=w.heap.size):
  Calls prog 377 #[.pointer (some ⟨b,0,none⟩),Qu h (.slice a n cap)] w fun e w'=>(∃v,e=.returned v)/\Wr B b (xs++if(Z9 h.d).1 then Yo 1 (((Z9 h.d).2.1+18446744073709551615) % 18446744073709551616)else Yo 0 (Z9 h.d).2.1) w'/\Ac (N2 B b) w w':=by
 refine pJ ?_
 intro hbn hk0
 have n0:=Qi hbn
 have j:=EB h.d _ (hG.same hk0) hs
 have u:=sO h.d
 obtain⟨⟨p,k,ok⟩,t⟩:∃r,Z9 h.d=r:=⟨_,rfl⟩
 rw[t]at j u|-
 simp only at j u|-
 have z:=fun(m v:Nat) W (hs:Qd w W) (hm:m<=7) (hv:v<18446744073709551616)=>Mv B b m v xs W (Rz hb hs) hm hv oM (Qj hBw hs.size)
 cases p with
 |true=>
  rw[Qe rfl];have hw:IntKind.u64.wrap ((k:Int)-1)=(((k+18446744073709551615) % 18446744073709551616:Nat):Int):=by
   simp only[IntKind.wrap,IntKind.bits,IntKind.signed];simp;omega
  obtain⟨q,hq⟩:=X0 ((k+18446744073709551615) % 18446744073709551616);have a0:q<18446744073709551616:=oM;rw[hq]at hw|-;clear hq t hb;go_in;go_wp2_with fail;refine j.mono ?_;rintro e x ⟨rfl,y⟩;clear j n0;go_wp2_with fail;refine(z 1 q x (hk0.trans y) dM a0).mono ?_;rintro e w2 ⟨⟨v,rfl⟩,c,f⟩;clear z;go_wp2_with fail;refine Xs (Dr rfl _ _ _) rfl ?_;exact⟨⟨_,rfl⟩,c,(Ac.of_same (hk0.trans y)).trans f⟩
 |false=>
  rw[Qa dM];clear t hb;go_in;go_wp2_with fail;refine j.mono ?_;rintro e x ⟨rfl,y⟩;clear j n0;go_wp2_with fail;refine(z 0 k x (hk0.trans y) dM u).mono ?_;rintro e w2 ⟨⟨v,rfl⟩,c,f⟩;clear z;go_wp2_with fail;go_end0;exact⟨⟨_,rfl⟩,c,(Ac.of_same (hk0.trans y)).trans f⟩
def zJ{P Q:Prop}(h:Q)(f:Wz Q->P:=by
 intro zz;have hk1w:Qd w w1:=Xd;have hb1:=hk1.same (w.heap.size+1) _ (show _=some (.cells #[.bool false,.string ⟨#[]⟩,.int .i64 0] 23 (0,0)) from Ql sM) trivial;have c0:=Q1 hb1;have hf1:=Jd hb1;revert hk1w hb1 c0 hf1;exact zz.o):P:=f ⟨h⟩
def SB(X:Hd->Dc × Bool)(S:Qz)(t:Aa)(lv:Q0)(w:Qm)(hG:Ah N E w)(ho:t.hd.ok)(hr:Ad S w t.l lv)(hs:∀x∈t.flat,x.hd.s.size<=400)
  (hE:t.hd.kind=11->∀W,Qd w W->Calls prog 150 #[Qu t.hd lv] W fun e w'=>e=.returned (U9 (X t.hd))/\Qd W w'):
  Calls prog 90 #[Qu t.hd lv] w fun e w'=>e=.returned (U9 (Zw X t))/\Qd w w':=by
 obtain⟨a,m,rfl⟩:=hr.Ab
 obtain⟨h,l⟩:=t
 simp only[Aa.Ae,Aa.Ag]at*
 have p:=fun W hg (hh:Qd w W)=>cG (N:=N) (E:=E) h a l.length m W hg ho
 have n:=fun W hg (hh:Qd w W)=>sH (N:=N) (E:=E) S (.node h l) (.slice a l.length m) W hg ho (hr.same hh) hs
 have a3:=fun W=>Yn h.d W ho.2.2.2.2.1
 have j:Zw X (.node h l)=(if h.kind=3 then(h.d,Q2 h.d)
  else if h.kind=4 then D0 h
  else if h.kind=9 then Hr (.node h l)
  else if h.kind=11 then X h
  else(Ko,false)):=rfl
 obtain⟨⟨f1,f2⟩,hF⟩:∃q,D0 h=q:=⟨_,rfl⟩
 obtain⟨⟨g1,g2⟩,hT⟩:∃q,Hr (.node h l)=q:=⟨_,rfl⟩
 obtain⟨⟨x1,x2⟩,hX⟩:∃q,X h=q:=⟨_,rfl⟩
 obtain⟨r,hR⟩:∃q,Q2 h.d=q:=⟨_,rfl⟩
 rw[hF]at p j
 rw[hT]at n j
 rw[hX]at hE j
 rw[hR]at a3 j
 simp only[Aa.Ae]at n
 have v:=Qc j
 obtain⟨hk,hd,hw,hu,a7,a8⟩:=ho
 clear hF hT hX hR j hr hs
 go_in
 have a2:∀k:Int,h.kind=k->Qu h (.slice a l.length m)=.agg #[.int .i64 k,.bool h.b,.bool h.d.neg,.string h.d.digits,.int .i64 h.d.exp,.int .u64 (h.u:Int),.int .i64 h.w,.string h.s,.slice a l.length m]:=by
  intro k hk;subst hk;rfl
 by_cases h3:h.kind=3
 ·rw[Qe h3]at v;go_wp2_with fail;generalize a0:(w.alloc _).alloc _=W0;have a6:Qd w W0:=by rw[<-a0];exact((Ac.refl _ _).alloc _).alloc _
  have a4:W0.heap[w.heap.size]? =some (.cells #[.int .i64 3,.bool h.b,.bool h.d.neg,.string h.d.digits,.int .i64 h.d.exp,.int .u64 (h.u:Int),.int .i64 h.w,.string h.s,.slice a l.length m] 27 (0,0)):=by rw[<-a0];exact Qb (Ql sM)
  have a1:W0.heap[w.heap.size+1]? =some (.cells #[.bool false,.string ⟨#[]⟩,.int .i64 0] 23 (0,0)):=by rw[<-a0];exact Ql sM
  clear a0 p n hE;have n0:=Qi a4;have c0:=Q1 a1;have a9:=Jd a1;go_region_with (go_at_call 147;refine(a3 _).mono ?_;rintro e w1 ⟨rfl,hk1⟩;have a5:=hk1.s a4;have c:=hk1.s a1;have m0:=Qi a5;have q0:=Q1 c;have hf1:=Jd c;have hk1w:Qd w w1:=Ac.trans (Ac.drew a6) hk1);all_goals
   go_wp2_with fail
   (try simp only[Exit.inBlock,Exit.then])
   obtain⟨p3,p4⟩:=D5 (x:=.bool h.d.neg) (y:=.string h.d.digits) (z:=.int .i64 h.d.exp) hk1w c oM
   exact Xs (C9 _ _ (w.heap.size+1) h.d r rfl rfl p3) rfl ⟨by rw[v.out]<;>rfl,p4⟩
 ·rw[Qa h3]at v;by_cases h4:h.kind=4
  ·rw[Qe h4]at v;have e:=a2 4 h4;rw[e]at p;go_wp2_with fail;refine(p _ (hG.same Xd) Xd).mono ?_;rintro x w1 ⟨rfl,hk1⟩;refine zJ ?_;intro hk1w hb1 c0 hf1;go_wp2_with fail
   (try simp only[Exit.inBlock,Exit.then]);obtain⟨p3,p4⟩:=D5 (x:=.bool f1.neg) (y:=.string f1.digits) (z:=.int .i64 f1.exp) hk1w hb1 oM;exact Xs (C9 _ _ (w.heap.size+1) f1 f2 rfl rfl p3) rfl ⟨by rw[v.out]<;>rfl,p4⟩
  ·rw[Qa h4]at v;by_cases h9:h.kind=9
   ·rw[Qe h9]at v;have e:=a2 9 h9;rw[e]at n;go_wp2_with fail;refine(n _ (hG.same Xd) Xd).mono ?_;rintro x w1 ⟨rfl,hk1⟩;refine zJ ?_;intro hk1w hb1 c0 hf1;go_wp2_with fail
    (try simp only[Exit.inBlock,Exit.then]);obtain⟨p3,p4⟩:=D5 (x:=.bool g1.neg) (y:=.string g1.digits) (z:=.int .i64 g1.exp) hk1w hb1 oM;exact Xs (C9 _ _ (w.heap.size+1) g1 g2 rfl rfl p3) rfl ⟨by rw[v.out]<;>rfl,p4⟩
   ·rw[Qa h9]at v;by_cases f:h.kind=11
    ·rw[Qe f]at v;have e:=a2 11 f;rw[e]at hE;go_wp2_with fail;refine(hE f _ Xd).mono ?_;rintro x w1 ⟨rfl,hk1⟩;refine zJ ?_;intro hk1w hb1 c0 hf1;go_wp2_with fail
     (try simp only[Exit.inBlock,Exit.then]);obtain⟨p3,p4⟩:=D5 (x:=.bool x1.neg) (y:=.string x1.digits) (z:=.int .i64 x1.exp) hk1w hb1 oM;exact Xs (C9 _ _ (w.heap.size+1) x1 x2 rfl rfl p3) rfl ⟨by rw[v.out]<;>rfl,p4⟩
    ·rw[Qa f]at v;refine Qfs ?_;intro hkw hbw;go_wp2_with fail
     (try simp only[Exit.inBlock,Exit.then]);exact Xs (C9 _ _ (w.heap.size+1) Ko false rfl rfl hbw) rfl ⟨by rw[v.out]<;>rfl,hkw⟩
abbrev PB(E:Am)(b st:Nat)(w:Qm):Prop:=w.heap[b]? =some (.cells #[Dd E st] 68 (0,0))
def kJ{c0:Array Q0}(hb:w.heap[b]? =some (.cells c0 68 f0))(hk:Ac (fun k _=>k≠b) w w'):Ac (fun k o=>k≠b∨∃c f,o=.cells c 27 f) w w':=
 ⟨hk.os,hk.tape,hk.output,hk.size,fun k o q v=>by
  rcases v with h| ⟨c,f,e⟩
  ·exact hk.same k o q h
  ·by_cases j:k=b
   ·subst j;rw[hb]at q;cases q;cases e
   ·exact hk.same k o q j⟩
def Ad.Bc{c0:Array Q0}(hr:Ad S w l lv)(hb:w.heap[b]? =some (.cells c0 68 f0))(hk:Ac (fun k _=>k≠b) w w'):Ad S w' l lv:=
 hr.Af (kJ hb hk) fun _ _ c f=>.inr ⟨c,f,rfl⟩
def Ar.Bc{c0:Array Q0}(hr:Ar S w B lv l)(hb:w.heap[b]? =some (.cells c0 68 f0))(hk:Ac (fun k _=>k≠b) w w'):Ar S w' B lv l:=
 hr.Af (kJ hb hk) fun _ _ c f=>.inr ⟨c,f,rfl⟩
def Ah.Bc(hG:Ah N E w)(hN:N<=b)(hk:Ac (fun k _=>k≠b) w w'):Ah N E w':=hG.Af hk fun k j _=>oM
def Qgy(X:Hd->Dc × Bool)(N:Nat)(E:Am)(t:Aa):Prop:=
 t.hd.kind=11->∀(W:Qm) (lv:Q0),Ah N E W->N<=W.heap.size->Ad K3 W t.l lv->Calls prog 150 #[Qu t.hd lv] W fun e w'=>e=.returned (U9 (X t.hd))/\Qd W w'
def AQ(X:Hd->Dc × Bool)(N:Nat)(E:Am)(t:Aa):Prop:=∀x∈t.flat,Xc x=true/\Qgy X N E x/\(x.hd.kind=8->x.l.length<=40)
def AQ.B3(ht:AQ X N E (.node h l))(hx:x∈l):AQ X N E x:=fun y j=>ht y (K4 h l x hx y j)
def Ti(E:Am)(S:Qz)(b st:Nat)(r:Aa × Nat)(w:Qm):Ending->Qm->Prop:=fun x w'=>
 ∃lv',x=.returned (Qu r.1.hd lv')/\r.1.hd.ok/\Ad S w' r.1.l lv'/\PB E b (max st r.2) w'/\Ac (fun k _=>k≠b) w w'
def Fr(X:Hd->Dc × Bool)(N:Nat)(E:Am)(d:Nat):Prop:=
 ∀(t:Aa) (S:Qz) (lv:Q0) (w:Qm) (st b:Nat),t.depth<=d->Ah N E w->N<=b->st<=2->t.hd.ok->Ad S w t.l lv->(∀k,w.heap.size<=k->S k)->AQ X N E t->PB E b st w->
  Calls prog 45 #[.pointer (some ⟨b,0,none⟩),Qu t.hd lv] w (Ti E S b st (t.proj X) w)
def zK{N d:Nat}(hN:Fr X N E d)(h:Hd)(c:Aa)(S:Qz)(lv:Q0)(w:Qm)(st b:Nat)(hd:c.depth<=d)(hG:Ah N E w)(hNb:N<=b)(hst:st<=2)(hr:Ad S w [c] lv)
  (hS:∀k,w.heap.size<=k->S k)(hok:AQ X N E c)(hb:PB E b st w):
  Calls prog 154 #[.pointer (some ⟨b,0,none⟩),Qu h lv] w (Ti E S b st (c.proj X) w):=by
 obtain⟨n,a,a3,rfl,p,hi⟩:=hr.shape
 obtain⟨kb,a4,a7,rfl,a5,u,v,q,z⟩:=hi 0 sM
 simp only[Iv,CJ,Yf]at v q z
 have a2:=Qg hb
 have hkw:∀{x y:Obj},Qd w ((w.alloc x).alloc y):=fun{x y}=>((Ac.refl _ _).alloc _).alloc _
 refine zA ?_
 intro hcell
 obtain⟨ca,cc,rfl⟩:=v.Ab
 obtain⟨d0,d1,d2,d3,d4,d5,d6,d7,d8⟩:=Z0 z
 replace d0:=hcell d0
 replace d1:=hcell d1
 replace d2:=hcell d2
 replace d3:=hcell d3
 replace d4:=hcell d4
 replace d5:=hcell d5
 replace d6:=hcell d6
 replace d7:=hcell d7
 replace d8:=hcell d8
 have j:=fun W (hs:Qd w W) hz=>hN c (fun k=>S k/\k≠w.heap.size+1) (.slice ca c.l.length cc) W st b hd (hG.same hs) hNb hst q ((v.mono (fun k hk h=>(⟨h,oM⟩:_/\_))).same hs) hz hok (hs.s hb)
 unfold Ti at j|-
 obtain⟨⟨h',l'⟩,e',hP⟩:∃t e,c.proj X=(t,e):=⟨_,_,rfl⟩
 rw[hP]at j|-
 simp only[Aa.Ae,Aa.Ag]at j|-
 clear hi u p n hP hr hN z
 go_in
 go_wp2_with fail
 refine(j _ Xd (fun k hk=>⟨hS k (by simp at hk;omega),by simp at hk;omega⟩)).mono ?_
 rintro x w1 ⟨a8,rfl,a0,f,a1,r⟩
 have m:=r.same (w.heap.size+1) _ (show _=some (.cells (Qn (Qh 0) jH).toArray 27 (0,0)) from Ql sM) oM
 obtain⟨ra,rc,rfl⟩:=f.Ab
 have c0:=Qi m
 have a6:=Jd m
 have hk2:Ac (fun k _=>k≠b) w w1:=Ac.trans (((Ac.refl _ _).alloc _).alloc _) r
 clear d0 d1 d2 d3 d4 d5 d6 d7 d8 hcell hkw j
 go_wp2_with fail
 (try simp only[Exit.inBlock,Exit.then])
 obtain⟨h9,hk9⟩:=Yw m h' (.slice ra l'.length rc)
 refine DS rfl rfl h9 rfl ⟨_,rfl,a0,?_,?_,?_⟩
 ·exact(f.Af hk9 fun k hk _ _=>hk.2).mono fun _ _ h=>h.1
 ·exact hk9.same _ _ a1 oM
 ·exact Qfo
def zL{P:Prop}(h:P:=by
 unfold Oper.wpIn;refine⟨?_,?_⟩
 ·simp[Oper.about,ho,resolve,Target.leads,N4]
 ·rw[VW F _ _ (by rw[ho];intro c hc';cases hc')];simp[execOp,ho,resolve,invoke,builtin,hs,hx,hrun,Result.andThen];exact hK):P:=h
def cU{K:Act->Qm->Prop}{t:TypeId}{ad:Addr}{m c:Nat}(s x:Operand)
  (ho:o.op=.call {callee:=.builtin .append,args:=#[s,x],argTypes:=#[t,t]})(hs:a.eval s=v)(hx:a.eval x=.slice (some ad) m c)
  (hrun:(Builtin.append_ #[t,t] o.type #[v,.slice (some ad) m c]).run prog w=.ok v' w')(hK:K (a.put o.dst v') w'):o.wpIn F n prog a w K Q:=by
 exact zL
def UG(X:Hd->Dc × Bool):∀(l:Qp) (x:Aa),Zc X (l++[x])=((Zc X l).1++[(x.proj X).1],max (Zc X l).2 (x.proj X).2)
 | [],x=>by simp[Zc]
 |y::l,x=>by
  rw[Y0,Zc,UG X l x,Zc];simp only[Y0,ID]
def kK(X:Hd->Dc × Bool)(l:Qp)(k:Nat)(h:k<l.length):Zc X (l.take (k+1))=((Zc X (l.take k)).1++[(l[k].proj X).1],max (Zc X (l.take k)).2 (l[k].proj X).2):=by
 rw[Gl h,UG]
def KD(X:Hd->Dc × Bool):∀l:Qp,(Zc X l).1.length=l.length
 | []=>by simp[Zc]
 |x::l=>by rw[Zc];simp[KD X l]
def UH{P Q:Prop}(h:Q)(f:Wz Q->P:=by
 intro zz;simp only[Aa.Ae,Aa.Ag];exact zz.o):P:=f ⟨h⟩
def kL{N d:Nat}(hN:Fr X N E d)(hle:∀t:Aa,(t.proj X).2<=2)(h:Hd)(l:Qp)(S:Qz)(lv:Q0)(w:Qm)(st b:Nat)(hd:Xr l<=d)(hG:Ah N E w)(hNb:N<=b)(hst:st<=2)(hr:Ad S w l lv)
  (hS:∀k,w.heap.size<=k->S k)(hok:∀x∈l,AQ X N E x)(hb:PB E b st w):
  Calls prog 155 #[.pointer (some ⟨b,0,none⟩),Qu h lv] w (Ti E S b st (.node (Qh 7) (Zc X l).1,(Zc X l).2) w):=by
 obtain⟨de,a,a7,rfl,df,hi⟩:=hr.shape
 have dd:=Qg hb
 unfold Ti
 refine UH ?_
 go_in
 go_wp2
 have d0:((((w.alloc (.cells (nR h (.slice a l.length a7)) 27)).alloc (.cells zR 27)).alloc (.cells #[i6 7,.bool false,.bool false,.string ⟨#[]⟩,i6 0,.int .u64 0,i6 0,.string ⟨#[]⟩,.slice none 0 0] 27)).heap[w.heap.size]? =some (.cells (nR h (.slice a l.length a7)) 27 (0,0))):=Qb (Qb (Qt w _))
 have ca:((((w.alloc (.cells (nR h (.slice a l.length a7)) 27)).alloc (.cells zR 27)).alloc (.cells #[i6 7,.bool false,.bool false,.string ⟨#[]⟩,i6 0,.int .u64 0,i6 0,.string ⟨#[]⟩,.slice none 0 0] 27)).heap[w.heap.size+1]? =some (.cells zR 27 (0,0))):=Qb (Ql sM)
 have c3:((((w.alloc (.cells (nR h (.slice a l.length a7)) 27)).alloc (.cells zR 27)).alloc (.cells #[i6 7,.bool false,.bool false,.string ⟨#[]⟩,i6 0,.int .u64 0,i6 0,.string ⟨#[]⟩,.slice none 0 0] 27)).heap[w.heap.size+1+1]? =some (.cells #[i6 7,.bool false,.bool false,.string ⟨#[]⟩,i6 0,.int .u64 0,i6 0,.string ⟨#[]⟩,.slice none 0 0] 27 (0,0))):=Ql sM
 have c6:Qd w (((w.alloc (.cells (nR h (.slice a l.length a7)) 27)).alloc (.cells zR 27)).alloc (.cells #[i6 7,.bool false,.bool false,.string ⟨#[]⟩,i6 0,.int .u64 0,i6 0,.string ⟨#[]⟩,.slice none 0 0] 27)):=Xd
 have d8:(((w.alloc (.cells (nR h (.slice a l.length a7)) 27)).alloc (.cells zR 27)).alloc (.cells #[i6 7,.bool false,.bool false,.string ⟨#[]⟩,i6 0,.int .u64 0,i6 0,.string ⟨#[]⟩,.slice none 0 0] 27)).heap.size=w.heap.size+3:=sM
 generalize(((w.alloc (.cells (nR h (.slice a l.length a7)) 27)).alloc (.cells zR 27)).alloc (.cells #[i6 7,.bool false,.bool false,.string ⟨#[]⟩,i6 0,.int .u64 0,i6 0,.string ⟨#[]⟩,.slice none 0 0] 27))=W1 at d0 ca c3 c6 d8|-
 have cf:Ac (fun k _=>k≠b) w W1:=Ac.of_same c6
 generalize d7:w.heap.size+1+1=ob at c3|-
 go_loopw [12] (fun iv wr=>∃(k:Nat) (v:Q0),k<=l.length/\iv=i6 (k:Int)/\wr.heap[ob]? =some (.cells #[i6 7,.bool false,.bool false,.string ⟨#[]⟩,i6 0,.int .u64 0,i6 0,.string ⟨#[]⟩,v] 27 (0,0))/\Ar (fun x=>S x/\(x<w.heap.size∨w.heap.size+3<=x)) wr (w.heap.size+3) v (Zc X (l.take k)).1/\
  wr.heap[w.heap.size]? =some (.cells (nR h (.slice a l.length a7)) 27 (0,0))/\wr.heap[w.heap.size+1]? =some (.cells zR 27 (0,0))/\PB E b (max st (Zc X (l.take k)).2) wr/\Ac (fun k _=>k≠b) w wr/\w.heap.size+3<=wr.heap.size) (fun iv _=>l.length-(RowKit.intOf iv).toNat)
 case atStart=>exact⟨0,_,Xi _,rfl,c3,Ar.nil _ _ _,d0,ca,by simpa[Zc] using c6.s hb,cf,oM⟩
 case round=>
  obtain⟨k,v,f6,rfl,c8,z,d6,b7,af,a1,hz⟩:=hrel;have p:(Zc X (l.take k)).1.length=k:=by rw[KD,Ji];omega
  obtain⟨va,vc,hv⟩:=z.Ab;rw[p]at hv;subst hv;by_cases b5:k<l.length
  ·obtain⟨kb,f5,f2,rfl,f0,⟨f4,fc,b9⟩,d4,ba,bd⟩:=hi k b5;have ce:=Zd (kJ hb a1) (fun o ho=>by rw[b9]at ho;cases ho;exact .inr ⟨_,_,rfl⟩) bd;have a0:=kK X l k b5;have bb:=hok l[k] (Zp b5);have db:=Nh l k b5;have b1:=(d4.mono (S':=fun y=>(S y/\(y<w.heap.size∨w.heap.size+3<=y))/\(Value.slice va k vc).ownBlock≠some y) fun y hy h=>⟨⟨h,.inl hy⟩,z.apart oM⟩).Bc hb a1;have bh:(Zc X (l.take k)).2<=2:=by
    have:=hle (.node (Qh 7) (l.take k));rw[Aa.proj]at this;simpa[Zw,Qh] using this
   generalize hx:l[k]=x at a0 bb db b1 ba ce;obtain⟨⟨pl,pe⟩,hp⟩:∃q,Zc X (l.take k)=q:=⟨_,rfl⟩;rw[hp]at a0 z af p bh;have b2:=fun y (hy:wr.heap.size<=y)=>z.lt hy
   replace a0:=Qc a0;clear hp hx bd d4 b9;simp only at z af p bh;obtain⟨xa,xc,rfl⟩:=b1.Ab;have c0:=Rv ce;go_wp2;have a9:=Qt wr (.cells (nR x.hd (.slice xa x.l.length xc)) 27);have a2:=LW wr (.cells (nR x.hd (.slice xa x.l.length xc)) 27);have d9:(wr.alloc (.cells (nR x.hd (.slice xa x.l.length xc)) 27)).heap.size=wr.heap.size+1:=sM;generalize(wr.alloc (.cells (nR x.hd (.slice xa x.l.length xc)) 27))=W5 at a9 a2 d9|-;have ah:=a2.s c8;have b4:=a2.s af;have q0:=Qi ah;have p0:=Qi a9;have a4:=fun W (hs:Qd W5 W)=>hN x (fun y=>(S y/\(y<w.heap.size∨w.heap.size+3<=y))/\(Value.slice va k vc).ownBlock≠some y) (.slice xa x.l.length xc) W (max st pe) b oM (((hG.Bc hNb a1).same a2).same hs) hNb oM ba ((b1.same a2).same hs)
    (fun y hy=>⟨⟨hS y (by have:=hs.size;omega),.inr (by have:=hs.size;omega)⟩,b2 y (by have:=hs.size;omega)⟩) bb (hs.s b4)
   unfold Ti at a4;obtain⟨⟨h6,l6⟩,e6,cd⟩:∃t e,x.proj X=(t,e):=⟨_,_,rfl⟩;rw[cd]at a4 a0;simp only[Aa.Ae,Aa.Ag]at a4 a0;clear cd;refine EA ?_;refine KC (n:=0) (And.intro ah a9) ?_;simp only[Vz];repeat refine sX ?_
   refine Vr ?_;intro K hK;refine(Qr (a4 _ Xd)).mono ?_;rintro x' w6 ⟨dg,rfl,cg,d2,be,a5⟩;have aa:=a5.same _ _ ah oM;have ab:=a5.same _ _ a9 oM;have f1:W5.heap.size<=w6.heap.size:=a5.size;obtain⟨a6,c9,rfl⟩:=d2.Ab;have c7:PB E b (max st pe) W5.drew:=b4;have c2:=(z.same (a2.drew)).Bc c7 a5;refine hK _ _ ⟨aa,ab⟩ ?_;clear hK K a4;refine Vr ?_;intro K hK;refine hK _ _ ⟨Qb aa,Qb ab⟩ ?_;clear hK K;obtain⟨v8,w8,bc,b3,b8⟩:=E8 (S:=fun x=>S x/\(x<w.heap.size∨w.heap.size+3<=x)) (w:=w6.alloc (.cells (Qn h6 (.slice a6 l6.length c9)).toArray 27)) (B:=w.heap.size+3) (v:=.slice va k vc) (l:=pl) (ts:=[.node h6 l6]) (ad:=(ad w6.heap.size 0)) (c:=1) (m:=1) (news:=Qn h6 (.slice a6 l6.length c9)) 25
    (c2.same ((Ac.refl _ _).alloc _)) rfl (Y4 (Kc.2 ⟨cg,_,rfl,d2.same ((Ac.refl _ _).alloc _)⟩)) (fun j u h=>Jw _ _ _ _ _ h) (N6 _ _ _ _) (by simp only[Xf,Vp];omega) (by simp;omega)
   have dc:(pl++[Aa.node h6 l6]).length=k+1:=by rw[Zv,p];rfl
   clear p;refine Kd rfl rfl ?_;intro K hK;refine cU _ _ rfl rfl rfl bc ?_;obtain⟨a8,b6,cb⟩:=b3.Ab;rw[dc]at cb;subst cb;have c5:∀y,y<w.heap.size+3->(Value.slice va k vc).ownBlock≠some y:=fun y hy=>z.apart hy
   have ac:=(b8.block ob (by simp;have:=Qg aa;omega) (fun e=>c5 ob oM e.symm)).trans (Qb aa);have bf:=(b8.block wr.heap.size (by simp;have:=Qg ab;omega) (fun e=>b2 _ (Q6 _) e.symm)).trans (Qb ab);refine hK _ _ ⟨ac,bf⟩ ?_;clear hK K bc;repeat refine sX ?_
   refine DA ?_;have q0:=Qi ac;have d5:=Jd ac;go_simp;have a3:Ac (fun y _=>(Value.slice va k vc).ownBlock≠some y) w6 w8:=((Ac.refl _ w6).alloc _).grown b8 fun r hr o _ hs _=>hs hr
   have f:Ac (fun y _=>y≠ob) w8 (w8.setCell (ad ob 8) (.slice a8 (k+1) b6)):=(Ac.refl _ w8).setCell _ fun o _ hs _=>hs rfl
   have c1:=Qk ac 8 (.slice a8 (k+1) b6);have f3:=a3.size;have da:=f.size;generalize(w8.setCell (ad ob 8) (.slice a8 (k+1) b6))=w9 at f c1 da|-;have ag:∀y o,wr.heap[y]? =some o->y<w.heap.size+2->y≠b->w9.heap[y]? =some o:=fun y o hy dh b0=>f.same _ _ (a3.same _ _ (a5.same _ _ (a2.s hy) b0) (c5 y oM)) oM
   have cc:=ag _ _ d6 oM oM;have d3:=ag _ _ b7 oM oM;have bg:PB E b (max (max st pe) e6) w9:=f.same _ _ (a3.same _ _ be (c5 b oM)) oM;have c4:Ar (fun x=>S x/\(x<w.heap.size∨w.heap.size+3<=x)) w9 (w.heap.size+3) (.slice a8 (k+1) b6) (pl++[.node h6 l6]):=b3.Af f fun y hy _ _=>by rcases hy with⟨_,h|h⟩|h<;>omega
   have d1:Ac (fun k _=>k≠b) w w9:=⟨f.os.trans (a3.os.trans (a5.os.trans (a2.os.trans a1.os))),f.tape.trans (a3.tape.trans (a5.tape.trans (a2.tape.trans a1.tape))),f.output.trans (a3.output.trans (a5.output.trans (a2.output.trans a1.output))),oM,
    fun y o hy b0=>ag y o (a1.same y o hy b0) (Ku hy) b0⟩
   clear ag f a3 b8 a5 a2 ac bf aa ab ah a9 b4 be q0 p0 c0 d5;rw[ID]at bg;go_wp2;refine⟨?_,by simp[RowKit.intOf];omega⟩;exact⟨k+1,_,oM,by go_num,c1,by rw[a0.out];exact c4,cc,d3,by rw[a0.out];exact bg,d1,oM⟩
  ·obtain rfl:k=l.length:=oM;rw[Vc]at z af p;obtain⟨⟨pl,pe⟩,hp⟩:∃q,Zc X l=q:=⟨_,rfl⟩;rw[hp]at z af p;simp only at z af p;have HP:=Qc hp;subst d7;have ch:=z.rep (S:=fun x=>S x/\(x<w.heap.size∨w.heap.size+3<=x)) (fun y hy=>⟨hS y oM,.inr hy⟩) oM;have q0:=Qi c8;have p0:=Qi b7;have d5:=Jd b7;clear hN hi hok hp hr;go_wp2
   (try simp only[Exit.inBlock,Exit.then]);obtain⟨h9,ae⟩:=FN b7 7 0 0 (.slice va l.length vc);refine DS rfl rfl h9 rfl ⟨_,rfl,K1 7 dM,?_,?_,?_⟩
   ·rw[HP.out];exact(ch.Af ae fun y hy _ _=>by rcases hy with⟨_,h|h⟩<;>omega).mono fun _ _ h=>h.1
   ·rw[HP.out];exact ae.same _ _ af oM
   ·exact⟨ae.os.trans a1.os,ae.tape.trans a1.tape,ae.output.trans a1.output,Qj a1.size ae.size,fun y o hy b0=>ae.same y o (a1.same y o hy b0) (Ku hy)⟩
end Go.Tm
namespace Go.Tm
open Go.Lib Go.Proofs Go.RowKit Go.Shelf Go.Sort Go.Proofs.Tryz
variable{w w':Qm}{S:Qz}{g:Nat}{s:Qo}
def Qgz:=@Array.getElem?_append_left
def cV:=@List.flatMap_append
def Ox:=@List.flatMap_cons
def P6:=@wpList_load_mid
def Qg0:Ren:=⟨fun|20=>349|n=>n,fun|24=>171|22=>168|3=>3|25=>254|4=>4|0=>0|n=>n,fun n=>n⟩
def Qea:SlLaysF0.n20 prog Qg0:={
 mixed:=kM
 f20:=⟨"slices.insertionSortCmpFunc[targum/proj.member]",Zo kM,func349.trans (congrArg some kM)⟩
 t0:=underlying0
 a0:=isAgg0
 z0:=sizeOf0
 v0:=zeroValue0
 t3:=underlying3
 a3:=isAgg3
 z3:=sizeOf3
 v3:=zeroValue3
 t4:=underlying4
 a4:=isAgg4
 z4:=sizeOf4
 v4:=zeroValue4
 t22:=underlying168
 a22:=isAgg168
 z22:=sizeOf168
 v22:=zeroValue168
 t25:=underlying254
 a25:=isAgg254
 z25:=sizeOf254
 v25:=zeroValue254}
structure Ap where
 s:Qo
 g:Hd
 a:Jr
 n:Nat
 c:Nat
 l:Qp
 ka:Jr
 kc:Nat
def Ap.cs(m:Ap):Kb:=Ol (Xy m.s) m.g (.slice m.ka 0 m.kc) (.slice m.a m.n m.c)
def Ap.pair(m:Ap):Qo × Aa:=(m.s,.node m.g m.l)
def Ap.AZ(m:Ap):m.cs.length=18:=rfl
def zM{P:Prop}(h:P:=by
 rcases hv with rfl|rfl|rfl|rfl|rfl|rfl|rfl|rfl|rfl|rfl|rfl|rfl|rfl|rfl|rfl|rfl|rfl|rfl<;>rfl):P:=h
def Ap.Bf(m:Ap):∀v∈m.cs,v.oneCell'=true:=by
 intro v hv;simp[Ap.cs]at hv;exact zM
def FC(x y:Ap):Int:=cmpB x.s y.s
def kN(x y:Ap)(W:Qm):Calls prog 245 #[.agg x.cs.toArray,.agg y.cs.toArray] W fun e w'=>e=.returned (.int .i64 (FC x y))/\∃q os',w'=grow (W.drewN q) os':=by
 have u:=fun W'=>Qd5 x.s y.s W'
 unfold FC;generalize cmpB x.s y.s=r at u|-;obtain⟨d,p,b,k,c1,l1,j,m⟩:=x;obtain⟨s2,g2,f,c,t,l2,n,z⟩:=y;show Calls prog 245 #[bX (Xy d) p (.slice j 0 m) (.slice b k c1),bX (Xy s2) g2 (.slice n 0 z) (.slice f c t)] W _;go_in;go_wp2_with(go_at_call 304;refine(u _).mono ?_;rintro e w1 ⟨rfl,v⟩;replace v:=v.symm;subst v);go_ret;exact⟨rfl,0,_,by rw[alloc_eq_grow,alloc_eq_grow,grow_grow];rfl⟩
def IE(blk cap a b:Nat)(d:Array Ap)(w:Qm)(hH:HoldsK Ap.cs 18 w blk 0 d)(hblk:blk<w.heap.size)(hab:a<=b)(hb:b<=d.size)(hsz:d.size<4611686018427387904):
  Calls prog 349 #[.slice (some ⟨blk,0,none⟩) d.size cap,.int .i64 a,.int .i64 b,.func (.func 245) #[] #[]] w fun e w'=>
   e=.returned (.tuple #[])/\∃n os,w'=sortWorldK Ap.cs 18 w blk 0 n (Sort.insertionSort (ltOf FC) d a b) os:=by
 refine AnyQ.insertionSortCmpFunc Qea 18 isAgg171 sizeOf171 Ap.cs (fun _=>rfl) Ap.Bf FC 245 #[] blk 0 cap a b d w (X3 func245 kM rfl) ?_ hH hblk hab hb hsz
 intro m os j _ x y
 exact kN x y _
def pL:SWO (ltOf FC) where
 irrefl x:=Oo.irrefl x.s
 trans x y z:=Oo.trans x.s y.s z.s
 ntrans x y z:=Oo.ntrans x.s y.s z.s
def kO(blk cap:Nat)(d:Array Ap)(w:Qm)(hH:HoldsK Ap.cs 18 w blk 0 d)(hblk:blk<w.heap.size)(h20:d.size<=20):
  Calls prog 303 #[.slice (some ⟨blk,0,none⟩) d.size cap,.int .i64 (d.size:Int),.func (.func 245) #[] #[]] w fun e w'=>
   e=.returned (.tuple #[])/\∃d',PermIn 0 d.size d d'/\SortedIn (ltOf FC) 0 d.size d'/\SWK Ap.cs 18 w blk 0 d' w':=by
 by_cases h:d.size=20
 ·have q:=fun cap=>IE blk cap 0 20 d w hH hblk oM oM oM
  have j:=insertionSort_holds (lt:=ltOf FC) pL d 0 20 oM oM;generalize z:Sort.insertionSort (ltOf FC) d 0 20=d1 at q j;have u:d1.size=d.size:=j.1.1;have h2:∀W,SWK Ap.cs 18 w blk 0 d1 W->Calls prog 349 #[.slice (some (ad blk 0)) 20 cap,i6 (20:Nat),i6 (20:Nat),.func (.func 245) #[] #[]] W fun e w'=>
    e=.returned (.tuple #[])/\SWK Ap.cs 18 w blk 0 d1 w':=by
   intro W b
   have:=IE blk cap 20 20 d1 W (b.holds hblk hH u) (b.lt hblk) oM oM oM;rw[u,h]at this;refine this.mono ?_;rintro e w' ⟨r,n,os,x⟩;have c:Sort.insertionSort (ltOf FC) d1 20 20=d1:=by unfold Sort.insertionSort;rw[insOuter_stop _ _ _ _ _ oM]
   rw[c]at x;refine⟨r,?_⟩;rw[x];exact b.on hblk n d1 os rfl
  rw[h]at q|-;have p:=Qc j;clear j hH z;go_in;go_wp2;refine Ik 2 ?_;rw[Yg];go_wp2_with(go_at_call 349;refine(q _).mono ?_;rintro e f ⟨rfl,k,v,m⟩;have y:SWK Ap.cs 18 w blk 0 d1 f:=⟨k,v,m⟩;clear m q);rw[Yg];go_wp2_with(go_at_call 349;refine(h2 _ y).mono ?_;rintro e w2 ⟨rfl,t⟩);refine Ev ?_;go_wp2;go_end0;exact⟨rfl,d1,p.out.1,p.out.2,t⟩
 ·have q:=IE blk cap 0 d.size d w hH hblk oM oM oM;have j:=insertionSort_holds (lt:=ltOf FC) pL d 0 d.size oM oM;generalize z:Sort.insertionSort (ltOf FC) d 0 d.size=d1 at q j;generalize hn:d.size=n at q j h20 h|-;replace j:=Qc j;clear hH z;go_in;go_wp2;refine Ev ?_;go_wp2_with(go_at_call 349;refine q.mono ?_;rintro e f ⟨rfl,k,v,m⟩;have y:SWK Ap.cs 18 w blk 0 d1 f:=⟨k,v,m⟩;clear m q);refine Ev ?_;go_wp2;go_end0;exact⟨rfl,d1,j.out.1,j.out.2,y⟩
def UI(blk cap:Nat)(d:Array Ap)(w:Qm)(hH:HoldsK Ap.cs 18 w blk 0 d)(hblk:blk<w.heap.size)(h20:d.size<=20):
  Calls prog 244 #[.slice (some ⟨blk,0,none⟩) d.size cap,.func (.func 245) #[] #[]] w fun e w'=>
   e=.returned (.tuple #[])/\∃d',PermIn 0 d.size d d'/\SortedIn (ltOf FC) 0 d.size d'/\SWK Ap.cs 18 w blk 0 d' w':=by
 have j:=kO blk cap d w hH hblk h20
 clear hH
 generalize y:d.size=n at j|-
 go_in
 go_wp2_with(go_at_call 303;refine j.mono ?_;rintro e v ⟨rfl,q⟩)
 go_end0
 exact⟨rfl,q⟩
def UJ:(prog.info? 171).map (fun i=>(i.zero,i.size,i.bytes))=some (some (bX (Qh 0) (Qh 0) (.slice none 0 0) (.slice none 0 0)),18,208):=by kernel_rfl
def Hh(l:List Ap):Kb:=l.flatMap Ap.cs
def Mw(m:Ap)(l:List Ap):Hh (m::l)=m.cs++Hh l:=by simp[Hh]
def Oy(l k:List Ap):Hh (l++k)=Hh l++Hh k:=by simp[Hh]
def KE:∀l:List Ap,(Hh l).length=l.length*18
 | []=>rfl
 |m::l=>by rw[Mw,Zv,KE l,Ap.AZ,Xf];omega
def sQ:∀l:List Ap,∀v∈Hh l,v.oneCell'=true:=by
 intro l v j;obtain⟨m,_,h⟩:=Nm.1 j;exact Ap.Bf m v h
def KF:∀(l:List Ap) (i j:Nat) (hi:i<l.length),j<18->(Hh l)[i*18+j]? =(l[i].cs)[j]?
 |m::l,0,j,_,hj=>by
  rw[Mw,CJ,Z3,L3 (by rw[Ap.AZ];exact hj)];rfl
 |m::l,i+1,j,hi,hj=>by
  have:=KF l i j (by simpa using hi) hj;rw[Mw,MK (by rw[Ap.AZ];omega),Ap.AZ,show(i+1)*18+j-18=i*18+j by omega,this];rfl
def XI{B g cap:Nat}{l:List Ap}(h:w.ownsRow B 171 18 (.slice (some ⟨g,0,none⟩) l.length cap) l.length (Hh l)):HoldsK Ap.cs 18 w g 0 l.toArray:=by
 rcases h.2 with⟨t,_⟩| ⟨g',n,d,e,x,y,r,_,p,c⟩
 ·cases t
 cases e;intro j f;have v:j<l.length*18:=by simpa using f
 refine⟨?_,Je y _⟩;have z:j/18<l.length:=oM;have m:j % 18<18:=Hj _ dM;have q:=KF l (j/18) (j % 18) z m;rw[show j/18*18+j % 18=j by omega,<-c,E5 v]at q;show w.cell? (ad g (0+j))=some (flatK Ap.cs 18 l.toArray)[j]!
 rw[get_flatK _ _ _ _ (by simpa using v),Z3];unfold World.cell?;simp only[y];have k:l.toArray[j/18]! =l[j/18]:=by rw[Eu _ _ (by simpa using z)];simp
 rw[k];have u:j % 18< (l[j/18].cs).length:=by rw[Ap.AZ];exact m
 have b:(l[j/18].cs)[j % 18]! =(l[j/18].cs)[j % 18]:=Eu (l[j/18].cs) (j % 18) u;rw[b,<-Km u,<-q];simp
def zN{blk:Nat}{d:Array Ap}(h:SWK Ap.cs 18 w blk 0 d w'):Ac (fun b _=>b≠blk) w w':=by
 obtain⟨n,v,rfl⟩:=h;refine⟨rfl,rfl,rfl,?_,?_⟩
 ·show w.heap.size<=((w.heap.modify blk _)++v).size;simp
 ·intro b o q j;show((w.heap.modify blk _)++v)[b]? =some o;rw[Qgz (by simpa using Qg q),xA,Qa (Ne.symm j)];exact q
def sR(l:List Ap)(lv:Q0)(B:Nat)(w:Qm)(h:w.ownsRow B 171 18 lv l.length (Hh l))(hlen:l.length<=1000):
  Calls prog 243 #[lv] w fun e w'=>Qd w w'/\
   ((l=[]/\e=.returned (.slice none 0 0))∨∃r q,e=.returned (.slice (some ⟨r,0,none⟩) l.length q)/\w.heap.size<=r/\w'.ownsRow w.heap.size 171 18 (.slice (some ⟨r,0,none⟩) l.length q) l.length (Hh l)):=by
 obtain⟨i0,k,p,a0,f⟩:=Gk UJ
 have a1:∀(W:Qm) (a:Jr) (n c:Nat),(binOp .eql 168 (.slice a n c) (.slice none 0 0)).run prog W=.ok (.bool a.isNone) W:=fun W a n c=>Lib.run_eql_slice_nil W _ _ a n c 0 0 underlying168
 rcases h.2 with⟨rfl,h0⟩| ⟨g,t,a4,rfl,hb,hg,h1,h2,h3,h4⟩
 ·obtain rfl:l=[]:=CW.1 h0;go_in;go_wp2;go_ret;exact⟨Xd,.inl ⟨by first|trivial|rfl,rfl⟩⟩
 ·have v:=h.cells (g:=g) rfl;have z:=KE l;have b:=sQ l;generalize hn:l.length=n at z hlen|-;generalize hF:Hh l=F at z v b|-;clear h h4 hF;go_in;go_wp2_with(at_builtin;refine LQ _ rfl _ _ 168 rfl w.heap.size 171 i0 (bX (Qh 0) (Qh 0) (.slice none 0 0) (.slice none 0 0)) 18 208 underlying168 k p a0 f rfl dM _ 0 [] rfl (World.ownsRow_made w #[] 0 (Q6 _) dM rfl) (ad g 0) n t F rfl z ?c1 b ?c3 ?c4 ?c5 ?_)
  case c1=>exact fun j u hu=>X9 (v j u hu) _
  case c3=>unfold maxLen;omega
  case c4=>omega
  case c5=>simp
  intro v' w1 y m _;have d:Qd w w1:=((Ac.refl _ w).alloc _).grown m (fun r hr o' ho _ a3=>by simp[Value.ownBlock]at hr;omega);rcases y.2 with⟨rfl,h0⟩| ⟨r,q,a2,rfl,hr,x⟩
  ·go_wp2;go_ret;refine⟨d,.inl ⟨CW.1 (hn.trans h0),rfl⟩⟩
  ·go_wp2;go_ret;exact⟨d,.inr ⟨r,q,rfl,hr,y⟩⟩
def cW(w:Qm):Calls prog 349 #[.slice none 0 0,.int .i64 0,.int .i64 0,.func (.func 245) #[] #[]] w fun e w'=>e=.returned (.tuple #[])/\Qd w w':=by
 go_in;go_wp2;refine Ev ?_;go_wp2;go_end0;exact⟨rfl,Xd⟩
def kQ(w:Qm):Calls prog 303 #[.slice none 0 0,.int .i64 0,.func (.func 245) #[] #[]] w fun e w'=>e=.returned (.tuple #[])/\Qd w w':=by
 go_in;go_wp2;refine Ev ?_;go_wp2_with(go_at_call 349;refine(cW _).mono ?_;rintro e q ⟨rfl,j⟩);refine Ev ?_;go_wp2;go_end0;exact⟨rfl,Xd⟩
def UK(w:Qm):Calls prog 244 #[.slice none 0 0,.func (.func 245) #[] #[]] w fun e w'=>e=.returned (.tuple #[])/\Qd w w':=by
 go_in;go_wp2_with(go_at_call 303;refine(kQ _).mono ?_;rintro e q ⟨rfl,j⟩);go_end0;exact⟨rfl,Xd⟩
def Ap.trees(m:Ap):Qp:=[.node (Xy m.s) [],.node m.g m.l]
def Ap.Ay(S:Qz)(w:Qm)(m:Ap):Prop:=m.s.size<=1099511627776/\m.g.ok/\Ad S w m.l (.slice m.a m.n m.c)/\Ad S w [] (.slice m.ka 0 m.kc)
def Ap.Ay.same{m:Ap}(h:m.Ay S w)(hk:Qd w w'):m.Ay S w':=⟨h.1,h.2.1,h.2.2.1.same hk,h.2.2.2.same hk⟩
def UL{d:Array Ap}(h:HoldsK Ap.cs 18 w g 0 d)(i:Nat)(hi:i<d.size):w.rangeAt g (i*18) d[i].cs:=by
 intro j v z;have y:j<18:=by
  have:=(DT.1 z).1;rwa [Ap.AZ]at this
 have q:i*18+j<d.size*18:=oM
 have:=(h (i*18+j) (by simpa using q)).1;rw[Z3]at this;rw[this];show some (flatK Ap.cs 18 d)[i*18+j]! =some v;rw[get_flatK _ _ _ _ q,show(i*18+j)/18=i by omega,show(i*18+j) % 18=j by omega,Eu d i hi];have m:j< (d[i].cs).length:=by rw[Ap.AZ];exact y
 have n:(d[i].cs)[j]! =(d[i].cs)[j]:=Eu (d[i].cs) j m;rw[n,<-Km m,z]
def pM(h:s.size<=1099511627776):(Xy s).ok:=by
 refine⟨⟨?_,?_⟩,⟨?_,?_⟩,⟨?_,?_⟩,?_,?_,h⟩<;>first|decide| (simp[Xy,Qh,Ko];done)|exact Xi _
def sS(l:List Ap)(dl:List Ap)(h:dl.map Ap.pair=(l.map Ap.pair).mergeSort FO):Jg (l.map Ap.pair)=dl.flatMap Ap.trees:=by
 unfold Jg;rw[<-h,List.flatMap_map];rfl
def sT(l:List Ap)(i:Nat)(hi:i<l.length):(l.take i).flatMap Ap.trees++[.node (Xy l[i].s) [],.node l[i].g l[i].l]=(l.take (i+1)).flatMap Ap.trees:=by
 rw[Gl hi,cV];simp[Ap.trees]
def cZ:∀l:List Ap,(l.flatMap Ap.trees).length=2*l.length
 | []=>rfl
 |m::l=>by rw[Ox,Zv,cZ l,Xf];simp[Ap.trees];omega
def zO{P:Prop}(h:P:=by
 rw[htl3]at hown'|-;replace htl3:=Qc htl3;clear hr30 hr39 hrr;go_wp2;refine⟨?_,by simp[RowKit.intOf];omega⟩;exact⟨i+1,oM,by go_num,by rw[htl3.out];exact hown',hsm1⟩):P:=h
def Mx(S:Qz)(l:List Ap)(lv:Q0)(B:Nat)(w:Qm)(h:w.ownsRow B 171 18 lv l.length (Hh l))(hlen:l.length<=20)
  (hg:∀m∈l,m.Ay S w)(hd:(l.map Ap.pair).Pairwise fun x y=>x.1≠y.1)(hS:∀b,w.heap.size<=b->S b):
  Calls prog 165 #[lv] w fun e w'=>∃v',e=.returned v'/\Ad S w' (Jg (l.map Ap.pair)) v'/\Qd w w':=by
 have b8:=sR l lv B w h oM
 obtain⟨la,ln,lc,rfl⟩:∃a n c,lv=.slice a n c:=by
  rcases h.2 with⟨rfl,_⟩| ⟨g,c8,cb,rfl,_⟩
  ·exact⟨_,_,_,rfl⟩
  ·exact⟨_,_,_,rfl⟩
 clear h
 go_in
 go_wp2_with fail
 refine b8.mono ?_
 rintro e w1 ⟨c2,h9⟩
 rcases h9 with⟨rfl,rfl⟩| ⟨r,q,rfl,hr,ho⟩
 ·go_wp2_with(go_at_call 244;refine(UK _).mono ?_;rintro e w2 ⟨rfl,ba⟩);refine Ev ?_;go_wp2;go_ret;exact⟨_,rfl,by simpa[Jg] using Ad.nil S _,Xd⟩
 ·go_wp2_with fail;have hH:=XI ho;have b7:r<w1.heap.size:=(ho.lt r rfl).2;have b2:=UI r q l.toArray w1 hH b7 (by simpa using hlen);rw[Gj]at b2;refine b2.mono ?_;rintro e w2 ⟨rfl,d,hp,hs,hW⟩;have ac:=sA Ap.pair l.toArray d hp hs (by simpa using hd);have a9:d.size=l.length:=by simpa using hp.1
  have bd:=hW.holds b7 hH (by simpa using a9);have ba:=zN hW;have b1:Qd w w2:=Ho c2 ba fun b o hb=>(Ku hb)
  have ab:∀m∈d.toList,m.Ay S w2:=by
   intro m hm;have c5:m∈l:=by
    obtain⟨_,_,a2⟩:=hp;have e1:d.extract 0 l.length=d:=by rw[<-a9];exact Array.extract_size
    have e2:l.toArray.extract 0 l.length=l.toArray:=by have:=@Array.extract_size _ l.toArray;rwa [Gj]at this
    rw[e1,e2]at a2;simpa using a2.mem_iff.1 hm
   exact(hg m c5).same b1
  have ad:=sS l d.toList (by simpa using ac);have a3:=Qc ad;obtain⟨u,a7⟩:=X0 d.toList;have b4:u.length=l.length:=by rw[<-a7,<-a9];simp
  have c6:∀i (hi:i<u.length),w2.rangeAt r (i*18) u[i].cs:=by
   intro i hi
   have:=UL bd i oM;subst a7;simpa using this
  rw[a7]at ab a3;rw[<-b4]at hlen;rw[<-b4];have c9:=b1.size;have bh:∀b,w2.heap.size<=b->S b:=fun b hb=>hS b oM
  clear ad ac b2 hp hs hW bd a9 a7 hH ho hg hd b8 b4 hS;obtain⟨n,hn⟩:=X0 u.length;go_wp2;go_loopw [3,12] (fun v iv wr=>∃i:Nat,i<=u.length/\iv=i6 (i:Int)/\Ar S wr w2.heap.size v ((u.take i).flatMap Ap.trees)/\Qd w2 wr)
   (fun _ iv _=>u.length-(RowKit.intOf iv).toNat)
  case atStart=>exact⟨0,oM,rfl,by simpa using Ar.nil S w2 w2.heap.size,Ac.refl _ _⟩
  case round=>
   obtain⟨i,hi,rfl,z,f⟩:=hrel;have p:=cZ (u.take i);rw[Ji]at p;by_cases ah:i<u.length
   ·have b6:=ab u[i] (Zp ah);have hrr:=Qy f (c6 i ah);have a8:=sT u i ah;generalize hm:u[i]=m at b6 hrr a8;generalize b0:(u.take i).flatMap Ap.trees=tl at a8 z p;have c4:=Qc a8;obtain⟨a0,b9,hv⟩:=z.Ab;subst hv;clear a8 hm b0;obtain⟨s,g,ma,mn,mc,ml,ka,kc⟩:=m;obtain⟨be,b5,bg,bc⟩:=b6;simp only at be b5 bg bc;have b3:(Ap.cs ⟨s,g,ma,mn,mc,ml,ka,kc⟩)=Qn (Xy s) (.slice ka 0 kc)++Qn g (.slice ma mn mc):=rfl;have k:(Ap.cs ⟨s,g,ma,mn,mc,ml,ka,kc⟩).length=18:=rfl;have a5:=Ap.Bf ⟨s,g,ma,mn,mc,ml,ka,kc⟩;generalize c0:Ap.cs ⟨s,g,ma,mn,mc,ml,ka,kc⟩=MC at hrr b3 k a5;have af:MC.toArray.all (·.oneCell')=true:=by rw[List.all_toArray];exact Vf.2 a5
    have ag:(prog.info? 171).map (·.size)=some MC.toArray.size:=by rw[Gj,k];kernel_rfl
    have a6:(prog.info? 171).map (·.size)=some MC.length:=by rw[k];kernel_rfl
    have ae:MC.toArray.size=18:=by rw[Gj,k]
    have bf:=Qc b3;have c7:tl.length<=40:=oM;clear p c0 b3;have t:=LW wr (.cells MC.toArray 171);have c3:(wr.alloc (.cells MC.toArray 171)).heap.size=wr.heap.size+1:=sM;have aa:(wr.alloc (.cells MC.toArray 171)).rangeAt wr.heap.size 0 MC:=fun j v hj=>by
     rw[Z3,Vj _ _ j MC.toArray 171 (0,0) (Qt wr _)];simpa using hj
    generalize bb:wr.alloc (.cells MC.toArray 171)=W3 at t c3 aa;have hr30:W3.rangeAt wr.heap.size 0 (Qn (Xy s) (.slice ka 0 kc)):=fun j v hj=>aa j v (by rw[bf.out,L3 (DT.1 hj).1];exact hj)
    have hr39:W3.rangeAt wr.heap.size 9 (Qn g (.slice ma mn mc)):=fun j v hj=>by
     have:=aa (9+j) v (by rw[bf.out,MK sM];simpa using hj);rwa [Z3]at this
    have a4:=z.same t;clear aa;go_wp2_with(first
     | (refine P6 rfl 171 _ rfl r (i*18) rfl MC _ hrr underlying171 rfl a6 ?_)
     | (refine Ud rfl 171 _ _ rfl wr.heap.size MC.toArray rfl rfl 171 _ (Ew _ _) ag (by rw[ae];rfl) af ?_;rw[Pn,bb];clear bb ag a6 af ae a5 k)
     | (refine P6 rfl 27 _ rfl wr.heap.size 0 rfl (Qn (Xy s) (.slice ka 0 kc)) _ hr30 underlying27 rfl kM ?_)
     | (refine P6 rfl 27 _ rfl wr.heap.size 9 rfl (Qn g (.slice ma mn mc)) _ hr39 underlying27 rfl kM ?_)
     | (at_builtin;refine Jn (v:=.slice a0 tl.length b9) (ts:=[.node (Xy s) [],.node g ml]) (news:=Qn (Xy s) (.slice ka 0 kc)++Qn g (.slice ma mn mc)) rfl _ _ rfl rfl rfl (a4.same ((Ac.refl _ _).alloc _)) rfl ?d2 ?d3 ?d6 ?d4 ?d5 ?_))
    case d2=>
     rw[Ak];refine⟨Qn (Xy s) (.slice ka 0 kc),Qn g (.slice ma mn mc),rfl,?_,Y4 ?_⟩
     ·rw[Kc];exact⟨pM be,_,rfl,(((bc.mono (fun b hb h=>(⟨h,z.apart hb⟩:_/\_))).same f).same t).same ((Ac.refl _ _).alloc _)⟩
     ·rw[Kc];exact⟨b5,_,rfl,(((bg.mono (fun b hb h=>(⟨h,z.apart hb⟩:_/\_))).same f).same t).same ((Ac.refl _ _).alloc _)⟩
    case d6=>exact⟨rfl,rfl,rfl,rfl,rfl,rfl,rfl,rfl,rfl,rfl,rfl,rfl,rfl,rfl,rfl,rfl,rfl,rfl⟩
    case d4=>first|omega| (simp only[Xf,Vp];omega)
    case d5=>have:=f.size;simp;omega
    intro v' w3 hown' hg;have hsm1:Qd w2 w3:=Ds ((f.trans t).alloc _) (Q6 _) (a4.same ((Ac.refl _ _).alloc _)) hg;obtain⟨a1,cc,c1⟩:=hown'.Ab;subst c1;rw[c4.out]at hown'|-;obtain⟨ca,htl3⟩:∃tl,(u.take (i+1)).flatMap Ap.trees=tl:=⟨_,rfl⟩;exact zO
   ·obtain rfl:i=u.length:=oM;rw[Vc]at z p;generalize b0:u.flatMap Ap.trees=tl at a3 z p;obtain⟨a0,b9,hv⟩:=z.Ab;subst hv;clear b0;go_wp2;go_ret;exact⟨_,rfl,by rw[a3.out];exact z.rep bh oM,b1.trans f⟩
end Go.Tm
namespace Go.Tm
open Go.Proofs Go.RowKit Go.Proofs.Tryz
def DB(S:Qz)(l:Qp)(i:Nat)(v:Array Q0)(A:Qm):Prop:=∃(h0:2*i<l.length) (h1:2*i+1<l.length) (lv mv:Q0),v=#[bX (l[2*i]).hd (l[2*i+1]).hd lv mv]/\Ad S A (l[2*i]).l lv/\Ad S A (l[2*i+1]).l mv/\(l[2*i]).hd.ok/\(l[2*i+1]).hd.ok
def Qeb{P:Prop}(h:P:=by
 rintro k2 o hb2 ⟨c,f,rfl⟩;refine⟨?_,hSb2 _ _ _⟩;rintro rfl;rw[hb2]at hl1;cases hl1):P:=h
def Qec{P:Prop}(h:P:=by
 gi_wp2;refine Xs (Dr rfl _ _ _) rfl ?_;exact⟨⟨_,rfl⟩,.inr ⟨k,hlt,hj3,trivial⟩⟩):P:=h
def LE(S:Qz)(l:Qp)(lv:Q0)(bx:Nat)(Sb Si:Nat->Obj->Prop)(W:Qm)(hr:Ad S W l lv)(hbx:Boxed W bx 25 lv)(hSb1:∀c f,Sb bx (.cells c 25 f))(hSb2:∀b c f,Sb b (.cells c 27 f)):
  Hk prog 247 #[.pointer (some ⟨bx,0,none⟩)] (l.length/2) (DB S l) Sb Si (fun _=>True) (fun _ _=>True) W:=by
 rintro lp J Jx b0 hJ bg hY h0
 obtain⟨r,hl⟩:=b0 0 W h0
 have b7:=J2 hbx.cell hl
 obtain⟨bb,a,a1,rfl,bc,hi⟩:=hr.shape
 refine Nf func247 rfl trivial ?_ rfl
 simp only[ntmps247]
 refine Ie ?_
 gi_wp2
 gi_loopw [3] (fun i wr=>∃k:Nat,k<=l.length/2/\i=i6 ((2*k:Nat):Int)/\J k wr/\Boxed wr bx 25 (.slice a l.length a1)/\Ac (fun b o=>∃c f,o=.cells c 27 f) W wr) (fun i _=>l.length-(RowKit.intOf i).toNat)
 case atStart=>exact⟨0,Xi _,rfl,h0,hbx,Ac.refl _ _⟩
 case round=>
  obtain⟨k,hk,rfl,hj,a0,v⟩:=hrel;have hc:=a0.cell;obtain⟨r1,hl1⟩:=b0 k wr hj;by_cases hlt:k<l.length/2
  ·have i0:2*k<l.length:=oM;have i1:2*k+1<l.length:=oM;obtain⟨b,d,ab,rfl,be,b6,b3,ac,aa⟩:=hi (2*k) i0;obtain⟨b',b9,a5,e1,c2,bd,b4,a7,a4⟩:=hi (2*k+1) i1;cases e1;obtain⟨c1,fz,a3⟩:=b6;have x:∀o,W.heap[b]? =some o->∃c f,o=.cells c 27 f:=fun o ho=>by rw[a3]at ho;cases ho;exact⟨_,_,rfl⟩
   have z:=Zd v x aa;have y:=Zd v x a4;have a9:=b3.Af v fun _ _ c f=>⟨c,f,rfl⟩
   have a6:=b4.Af v fun _ _ c f=>⟨c,f,rfl⟩
   have m:=v.same _ _ a3 ⟨_,_,rfl⟩;have n:Qd wr wr.drew:=(Ac.refl _ _).drew;obtain⟨fn,ba,b1,b8,hy,hR⟩:=hY k _ wr.drew hlt (hJ _ _ _ hj (Ac.of_same n)) ⟨i0,i1,ab,a5,rfl,a9.same n,a6.same n,ac,a7⟩;have ae:b≠lp:=by rintro rfl;rw[m]at hl1;cases hl1
   generalize(l[2*k]).hd=hd0 at z hy;generalize(l[2*k+1]).hd=hd1 at y hy;generalize hq:2*k=q at z y i0 i1|-;generalize hp:q+1=p at y i1;have bf:(p:Int)< (l.length:Int):=oM;have c3:(q:Int)< (l.length:Int):=oM;have e1:(q:Int)+1=(p:Int):=oM;have c0:=Rv z;have d0:=Rv y;gi_wp2;have af:IntKind.i64.wrap (p:Int)=(p:Int):=by rw[BW];omega
   have a2:IntKind.i64.wrap (q:Int)=(q:Int):=by rw[BW];omega
   refine gR (And.intro a0 (And.intro z y)) ?_;repeat refine sX ?_
   refine Kd rfl rfl ?_;intro K x;go_simp;refine hR.mono ?_;rintro e W3 ⟨j,u⟩;have t:Boxed W3 bx 25 (.slice (some (ad b d)) l.length a1):=j.same _ _ a0 ⟨b7,hSb1 _ _⟩;have ah:∀o,wr.drew.heap[b]? =some o->b≠lp/\Sb b o:=fun o ho=>by
    have h5:wr.heap[b]? =some o:=ho;rw[m]at h5;cases h5;exact⟨ae,hSb2 _ _ _⟩
   have ag:=Zd j ah (show wr.drew.rangeAt b (d+q*9) (Qn hd0 ab) from z);have a8:=Zd j ah (show wr.drew.rangeAt b (d+p*9) (Qn hd1 a5) from y);have b5:Ac (fun b o=>b≠lp/\Sb b o) wr W3:=⟨j.os,j.tape,j.output,j.size,fun k o hk hs=>j.same k o hk hs⟩;have b2:Ac (fun b o=>∃c f,o=.cells c 27 f) W W3:=by
    refine v.trans (b5.mono ?_);exact Qeb
   rcases u with⟨rfl,hj3⟩| ⟨rfl,hj3⟩
   ·refine x _ _ ⟨t,ag,a8⟩ ?_;clear x K;repeat refine sX ?_
    refine Jc ?_;clear af a2;have e2:(q:Int)+2=((2*(k+1):Nat):Int):=oM;gi_wp2;exact⟨⟨k+1,oM,by push_cast;rfl,hj3,t,b2⟩,by simp[RowKit.intOf];omega⟩
   ·refine x _ _ ⟨t,ag,a8⟩ ?_;clear x K;repeat refine sX ?_
    refine Jc ?_;clear af a2;exact Qec
  ·obtain rfl:k=l.length/2:=oM;obtain⟨q,hq⟩:=X0 (2*(l.length/2));have bh:¬((q:Int)+1< (l.length:Int)):=oM;rw[hq];gi_wp2;go_end0;exact⟨⟨_,rfl⟩,.inl hj⟩
end Go.Tm
namespace Go.Tm
open Go.Proofs Go.RowKit Go.Shelf Go.Sort Go.Proofs.Tryz
variable{K:Nat->Obj->Prop}{E:Am}{S:Qz}{A w w':Qm}{b e er i st:Nat}{lv v':Q0}{X:Hd->Dc × Bool}{l:Qp}
def RN:=@MapKept.findNow_spec
def CB:=@List.length_drop
def UM:=@List.mem_reverse
def FP(ms:List Ap):Array MapEntry:=(ms.zipIdx.map fun x=>{key:=.string x.1.s,val:=.bool true,born:=x.2}).toArray
def sU(ms:List Ap)(m:Ap):(FP ms).push {key:=.string m.s,val:=.bool true,born:=ms.length}=FP (ms++[m]):=by
 unfold FP;rw[List.zipIdx_append];simp
def Oz{ms:List Ap}{x:MapEntry}(h:x∈(FP ms).toList):(∃m∈ms,x.key=.string m.s)/\x.val=.bool true:=by
 simp only[FP,Xq]at h;obtain⟨y,j,rfl⟩:=h;exact⟨⟨y.1,List.fst_mem_of_mem_zipIdx j,rfl⟩,rfl⟩
def zP{ms:List Ap}{m:Ap}(h:m∈ms):∃x∈(FP ms).toList,x.key=.string m.s:=by
 obtain⟨i,j,rfl⟩:=ZC h;refine⟨{key:=.string ms[i].s,val:=.bool true,born:=i},?_,rfl⟩;simp only[FP,Xq];exact⟨(ms[i],i),by rw[List.mem_zipIdx_iff_getElem?];simp[j],rfl⟩
def sV(ms:List Ap)(s:Qo)(h:s∈ms.map (·.s)):∃j,Instr.findNow .string (.string s) (FP ms).toList 0=some (some (j,.bool true)):=by
 have z:∀x∈(FP ms).toList,MapKept.IsKey .string x.key:=fun x hx=>by obtain⟨⟨m,_,e⟩,_⟩:=Oz hx;rw[e];trivial
 obtain⟨m,y,rfl⟩:=Xq.1 h;rcases RN (d:=.string) (k:=.string m.s) trivial (FP ms).toList 0 z with⟨_,q⟩| ⟨j,e,n,q,_⟩
 ·obtain⟨x,hx,v⟩:=zP y;exact absurd v (q x hx)
 ·refine⟨0+j,?_⟩;rw[n,(Oz (Pm q)).2]
def dA(ms:List Ap)(s:Qo)(h:s∉ms.map (·.s)):Instr.findNow .string (.string s) (FP ms).toList 0=some none:=by
 have z:∀x∈(FP ms).toList,MapKept.IsKey .string x.key:=fun x hx=>by obtain⟨⟨m,_,e⟩,_⟩:=Oz hx;rw[e];trivial
 rcases RN (d:=.string) (k:=.string s) trivial (FP ms).toList 0 z with⟨n,_⟩| ⟨j,e,_,u,q⟩
 ·exact n
 ·obtain⟨⟨m,y,v⟩,_⟩:=Oz (Pm u);rw[v]at q;cases q;exact absurd (Xq.2 ⟨m,y,rfl⟩) h
def zQ(s:Qo):∀l:List Qo,l.contains s=true↔s∈l
 | []=>sM
 |x::l=>by
  rw[List.contains_cons,Y2,zQ s l,Xg,MapKept.bytes_beq]
def sW(X:Hd->Dc × Bool)(l:Qp)(i:Nat)(seen:List Qo)(h:2*i+1<l.length):
  X8 X (l.drop (2*i)) seen=(if(Xe l[2*i]).2=false∨seen.contains (Xe l[2*i]).1 then([],max (l[2*i+1].proj X).2 2)
   else(((Xe l[2*i]).1,(l[2*i+1].proj X).1)::(X8 X (l.drop (2*(i+1))) ((Xe l[2*i]).1::seen)).1,max (l[2*i+1].proj X).2 (X8 X (l.drop (2*(i+1))) ((Xe l[2*i]).1::seen)).2)):=by
 have e:l.drop (2*i)=l[2*i]::l[2*i+1]::l.drop (2*(i+1)):=by
  rw[Dq oM,Dq oM];rfl
 rw[e,X8]
def sY(X:Hd->Dc × Bool)(l:Qp)(seen:List Qo):X8 X (l.drop (2*(l.length/2))) seen=([],0):=by
 have h:(l.drop (2*(l.length/2))).length<=1:=by rw[CB];omega
 rcases hd:l.drop (2*(l.length/2))with _| ⟨x,_| ⟨y,r⟩⟩
 ·rw[X8];intro k x l h;cases h
 ·rw[X8];intro k x l h;cases h
 ·rw[hd]at h;simp at h
def Bq(X:Hd->Dc × Bool)(l:Qp)(i:Nat)(ms:List Ap)(er:Nat):Prop:=X8 X l []=(ms.map Ap.pair++(X8 X (l.drop (2*i)) (ms.map (·.s)).reverse).1,max er (X8 X (l.drop (2*i)) (ms.map (·.s)).reverse).2)
structure AI(E:Am)(S:Qz)(w:Qm)(b st:Nat)(ncs:Array Q0)(i:Nat)(ms:List Ap)(lv:Q0)(er:Nat)(A:Qm):Prop where
 len:ms.length=i
 er2:er<=2
 dist:(ms.map Ap.pair).Pairwise fun x y=>x.1≠y.1
 good:∀m∈ms,m.Ay (fun x=>S x/\x≠w.heap.size+2) A
 p:Boxed A w.heap.size 64 (.pointer (some ⟨b,0,none⟩))
 n:A.heap[w.heap.size+1]? =some (.cells ncs 27 (0,0))
 r:A.heap[w.heap.size+2]? =some (.cells #[.int .i64 0,.bool false,.bool false,.string ⟨#[]⟩,.int .i64 0,.int .u64 0,.int .i64 0,.string ⟨#[]⟩,.slice none 0 0] 27 (0,0))
 lb:Boxed A (w.heap.size+3) 168 lv
 row:A.ownsRow (w.heap.size+7) 171 18 lv i (Hh ms)
 mp:A.heap[w.heap.size+4]? =some (.map (FP ms) i)
 sb:Boxed A (w.heap.size+5) 245 (.map (some (w.heap.size+4)))
 pb:PB E b (max st er) A
 fr:Ac (fun k _=>k≠b) w A
 sz:w.heap.size+7<=A.heap.size
def AI.Af{ncs:Array Q0}{ms:List Ap}{A B:Qm}(h:AI E S w b st ncs i ms lv er A)(hb:b<w.heap.size)
  (hk:Ac K A B)(hK:∀k o,k<w.heap.size+6∨o.isCells=true->K k o):AI E S w b st ncs i ms lv er B where
 len:=h.len
 er2:=h.er2
 dist:=h.dist
 good m hm:=⟨(h.Ay m hm).1,(h.Ay m hm).2.1,(h.Ay m hm).2.2.1.Af hk fun k _ c f=>hK _ _ (.inr rfl),(h.Ay m hm).2.2.2.Af hk fun k _ c f=>hK _ _ (.inr rfl)⟩
 p:=hk.boxed h.p (hK _ _ (.inr rfl))
 n:=hk.same _ _ h.n (hK _ _ (.inr rfl))
 r:=hk.same _ _ h.r (hK _ _ (.inr rfl))
 lb:=hk.boxed h.lb (hK _ _ (.inr rfl))
 row:=C8 h.row hk fun _ _ _ _=>hK _ _ (.inr rfl)
 mp:=hk.same _ _ h.mp (hK _ _ (.inl oM))
 sb:=hk.boxed h.sb (hK _ _ (.inr rfl))
 pb:=hk.same _ _ h.pb (hK _ _ (.inr rfl))
 fr:=⟨hk.os.trans h.fr.os,hk.tape.trans h.fr.tape,hk.output.trans h.fr.output,Qj h.fr.size hk.size,fun k o j q=>hk.same k o (h.fr.same k o j q) (hK _ _ (.inl (Ku j)))⟩
 sz:=Qj h.sz hk.size
def AI.step{ncs:Array Q0}{ms:List Ap}{er er':Nat}{A B:Qm}(h:AI E S w b st ncs i ms lv er A)(hb:b<w.heap.size)
  (hk:Ac (fun k _=>k≠b) A B)(hpb:PB E b (max st er') B)(her:er'<=2):AI E S w b st ncs i ms lv er' B where
 len:=h.len
 er2:=her
 dist:=h.dist
 good m hm:=⟨(h.Ay m hm).1,(h.Ay m hm).2.1,(h.Ay m hm).2.2.1.Bc h.pb hk,(h.Ay m hm).2.2.2.Bc h.pb hk⟩
 p:=hk.boxed h.p oM
 n:=hk.same _ _ h.n oM
 r:=hk.same _ _ h.r oM
 lb:=hk.boxed h.lb oM
 row:=C8 h.row hk fun g _ v _=>oM
 mp:=hk.same _ _ h.mp oM
 sb:=hk.boxed h.sb oM
 pb:=hpb
 fr:=⟨hk.os.trans h.fr.os,hk.tape.trans h.fr.tape,hk.output.trans h.fr.output,Qj h.fr.size hk.size,fun k o q j=>hk.same k o (h.fr.same k o q j) j⟩
 sz:=Qj h.sz hk.size
def dB(w:Qm)(b:Nat):Nat->Obj->Prop:=fun k o=>k≠b/\k≠w.heap.size+3/\k≠w.heap.size+4/\(k<w.heap.size+7∨∀c f,o≠ .cells c 171 f)
def AI.Bm{ncs:Array Q0}{ms:List Ap}(h:AI E S w b st ncs i ms lv er A)(k:Nat)(o:Obj)(ho:A.heap[k]? =some o)(hT:∃c f,o=.cells c 27 f):dB w b k o:=by
 obtain⟨c,f,rfl⟩:=hT;refine⟨?_,?_,?_,.inr fun c' f' e=>by cases e⟩
 ·rintro rfl;have:=h.pb;rw[this]at ho;cases ho
 ·rintro rfl;have:A.heap[w.heap.size+3]? =_:=h.lb;rw[this]at ho;cases ho
 ·rintro rfl;rw[h.mp]at ho;cases ho
def zS{P:Prop}(h:P:=by
 rcases h.row.2 with⟨rfl,_⟩| ⟨g,cap,cur,rfl,hg,hgg,_⟩
 ·cases hk
 ·simp only[Value.ownBlock,Fp]at hk;subst hk;exact⟨hg,cur,hgg⟩):P:=h
def AI.own{ncs:Array Q0}{ms:List Ap}(h:AI E S w b st ncs i ms lv er A)(k:Nat)(hk:lv.ownBlock=some k):w.heap.size+7<=k/\∃c,A.heap[k]? =some (.cells c 171 (0,0)):=by
 exact zS
def AI.push{ncs:Array Q0}{ms:List Ap}{A B:Qm}{m:Ap}(h:AI E S w b st ncs i ms lv er A)(hb:b<w.heap.size)
  (hk:Ac (fun k _=>k≠w.heap.size+3/\k≠w.heap.size+4/\lv.ownBlock≠some k) A B)(hlb:Boxed B (w.heap.size+3) 168 v')(hrow:B.ownsRow (w.heap.size+7) 171 18 v' (i+1) (Hh ms++m.cs))
  (hmp:B.heap[w.heap.size+4]? =some (.map ((FP ms).push {key:=.string m.s,val:=.bool true,born:=i}) (i+1)))(hnew:m.s∉ms.map (·.s))(hgood:m.Ay (fun x=>S x/\x≠w.heap.size+2) B):AI E S w b st ncs (i+1) (ms++[m]) v' er B:=by
 have j:∀k,k<w.heap.size+7->lv.ownBlock≠some k:=fun k a0 e=>by have:=(h.own k e).1;omega
 have u:Ac (fun k o=>(∃c f,o=.cells c 27 f)∨(k≠w.heap.size+3/\k≠w.heap.size+4/\lv.ownBlock≠some k)) A B:=
  ⟨hk.os,hk.tape,hk.output,hk.size,fun k o q hK=>by
   rcases hK with⟨c,f,rfl⟩|hK
   ·refine hk.same k _ q ⟨?_,?_,?_⟩
    ·rintro rfl;have:A.heap[w.heap.size+3]? =_:=h.lb;rw[this]at q;cases q
    ·rintro rfl;rw[h.mp]at q;cases q
    ·intro e;obtain⟨_,c',hc⟩:=h.own k e;rw[hc]at q;cases q
   ·exact hk.same k o q hK⟩
 exact{
  len:=by rw[Zv,h.len];rfl
  er2:=h.er2
  dist:=by
   rw[Hg,OY];refine⟨h.dist,sM,?_⟩;intro x hx y hy;simp only[Zy,EV,Zm]at hy;subst hy;obtain⟨m',v,rfl⟩:=Xq.1 hx;intro e;exact hnew (Xq.2 ⟨m',v,e⟩)
  good:=fun m' v=>by
   rcases Kn.1 v with z|z
   ·exact⟨(h.Ay m' z).1,(h.Ay m' z).2.1,(h.Ay m' z).2.2.1.Af u fun _ _ c f=>.inl ⟨c,f,rfl⟩,(h.Ay m' z).2.2.2.Af u fun _ _ c f=>.inl ⟨c,f,rfl⟩⟩
   ·rw[Zm.1 z];exact hgood
  p:=hk.boxed h.p ⟨oM,oM,j _ oM⟩
  n:=hk.same _ _ h.n ⟨oM,oM,j _ oM⟩
  r:=hk.same _ _ h.r ⟨oM,oM,j _ oM⟩
  lb:=hlb
  row:=by rw[Oy];simpa[Hh] using hrow
  mp:=by rw[<-sU,h.len];exact hmp
  sb:=hk.boxed h.sb ⟨oM,oM,j _ oM⟩
  pb:=hk.same _ _ h.pb ⟨oM,oM,j _ oM⟩
  fr:=⟨hk.os.trans h.fr.os,hk.tape.trans h.fr.tape,hk.output.trans h.fr.output,Qj h.fr.size hk.size,fun k o t d=>hk.same k o (h.fr.same k o t d) (by have:=Qg t;exact⟨oM,oM,j _ oM⟩)⟩
  sz:=Qj h.sz hk.size}
def AI.Bw{ncs:Array Q0}{ms:List Ap}{A B:Qm}(h:AI E S w b st ncs i ms lv er A)
  (hk:Ac (fun k _=>k≠w.heap.size+3/\k≠w.heap.size+4/\lv.ownBlock≠some k) A B):Ac (fun k o=>(∃c f,o=.cells c 27 f)∨(k≠w.heap.size+3/\k≠w.heap.size+4/\lv.ownBlock≠some k)) A B:=
 ⟨hk.os,hk.tape,hk.output,hk.size,fun k o j q=>by
  rcases q with⟨c,f,rfl⟩|q
  ·refine hk.same k _ j ⟨?_,?_,?_⟩
   ·rintro rfl;have:A.heap[w.heap.size+3]? =_:=h.lb;rw[this]at j;cases j
   ·rintro rfl;rw[h.mp]at j;cases j
   ·intro e;obtain⟨_,c',v⟩:=h.own k e;rw[v]at j;cases j
  ·exact hk.same k o j q⟩
def dC(t:Aa):(Xe t).2=true->(Xe t).1.size<=400:=by
 unfold Xe;split
 ·intro h;cases h
 ·split
  ·intro h;cases h
  ·intro _;show(V5 t.hd).size<=400;omega
def AI.frame{ncs:Array Q0}{ms:List Ap}{A A7 B:Qm}(h7:AI E S w b st ncs i ms lv er A7)(h1:Ac (fun k _=>k≠b) A A7)
  (hk:Ac (fun k _=>k≠w.heap.size+3/\k≠w.heap.size+4/\lv.ownBlock≠some k) A7 B):Ac (dB w b) A B:=
 ⟨hk.os.trans h1.os,hk.tape.trans h1.tape,hk.output.trans h1.output,Qj h1.size hk.size,fun k o v j=>by
  have q:=h1.same k o v j.1;refine hk.same k o q ⟨j.2.1,j.2.2.1,fun e=>?_⟩;obtain⟨y,c,z⟩:=h7.own k e;rw[z]at q;cases q;rcases j.2.2.2 with h|h
  ·omega
  ·exact h _ _ rfl⟩
def Bq.next{ms:List Ap}{m:Ap}(h:Bq X l i ms er)
  (ht:X8 X (l.drop (2*i)) (ms.map (·.s)).reverse=(m.pair::(X8 X (l.drop (2*(i+1))) (m.s::(ms.map (·.s)).reverse)).1,max e (X8 X (l.drop (2*(i+1))) (m.s::(ms.map (·.s)).reverse)).2)):
  Bq X l (i+1) (ms++[m]) (max er e):=by
 unfold Bq at h|-
 rw[h,ht]
 simp[ID]
def Ac.ors(h:Ac K w w')(T:Nat->Obj->Prop)(hT:∀k o,w.heap[k]? =some o->T k o->K k o):Ac (fun k o=>T k o∨K k o) w w':=
 ⟨h.os,h.tape,h.output,h.size,fun k o j q=>h.same k o j (q.elim (hT k o j) id)⟩
def KG(k0 g0:Hd)(ka ga:Jr)(kn kc gn gc:Nat):(Ol k0 g0 (.slice ka kn kc) (.slice ga gn gc)).toArray.all (·.oneCell')=true:=by
 rw[List.all_toArray,Vf];intro v hv;simp at hv;exact zM
def Qfu{P:Prop}(h:P:=by
 exact⟨h0,h1,lv,mv,e,r0.Af hk fun _ _ _ _=>.inr rfl,r1.Af hk fun _ _ _ _=>.inr rfl,o0,o1⟩):P:=h
def Fs{P:Prop}(h:P:=by
 rintro i v A ⟨h0,h1,lv,mv,e,_⟩;rw[e];rfl):P:=h
def RO{P Q:Prop}(h:Q)(f:Wz Q->P:=by
 intro zz;obtain⟨k0,hk0⟩:=X0 ((l[2*i]).hd);obtain⟨g0,hg0⟩:=X0 ((l[2*i+1]).hd);revert k0 hk0 g0 hg0;exact zz.o):P:=f ⟨h⟩
def pN{P Q:Prop}(h:Q)(f:Wz Q->P:=by
 intro zz;obtain⟨kn,hkn⟩:∃n,(l[2*i]).l.length=n:=⟨_,rfl⟩;obtain⟨gn,hgn⟩:∃n,(l[2*i+1]).l.length=n:=⟨_,rfl⟩;revert kn hkn gn hgn;exact zz.o):P:=f ⟨h⟩
def zU{P Q:Prop}(h:Q)(f:Wz Q->P:=by
 intro zz;refine wpIn_region_lit ?_;refine LZ rfl fun K2 hK2=>?_
 go_simp;refine hK2 _ _ ?_;clear hK2 K2;exact zz.o):P:=f ⟨h⟩
def zV{P Q:Prop}(h:Q)(f:Wz Q->P:=by
 intro zz;refine Du rfl 171 _ _ rfl A.heap.size (Ol k0 g0 (.slice ka kn kc) (.slice ga gn gc)).toArray rfl rfl 171 _ (Ew _ _) hi18 rfl (KG _ _ _ _ _ _ _ _) ?_;rw[Pn];refine wpListIn_nil ?_;exact zz.o):P:=f ⟨h⟩
def O0{P:Prop}(h:P:=by
 obtain⟨h0,h1,lv,mv,e,r0,r1,o0,o1⟩:=hE2;exact⟨h0,h1,lv,mv,e,r0.same ((Ac.refl _ _).alloc _),r1.same ((Ac.refl _ _).alloc _),o0,o1⟩):P:=h
def kR{P Q:Prop}(h:Q)(f:Wz Q->P:=by
 intro zz;obtain⟨kt,hkt⟩:∃t,l[2*i]=t:=⟨_,rfl⟩;obtain⟨gt,hgt⟩:∃t,l[2*i+1]=t:=⟨_,rfl⟩;revert kt hkt gt hgt;exact zz.o):P:=f ⟨h⟩
def zW{P:Prop}(h:P:=by
 rcases hown'.2 with⟨_,h0⟩| ⟨g,cap,cur,rfl,_⟩
 ·omega
 ·exact⟨_,_,rfl⟩):P:=h
def kS{P:Prop}(h:P:=by
 rcases hp.row.2 with⟨rfl,_⟩| ⟨g,cap,cur,rfl,_⟩
 ·exact⟨_,_,_,rfl⟩
 ·exact⟨_,_,_,rfl⟩):P:=h
def Qfv{P Q:Prop}(h:Q)(f:Wz Q->P:=by
 intro zz;obtain⟨h9,hk9⟩:=FN hr2 8 0 0 (.slice va (Jg (ms.map Ap.pair)).length vc);have hD9:=hk9.same _ _ hD2 oM;have hpb9:=hk9.same _ _ hpb2 oM;have hrep9:=hrep2.Af hk9 fun y hy _ _=>hy.2
 refine⟨sM,.inl ⟨_,_,rfl,Vx hD9,?_⟩⟩;have hrow:=(N3 (o:=.deferred none) (by omega:w.heap.size+2≠D)).trans h9;revert h9 hk9 hD9 hpb9 hrep9 hrow;exact zz.o):P:=f ⟨h⟩
def zX{P:Prop}(h:P:=by
 exact⟨hkp.os.trans (hk9.os.trans hfr2.os),hkp.tape.trans (hk9.tape.trans hfr2.tape),hkp.output.trans (hk9.output.trans hfr2.output),Qj hfr2.size (Qj hk9.size hkp.size),fun y o hy hyb=>hkp.same y o (hk9.same y o (hfr2.same y o hy hyb) (Ku hy)) (.inl (Ku hy))⟩):P:=h
def kT{N d:Nat}(hN:Fr X N E d)(hle:∀t:Aa,(t.proj X).2<=2)(h:Hd)(l:Qp)(S:Qz)(lv:Q0)(w:Qm)(st b:Nat)(hd:Xr l<=d)(hG:Ah N E w)(hNb:N<=b)(hst:st<=2)(hr:Ad S w l lv)
  (hS:∀k,w.heap.size<=k->S k)(hok:∀x∈l,AQ X N E x)(hb:PB E b st w)(hl40:l.length<=40)(hdd:Xr l<=1000000):
  Calls prog 156 #[.pointer (some ⟨b,0,none⟩),Qu h lv] w (Ti E S b st (.node (Qh 8) (Jg (X8 X l []).1),(X8 X l []).2) w):=by
 have hi18:(prog.info? 171).map (·.size)=some 18:=kM
 have f2:(prog.info? 27).map (·.size)=some 9:=kM
 obtain⟨j1,a,cap,rfl,j2,hi⟩:=hr.shape
 have a4:=Qg hb
 unfold Ti
 refine UH ?_
 refine(J5 (n:=0)).1 (Vy func156 rfl trivial ?_ rfl)
 simp only[ntmps156]
 refine Ie ?_
 gi_wp2
 refine Jy ?_
 gi_wp2
 rw[Mg]
 gi_wp2
 refine Ez ?_
 gi_wp2_with(gi_at_call 167;refine(Qr (S1 _ _ _ _)).mono ?_;rintro e w' ⟨rfl,h9⟩;replace h9:=h9.symm;subst h9)
 have hW:∃W1,((((((((w.alloc (.cells #[pt b] 64)).alloc (.cells (nR h (.slice a l.length cap)) 27)).alloc (.cells zR 27)).alloc (.cells #[.slice none 0 0] 168)).alloc (.map #[] 0)).alloc (.cells #[.map (some (w.heap.size+1+1+1+1))] 245)).alloc (.cells #[.slice a l.length cap] 25))=W1):=⟨_,rfl⟩
 obtain⟨W1,aa⟩:=hW
 rw[aa]
 have ch:Qd w W1:=by rw[<-aa];exact Xd
 have jc:W1.heap.size=w.heap.size+7:=by rw[<-aa];simp
 have ce:AI E S w b st (nR h (.slice a l.length cap)) 0 [] (.slice none 0 0) 0 W1:={
  len:=rfl
  er2:=dM
  dist:=List.Pairwise.nil
  good:=fun m hm=>by cases hm
  p:=by rw[<-aa];repeat(first|exact Qt w _|refine Qb ?_)
  n:=by rw[<-aa];exact Qb (Qb (Qb (Qb (Qb (Ql sM)))))
  r:=by rw[<-aa];exact Qb (Qb (Qb (Qb (Ql sM))))
  lb:=by rw[<-aa];exact Qb (Qb (Qb (Ql sM)))
  row:=Yz _ _ _ _
  mp:=by rw[<-aa];exact Qb (Qb (Ql sM))
  sb:=by rw[<-aa];exact Qb (Ql sM)
  pb:=by rw[Nat.max_zero];exact ch.s hb
  fr:=Ac.of_same ch
  sz:=by omega}
 have d6:Boxed W1 (w.heap.size+6) 25 (.slice a l.length cap):=by rw[<-aa];exact Ql sM
 have cd:Bq X l 0 [] 0:=by unfold Bq;simp
 clear aa
 refine Jt (gf:=247) (lb:=#[pt (w.heap.size+6)])
  rfl (X3 func247 kM rfl) (l.length/2) (DB (fun x=>S x/\x<w.heap.size) l)
  (fun k o=>(∃c f,o=.cells c 27 f)∨dB w b k o) (fun _ _=>True)
  (fun _=>True) (fun _ _=>True) ?hit ?hSb (fun _ _ _ _ _=>trivial)
  (fun i A=>∃ms lv er,Bq X l i ms er/\AI E S w b st (nR h (.slice a l.length cap)) i ms lv er A)
  (fun i c A=>c=.exit 0/\∃ms lv er,X8 X l []=(ms.map Ap.pair,er)/\AI E S w b st (nR h (.slice a l.length cap)) i ms lv er A)
  ?hI ?hIx ?hE (fun _ _ _ _=>trivial) (fun _ _ _ _ _=>trivial) ?hEs ⟨[],.slice none 0 0,0,cd,ce⟩
  (fun i v a' A=>∃bx cs,v=#[.agg cs]/\A.heap[bx]? =some (.cells cs 171 (0,0))/\w.heap.size+7<=bx/\a'={tmps:=#[pt b,Qu h (.slice a l.length cap),pt w.heap.size,pt (w.heap.size+1),pt (w.heap.size+1+1),pt (w.heap.size+1+1+1),pt (w.heap.size+1+1+1+1+1),pt bx,undef,undef,undef,.map (some (w.heap.size+1+1+1+1)),.pointer (some (ad (w.heap.size+1) 8)),.slice a l.length cap,.func (.func 247) #[] #[pt (w.heap.size+1+1+1+1+1+1)],.agg cs,undef,undef,undef,undef,undef,undef,undef,undef,undef,undef,undef,undef,undef,undef,undef,undef,undef,undef,undef,undef,undef,undef,undef,undef,undef,undef,undef,undef,undef,undef,undef,undef],defers:=[]}) ?hAx ?hassign ?hbody ?hdone ?hstop
 case hit=>
  intro W2 a9 j6;exact LE (fun x=>S x/\x<w.heap.size) l _ _ _ _ W2 (((hr.mono fun y hy hh=>⟨hh,hy⟩).same ch).same a9) (a9.boxed d6 trivial) (fun c f=>.inr ⟨oM,oM,oM,.inl oM⟩) (fun k c f=>.inl ⟨c,f,rfl⟩)
 case hSb=>exact fun k o hk ho=>.inr ⟨oM,oM,oM,.inr fun c f e=>by subst e;cases ho⟩
 case hI=>
  rintro i A B ⟨ms,lv,er,h1,h2⟩ hk;exact⟨ms,lv,er,h1,h2.Af a4 hk fun k o h=>⟨h.imp_left fun h=>oM,trivial⟩⟩
 case hIx=>
  rintro i c A B ⟨h0,ms,lv,er,h1,h2⟩ hk;exact⟨h0,ms,lv,er,h1,h2.Af a4 hk fun k o h=>⟨h.imp_left fun h=>oM,trivial⟩⟩
 case hE=>
  rintro i v A B ⟨h0,h1,lv,mv,e,r0,r1,o0,o1⟩ hk;exact Qfu
 case hEs=>
  exact Fs
 case hAx=>
  rintro i v a' A B ⟨bx,cs,e,h1,h2,h3⟩ hk;exact⟨bx,cs,e,hk.same _ _ h1 (.inr rfl),h2,h3⟩
 case hassign=>
  rintro lp i v A K hi ⟨ms,lv,er,b4,a5⟩ f0 hK;have hE2:=f0;obtain⟨h0,h1,g6,fb,rfl,r0,r1,o0,o1⟩:=f0;refine RO ?_;intro k0 hk0 g0 hg0;obtain⟨ka,kc,rfl⟩:=r0.Ab;obtain⟨ga,gc,rfl⟩:=r1.Ab;rw[hk0,hg0]at hK hE2|-;refine pN ?_;intro kn hkn gn hgn;rw[hkn,hgn]at hK hE2|-;clear r0 r1 o0 o1 hk0 hg0 hkn hgn h0 h1 hi hr;refine zU ?_;refine zV ?_;refine hK _ _ ((Ac.refl _ _).alloc _) ⟨ms,lv,er,b4,a5.Af a4 ((Ac.refl All _).alloc _) fun _ _ _=>trivial⟩ ?_ ⟨A.heap.size,_,rfl,Qt A _,a5.sz,rfl⟩;exact O0
 case hbody=>
  rintro lp i v a' A jd ⟨rr,fc⟩ fd ⟨ms,lv,er,b4,a5⟩ ⟨h0,h1,g6,fb,hv,r0,r1,o0,o1⟩ ⟨bx,cs,rfl,fh,j0,rfl⟩;have a8:=sW X l i (ms.map (·.s)).reverse h1;have dg:=hok l[2*i] (Zp h0);have bh:=hok l[2*i+1] (Zp h1);have fa:=Nh l (2*i) h0;have gd:=Nh l (2*i+1) h1;refine kR ?_;intro kt hkt gt hgt;rw[hkt]at a8 dg fa r0 o0 hv;rw[hgt]at a8 bh gd r1 o1 hv;obtain⟨ka,kc,rfl⟩:=r0.Ab;obtain⟨ga,gc,rfl⟩:=r1.Ab;have g5:cs=(Ol kt.hd gt.hd (.slice ka kt.l.length kc) (.slice ga gt.l.length gc)).toArray:=by
   have:=congrArg (fun v:Array Q0=>v[0]?) hv;simp only[MJ]at this;injection (Dw this)with e
  subst g5;have d1:A.rangeAt bx 0 (Ol kt.hd gt.hd (.slice ka kt.l.length kc) (.slice ga gt.l.length gc)):=fun j v hj=>by
   rw[Z3,Vj _ _ j _ _ _ fh];simpa using hj
  have c6:A.rangeAt bx 0 (Qn kt.hd (.slice ka kt.l.length kc)):=fun j v hj=>d1 j v (by rw[show Ol kt.hd gt.hd (.slice ka kt.l.length kc) (.slice ga gt.l.length gc)=Qn kt.hd (.slice ka kt.l.length kc)++Qn gt.hd (.slice ga gt.l.length gc) from rfl,L3 (DT.1 hj).1];exact hj)
  have c7:A.rangeAt bx 9 (Qn gt.hd (.slice ga gt.l.length gc)):=fun j v hj=>by
   have:=d1 (9+j) v (by rw[show Ol kt.hd gt.hd (.slice ka kt.l.length kc) (.slice ga gt.l.length gc)=Qn kt.hd (.slice ka kt.l.length kc)++Qn gt.hd (.slice ga gt.l.length gc) from rfl,MK sM];simpa using hj);rwa [Z3]at this
  have f6:=hG.Bc hNb a5.fr;have g2:=a5.pb;have ja:=a5.er2;have b1:=fun W (hs:Qd A W)=>Mo (fun x=>S x/\x<w.heap.size) kt (.slice ka kt.l.length kc) W (f6.same hs) o0 (r0.same hs) oM
  obtain⟨⟨ks,kb⟩,hR⟩:∃q,Xe kt=q:=⟨_,rfl⟩;have cb:=dC kt;rw[hR]at b1 a8 cb;simp only at b1 a8 cb;have bc:=fun W (hs:Qd A W)=>hN gt (fun x=>S x/\x≠w.heap.size+2) (.slice ga gt.l.length gc) W (max st er) b oM (f6.same hs) hNb oM o1 (((r1.mono (S':=fun x=>S x/\x≠w.heap.size+2) fun y hy hh=>⟨hh.1,oM⟩)).same hs) (fun y hy=>⟨hS y (by have:=hs.size;have:=a5.sz;omega),by have:=hs.size;have:=a5.sz;omega⟩) bh (hs.s g2)
  unfold Ti at bc;obtain⟨⟨gh,gl⟩,ge,hP⟩:∃t e,gt.proj X=(t,e):=⟨_,_,rfl⟩;have j8:ge<=2:=by have:=hle gt;rw[hP]at this;exact this
  rw[hP]at bc a8;simp only[Aa.Ae,Aa.Ag]at bc a8;have bg:=Qc a8;have cp:=a5.p.cell;clear a8 hP hR hN hi hok hv hkt hgt;gi_wp2_with(refine Gi rfl 27 _ rfl bx 0 rfl (Qn kt.hd (.slice ka kt.l.length kc)) _ c6 underlying27 rfl f2 ?_);refine(Hl lp (b1 A (Ac.refl _ _))).mono ?_;rintro e A2 ⟨rfl,b3⟩;have d9:=a5.Af a4 b3 fun _ _ _=>trivial
  have c9:=Qy b3 c7;have g3:=d9.p.cell;clear cp c6 c7 b1 d1;gi_wp2_with(refine Gi rfl 27 _ rfl bx 9 rfl (Qn gt.hd (.slice ga gt.l.length gc)) _ c9 underlying27 rfl f2 ?_);refine(Hl lp (bc A2 b3)).mono ?_;rintro e A6 ⟨j7,rfl,dd,de,f3,d8⟩;obtain⟨a6,af,rfl⟩:=de.Ab;have cf:AI E S w b st (nR h (.slice a l.length cap)) i ms lv (max er ge) A6:=d9.step a4 d8 (by rw[<-ID];exact f3) oM;have bd:=LW A6 (.cells (nR gh (.slice a6 gl.length af)) 27);have f4:=Qt A6 (.cells (nR gh (.slice a6 gl.length af)) 27);generalize jb:A6.alloc (.cells (nR gh (.slice a6 gl.length af)) 27)=A7 at bd f4;have a1:=cf.Af a4 bd fun _ _ _=>trivial
  have ca:=hG.Bc hNb a1.fr;have gb:=de.same bd;have b8:Ac (fun k _=>k≠b) A A7:=(Ac.trans (Ac.of_same b3) d8).trans (Ac.of_same bd);have g1:=a1.p.cell;have g4:A7.cell? (ad (w.heap.size+1+1+1+1+1) 0)=some (.map (some (w.heap.size+1+1+1+1))):=a1.sb.cell;have dh:=ca.keys;obtain⟨la,lc,rfl⟩:∃a c,lv=.slice a i c:=by
   rcases a1.row.2 with⟨rfl,h0⟩| ⟨g,cap,cur,rfl,_⟩
   ·exact⟨none,0,by rw[h0]⟩
   ·exact⟨_,_,rfl⟩
  clear g3 c9 bc;have b7:=Qc b4;by_cases ag:kb=false∨ks∈ms.map (·.s)
  ·have a0:=bg.out;rw[Qe (by rcases ag with h|h;exact .inl h;exact .inr ((zQ _ _).2 (UM.2 h)))]at a0;replace a0:=Qc a0;cases kb with
   |false=>
    gi_wp2;refine(Hl lp (Lg (max st (max er ge)) 2 b A7 ca oM (.inr rfl) a1.pb)).mono ?_;rintro e A8 ⟨rfl,b9,bb⟩;have cc:AI E S w b st (nR h (.slice a l.length cap)) i ms (.slice la i lc) (max (max er ge) 2) A8:=a1.step a4 bb (by rw[<-ID];exact b9) oM;gi_wp2;have a2:Ac (fun k _=>k≠b) A A8:=b8.trans bb;refine⟨(Ac.ors (K:=dB w b) ⟨a2.os,a2.tape,a2.output,a2.size,fun k o ho hK=>a2.same k o ho hK.1⟩ _ a5.Bm),rfl,ms,.slice la i lc,max (max er ge) 2,?_,cc⟩;rw[b7.out,a0.out];simp[ID]
   |true=>
    have g8:ks∈ms.map (·.s):=ag.resolve_left sM;obtain⟨j,hj⟩:=sV ms ks g8;have d7:(Instr.lookup 245 (.map (some (w.heap.size+1+1+1+1))) (.string ks) false).run prog A7=.ok (.bool true) A7:=
     Xj (d:=.string) (i:=j) (v:=.bool true) (.string ks) underlying245 underlying9 trivial a1.mp hj false
    gi_wp2;refine(Hl lp (Lg (max st (max er ge)) 2 b A7 ca oM (.inr rfl) a1.pb)).mono ?_;rintro e A8 ⟨rfl,b9,bb⟩;have cc:AI E S w b st (nR h (.slice a l.length cap)) i ms (.slice la i lc) (max (max er ge) 2) A8:=a1.step a4 bb (by rw[<-ID];exact b9) oM;gi_wp2;have a2:Ac (fun k _=>k≠b) A A8:=b8.trans bb;refine⟨(Ac.ors (K:=dB w b) ⟨a2.os,a2.tape,a2.output,a2.size,fun k o ho hK=>a2.same k o ho hK.1⟩ _ a5.Bm),rfl,ms,.slice la i lc,max (max er ge) 2,?_,cc⟩;rw[b7.out,a0.out];simp[ID]
  ·have fg:kb=true:=by
    cases kb with
    |true=>rfl
    |false=>exact absurd (.inl rfl) ag
   subst fg;have b2:ks∉ms.map (·.s):=fun h=>ag (.inr h)
   have a0:=bg.out;rw[Qa (by rintro(h|h);cases h;exact b2 (UM.1 ((zQ _ _).1 h)))]at a0;replace a0:=Qc a0;clear ag;have db:ks.size<=1099511627776:=Qj (cb rfl) dM;have d7:(Instr.lookup 245 (.map (some (w.heap.size+1+1+1+1))) (.string ks) false).run prog A7=.ok (.bool false) A7:=
    H9 (d:=.string) (z:=.bool false) (.string ks) underlying245 underlying9 trivial (fun w=>kM) a1.mp (dA ms ks b2) false
   have da:(Instr.mapUpdate 245 (.map (some (w.heap.size+1+1+1+1))) (.string ks) (.bool true)).run prog A7=.ok () (A7.putObj (w.heap.size+4) (.map ((FP ms).push {key:=.string ks,val:=.bool true,born:=i}) (i+1))):=
    Qs (d:=.string) (.string ks) (.bool true) underlying245 underlying9 trivial a1.mp (dA ms ks b2)
   obtain⟨A9,d2⟩:=X0 (A7.putObj (w.heap.size+4) (.map ((FP ms).push {key:=.string ks,val:=.bool true,born:=i}) (i+1)));have hk9:Ac (fun k _=>k≠w.heap.size+4) A7 A9:=by rw[<-d2];exact(Ac.refl _ A7).putObj _ fun o _ hs _=>hs rfl
   have f7:A9.heap[w.heap.size+4]? =some (.map ((FP ms).push {key:=.string ks,val:=.bool true,born:=i}) (i+1)):=by rw[<-d2];exact CI (Qg a1.mp)
   rw[d2]at da;have d3:=C8 a1.row hk9 fun g _ hg _=>oM
   have bf:Boxed A9 (w.heap.size+3) 168 (.slice la i lc):=hk9.boxed a1.lb oM;have fe:A9.cell? (ad (w.heap.size+1+1+1) 0)=some (.slice la i lc):=bf.cell;have j9:=a1.sz;have g9:=hk9.same _ _ f4 (by have:=Qg cf.mp;have:=cf.sz;omega);have n0:=Qi g9;obtain⟨m0,ff,f1,f9,df⟩:=Gk UJ;have j3:i<=20:=oM;have f5:(Ap.cs ⟨ks,gh,a6,gl.length,af,gl,none,0⟩).length=18:=rfl;clear fc;gi_wp2_with(gi_at_builtin;refine Mn _ rfl _ _ 168 rfl (w.heap.size+7) 171 m0 (bX (Qh 0) (Qh 0) (.slice none 0 0) (.slice none 0 0)) 18 208 underlying168 ff f1 f9 df rfl dM _ _ _ rfl (d3.alloc _) (ad A9.heap.size 0) 1 1 (Ap.cs ⟨ks,gh,a6,gl.length,af,gl,none,0⟩) rfl f5 ?c1 ?c2 ?c3 ?c4 ?c5 ?_)
   case c1=>exact fun j u hu=>Jw _ _ _ j u hu
   case c2=>exact Ap.Bf _
   case c3=>unfold maxLen;omega
   case c4=>omega
   case c5=>have:=hk9.size;simp;omega
   intro v' ac hown' ba _;obtain⟨va,vc,rfl⟩:∃a c,v'=.slice a (i+1) c:=by
    exact zW
   have c8:∀k,k<w.heap.size+7->(Value.slice la i lc).ownBlock≠some k:=fun k j5 e=>by have:=(a1.own k e).1;omega
   have ab:Ac (fun k _=>(Value.slice la i lc).ownBlock≠some k) A9 ac:=((Ac.refl _ A9).alloc _).grown ba fun r hr o _ hs _=>hs hr
   have b0:Boxed ac (w.heap.size+3) 168 (.slice la i lc):=ab.boxed bf (c8 _ oM);have j4:ac.cell? (ad (w.heap.size+1+1+1) 0)=some (.slice la i lc):=b0.cell;have gg:ac.frozen? (ad (w.heap.size+1+1+1) 0)=false:=b0.frozen;clear ba fe n0 d7 da g4 g1 dh;gi_wp2;have a7:Ac (fun k _=>k≠w.heap.size+3) ac (ac.setCell (ad (w.heap.size+3) 0) (.slice va (i+1) vc)):=(Ac.refl _ ac).setCell _ fun o _ hs _=>hs rfl
   have b6:Boxed (ac.setCell (ad (w.heap.size+3) 0) (.slice va (i+1) vc)) (w.heap.size+3) 168 (.slice va (i+1) vc):=b0.set _;show(Ac _ A (ac.setCell (ad (w.heap.size+3) 0) (.slice va (i+1) vc)))/\_;generalize(ac.setCell (ad (w.heap.size+3) 0) (.slice va (i+1) vc))=A11 at a7 b6;have ah:Ac (fun k _=>k≠w.heap.size+3/\k≠w.heap.size+4/\(Value.slice la i lc).ownBlock≠some k) A7 A11:=
    ⟨a7.os.trans (ab.os.trans hk9.os),a7.tape.trans (ab.tape.trans hk9.tape),a7.output.trans (ab.output.trans hk9.output),Qj hk9.size (Qj ab.size a7.size),fun k o ho hK=>a7.same k o (ab.same k o (hk9.same k o ho hK.2.1) hK.2.2) hK.1⟩
   have be:=C8 hown' a7 fun g _ hg _=>oM
   have d0:=a7.same _ _ (ab.same _ _ f7 (c8 _ oM)) oM;have d4:(Ap.mk ks gh a6 gl.length af gl none 0).Ay (fun x=>S x/\x≠w.heap.size+2) A11:=⟨db,dd,gb.Af (a1.Bw ah) fun _ _ c f=>.inl ⟨c,f,rfl⟩,Ad.nil _ _⟩;exact⟨Ac.ors (a1.frame b8 ah) _ a5.Bm,ms++[⟨ks,gh,a6,gl.length,af,gl,none,0⟩],_,max er ge,b7.out.next (m:=⟨ks,gh,a6,gl.length,af,gl,none,0⟩) a0.out,a1.push a4 ah b6 be d0 b2 d4⟩
 case hdone=>
  rintro D A hD ⟨ms,lv,er,b4,hp⟩ _ g7 cg;have c0:=sY X l (ms.map (·.s)).reverse;have a3:X8 X l []=(ms.map Ap.pair,er):=by
   have h9:=b4;unfold Bq at h9;rw[c0]at h9;simpa using h9
  clear c0 b4;have dc:=Qc a3;clear a3;clear hN hok hi hr cd ce d6;have ae:ms.length<=20:=by rw[hp.len];omega
  have b5:=fun W (hs:Qd A W)=>Mx (fun x=>S x/\x≠w.heap.size+2) ms lv (w.heap.size+7) W (by rw[hp.len];exact D4 hp.row hs) ae (fun m hm=>(hp.Ay m hm).same hs) hp.dist (fun k hk=>⟨hS k (by have:=hs.size;have:=hp.sz;omega),by have:=hs.size;have:=hp.sz;omega⟩)
  obtain⟨la,ln,lc,rfl⟩:∃a n c,lv=.slice a n c:=by
   exact kS
  have cl:A.cell? (ad (w.heap.size+1+1+1) 0)=some (.slice la ln lc):=hp.lb.cell;gi_wp2_with fail;refine(Qr (b5 _ (Ac.refl _ _))).mono ?_;rintro e A2 ⟨v2,rfl,hrep2,a9⟩;have hr2:=a9.s hp.r;have hpb2:=a9.s hp.pb;have hD2:=a9.s cg;have hfr2:=hp.fr.trans (Ac.of_same a9);obtain⟨va,vc,rfl⟩:=hrep2.Ab;have p0:=Qi hr2;have d5:=Jd hr2;gi_wp2;refine Qfv ?_;intro h9 hk9 hD9 hpb9 hrep9 hrow;clear p0 d5 cl b5;have hkp:=(Ac.refl (fun k o=>k≠D∨o.isCells=true) _).putObj (r:=D) (.deferred none) fun o ho hs _=>by rw[hD9]at ho;cases ho;rcases hs with h|h;exact h rfl;cases h
  refine⟨_,rcK rfl rfl hrow,⟨_,rfl,K1 8 dM,?_,?_,?_⟩⟩
  ·rw[dc.out];exact(hrep9.Af hkp fun _ _ _ _=>.inr rfl).mono fun _ _ h=>h.1
  ·rw[dc.out];exact hkp.same _ _ hpb9 (.inr rfl)
  ·exact zX
 case hstop=>
  rintro D i c A hD fd ⟨rfl,ms,lv,er,a3,hp⟩ _ g7 cg;replace a3:=Qc a3;clear hN hok hi hr cd ce d6;have ae:ms.length<=20:=by rw[hp.len];omega
  have b5:=fun W (hs:Qd A W)=>Mx (fun x=>S x/\x≠w.heap.size+2) ms lv (w.heap.size+7) W (by rw[hp.len];exact D4 hp.row hs) ae (fun m hm=>(hp.Ay m hm).same hs) hp.dist (fun k hk=>⟨hS k (by have:=hs.size;have:=hp.sz;omega),by have:=hs.size;have:=hp.sz;omega⟩)
  obtain⟨la,ln,lc,rfl⟩:∃a n c,lv=.slice a n c:=by
   exact kS
  have cl:A.cell? (ad (w.heap.size+1+1+1) 0)=some (.slice la ln lc):=hp.lb.cell;gi_wp2_with fail;refine(Qr (b5 _ (Ac.refl _ _))).mono ?_;rintro e A2 ⟨v2,rfl,hrep2,a9⟩;have hr2:=a9.s hp.r;have hpb2:=a9.s hp.pb;have hD2:=a9.s cg;have hfr2:=hp.fr.trans (Ac.of_same a9);obtain⟨va,vc,rfl⟩:=hrep2.Ab;have p0:=Qi hr2;have d5:=Jd hr2;gi_wp2;refine Qfv ?_;intro h9 hk9 hD9 hpb9 hrep9 hrow;clear p0 d5 cl b5;have hkp:=(Ac.refl (fun k o=>k≠D∨o.isCells=true) _).putObj (r:=D) (.deferred none) fun o ho hs _=>by rw[hD9]at ho;cases ho;rcases hs with h|h;exact h rfl;cases h
  refine⟨_,rcK rfl rfl hrow,⟨_,rfl,K1 8 dM,?_,?_,?_⟩⟩
  ·rw[a3.out];exact(hrep9.Af hkp fun _ _ _ _=>.inr rfl).mono fun _ _ h=>h.1
  ·rw[a3.out];exact hkp.same _ _ hpb9 (.inr rfl)
  ·exact zX
end Go.Tm
namespace Go.Tm
open Go.Proofs Go.RowKit Go.Sort Go.Proofs.Tryz
variable{h:Hd}{l:Qp}{t:Aa}{f:Int}
def My:=@List.mem_mergeSort
def Kv:Qp->List (Qo × Aa)
 |k::x::l=>(k.hd.s,x)::Kv l
 |_=>[]
mutual
def Aa.ord:Aa->Aa
 | .node h l=>.node h (if h.kind=8 then Jg (Kv (Gv l))else Gv l)
def Gv:Qp->Qp
 | []=>[]
 |x::l=>x.ord::Gv l
end
def EI:∀l:Qp,Gv l=l.map Aa.ord
 | []=>by rw[Gv];rfl
 |x::l=>by rw[Gv,EI l];rfl
def zY(t:Aa):t.ord.hd=t.hd:=by cases t;rw[Aa.ord];rfl
def CC(h:Hd):(Aa.node h []).ord=.node h []:=by
 rw[Aa.ord,Gv];split
 ·rw[show Kv []=[] from rfl];simp[Jg]
 ·rfl
def P7(a b c:Qo × Aa)(h1:FO a b=true)(h2:FO b c=true):FO a c=true:=by
 exact Qfq
def P8(a b:Qo × Aa):(FO a b||FO b a)=true:=by
 exact yX
def Zt(ps:List (Qo × Aa)):Qp:=ps.flatMap fun x=>[.node (Xy x.1) [],x.2]
def Ft:∀ps:List (Qo × Aa),Kv (Zt ps)=ps
 | []=>rfl
 |p::ps=>by
  show Kv (.node (Xy p.1) []::p.2::Zt ps)=_;rw[Kv,Ft ps];rfl
def Gw(ps:List (Qo × Aa)):Jg ps=Zt (ps.mergeSort FO):=rfl
def IF(ps:List (Qo × Aa)):Jg (Kv (Jg ps))=Jg ps:=by
 rw[Gw ps,Ft,Gw,List.mergeSort_of_pairwise (RF P7 P8 ps)]
def UN:∀ps:List (Qo × Aa),(∀p∈ps,p.2.ord=p.2)->Gv (Zt ps)=Zt ps
 | [],_=>by rw[show Zt []=[] from rfl,Gv]
 |p::ps,h=>by
  show Gv (.node (Xy p.1) []::p.2::Zt ps)=.node (Xy p.1) []::p.2::Zt ps;rw[Gv,Gv,CC,h p sM,UN ps fun q hq=>h q (by simp[hq])]
def Qed(h:Hd)(h8:h.kind=8)(ps:List (Qo × Aa))(hp:∀p∈ps,p.2.ord=p.2):(Aa.node h (Jg ps)).ord=.node h (Jg ps):=by
 rw[Aa.ord,Qe h8];rw[show Gv (Jg ps)=Jg ps from UN _ fun p j=>hp p (My.1 j),IF]
mutual
def Aa.Bb(X:Hd->Dc × Bool):∀t:Aa,(∀x∈t.flat,Xc x=true)->(t.proj X).1.ord=(t.proj X).1
 | .node h l,hown=>by
  have hself:Xc (.node h l)=true:=((Kj (fun x=>Xc x=true) (.node h l)).1 hown).1;have j:∀k∈l,∀x∈k.flat,Xc x=true:=((Kj (fun x=>Xc x=true) (.node h l)).1 hown).2;have z:=sZ X l j;have m:=KH X l j;have y:=KI X l [] j;rw[Aa.proj];split
  ·exact CC _
  ·split
   ·rename_i q;have v:l=[]:=by
     unfold Xc at hself;rcases q with e|e
     ·simp only[Aa.Ae,e]at hself;simp at hself;exact(Gr hself).2
     ·simp only[Aa.Ae,e]at hself;simp at hself;exact(Gr hself.1.1).2
    subst v;exact CC _
   ·split
    ·exact CC _
    ·split
     ·exact CC _
     ·split
      ·exact z
      ·split
       ·rw[Aa.ord,Qa (by decide),m]
       ·split
        ·exact Qed _ rfl _ y
        ·exact CC _
def sZ(X:Hd->Dc × Bool):∀l:Qp,(∀k∈l,∀x∈k.flat,Xc x=true)->(Y6 X l).1.ord=(Y6 X l).1
 | [],_=>by rw[Y6];exact CC _
 |x::l,h=>by rw[Y6];exact Aa.Bb X x (h x (by simp))
def KH(X:Hd->Dc × Bool):∀l:Qp,(∀k∈l,∀x∈k.flat,Xc x=true)->Gv (Zc X l).1=(Zc X l).1
 | [],_=>by rw[Zc,Gv]
 |x::l,h=>by
  rw[Zc];show Gv (_::_)=_;rw[Gv,Aa.Bb X x (h x (by simp)),KH X l fun k hk=>h k (by simp[hk])]
def KI(X:Hd->Dc × Bool):∀(l:Qp) (seen:List Qo),(∀k∈l,∀x∈k.flat,Xc x=true)->∀p∈(X8 X l seen).1,p.2.ord=p.2
 | [],seen,_,p,hp=>by rw[X8]at hp;cases hp;intro k x l h;cases h
 | [_],seen,_,p,hp=>by rw[X8]at hp;cases hp;intro k x l h;cases h
 |k::x::l,seen,h,p,hp=>by
  have h1:=Aa.Bb X x (h x (by simp));have q:=KI X l ((Xe k).1::seen) (fun k j=>h k (by simp[j])) p;rw[X8]at hp;split at hp
  ·cases hp
  ·rcases Xg.1 hp with rfl|hp
   ·exact h1
   ·exact q hp
end
abbrev Tj(t:Aa):Prop:=∀y∈t.flat,Zj 1 y=true
def P9(h0:Zj 1 (.node h l)=true)(hl:∀k∈l,Tj k):Tj (.node h l):=(Kj (fun y=>Zj 1 y=true) (.node h l)).2 ⟨h0,hl⟩
def Ll(h:Hd)(h0:Zj 1 (.node h [])=true):Tj (.node h []):=P9 h0 fun k j=>by cases j
def Df:∀ps:List (Qo × Aa),Zb (Zt ps)=ps.map fun p=>.node (Xy p.1) []
 | []=>rfl
 |p::ps=>by
  show Zb (.node (Xy p.1) []::p.2::Zt ps)=_;rw[Zb,Df ps];rfl
def PA(s:Qo):Tj (.node (Xy s) []):=Ll _ rfl
def zZ(ps:List (Qo × Aa))(hp:∀p∈ps,Tj p.2):Tj (.node (Qh 8) (Jg ps)):=by
 refine P9 ?_ fun k j=>?_
 ·have:(Zb (Jg ps)).all (Jv 1)=true:=by
   rw[Gw,Df,Vf];intro k j;obtain⟨p,_,rfl⟩:=Xq.1 j;rfl
  unfold Zj;simp only[Aa.Ae,Aa.Ag,this];rfl
 ·unfold Jg at j;obtain⟨p,q,j⟩:=Nm.1 j;rcases Xg.1 j with rfl|j
  ·exact PA _
  ·rw[Zm.1 j];exact hp p (My.1 q)
mutual
def Aa.AM(X:Hd->Dc × Bool):∀t:Aa,(∀x∈t.flat,Xc x=true)->(t.proj X).2=0->Tj (t.proj X).1
 | .node h l,hown,h0=>by
  have hself:Xc (.node h l)=true:=((Kj (fun x=>Xc x=true) (.node h l)).1 hown).1;have j:∀k∈l,∀x∈k.flat,Xc x=true:=((Kj (fun x=>Xc x=true) (.node h l)).1 hown).2;have c:=kU X l j;have p:=UO X l j;have n:=UP X l [] j;rw[Aa.proj]at h0|-;split
  ·exact Ll _ rfl
  ·rename_i d;rw[Qa d]at h0;split
   ·rename_i q;have z:l=[]:=by
     unfold Xc at hself;rcases q with e|e
     ·simp only[Aa.Ae,e]at hself;simp at hself;exact(Gr hself).2
     ·simp only[Aa.Ae,e]at hself;simp at hself;exact(Gr hself.1.1).2
    subst z;refine Ll _ ?_;unfold Zj;rcases q with e|e<;>simp[e]
   ·rename_i m;rw[Qa m]at h0;split
    ·exact PA _
    ·rename_i u;rw[Qa u]at h0;split
     ·exact PA _
     ·rename_i b;rw[Qa b]at h0;split
      ·rename_i v;rw[Qe v]at h0;have r:l.length=1:=by
        unfold Xc at hself;simp only[Aa.Ae,Aa.Ag,v]at hself;simp at hself;exact Zo hself.2
       exact c (by omega) h0
      ·rename_i v;rw[Qa v]at h0;split
       ·rename_i y;rw[Qe y]at h0;exact P9 rfl (p h0)
       ·rename_i y;rw[Qa y]at h0;split
        ·rename_i f;rw[Qe f]at h0;exact zZ _ (n h0)
        ·exact Ll _ rfl
def kU(X:Hd->Dc × Bool):∀l:Qp,(∀k∈l,∀x∈k.flat,Xc x=true)->0<l.length->(Y6 X l).2=0->Tj (Y6 X l).1
 | [],_,h,_=>by cases h
 |x::l,h,_,h0=>by rw[Y6]at h0|-;exact Aa.AM X x (h x (by simp)) h0
def UO(X:Hd->Dc × Bool):∀l:Qp,(∀k∈l,∀x∈k.flat,Xc x=true)->(Zc X l).2=0->∀k∈(Zc X l).1,Tj k
 | [],_,_,k,hk=>by rw[Zc]at hk;cases hk
 |x::l,h,h0,k,hk=>by
  rw[Zc]at h0 hk;simp only at h0 hk;rcases Xg.1 hk with rfl|hk
  ·exact Aa.AM X x (h x (by simp)) (by omega)
  ·exact UO X l (fun k hk=>h k (by simp[hk])) (by omega) k hk
def UP(X:Hd->Dc × Bool):∀(l:Qp) (seen:List Qo),(∀k∈l,∀x∈k.flat,Xc x=true)->(X8 X l seen).2=0->∀p∈(X8 X l seen).1,Tj p.2
 | [],seen,_,_,p,hp=>by rw[X8]at hp;cases hp;intro k x l h;cases h
 | [_],seen,_,_,p,hp=>by rw[X8]at hp;cases hp;intro k x l h;cases h
 |k::x::l,seen,h,h0,p,hp=>by
  rw[X8]at hp h0;split at hp
  ·cases hp
  ·rename_i c;rw[Qa c]at h0;simp only at h0;rcases Xg.1 hp with rfl|hp
   ·exact Aa.AM X x (h x (by simp)) (by omega)
   ·exact UP X l _ (fun k hk=>h k (by simp[hk])) (by omega) p hp
end
def Qee(t:Aa):Prop:=t.hd.kind=8->Jg (Kv t.l)=t.l
abbrev O1(t:Aa):Prop:=∀y∈t.flat,Qee y
def EJ(h0:Qee (.node h l))(hl:∀k∈l,O1 k):O1 (.node h l):=(Kj Qee (.node h l)).2 ⟨h0,hl⟩
def Lm(h:Hd):O1 (.node h []):=EJ (fun _=>by rw[Aa.Ag,show Kv []=[] from rfl];simp[Jg]) fun k j=>by cases j
def Ln(s:Qo):O1 (.node (Xy s) []):=Lm _
def Qaa(ps:List (Qo × Aa))(hp:∀p∈ps,O1 p.2):O1 (.node (Qh 8) (Jg ps)):=by
 refine EJ (fun _=>IF ps) fun k j=>?_
 unfold Jg at j;obtain⟨p,q,j⟩:=Nm.1 j;rcases Xg.1 j with rfl|j
 ·exact Ln _
 ·rw[Zm.1 j];exact hp p (My.1 q)
mutual
def Aa.AY(X:Hd->Dc × Bool):∀t:Aa,(∀x∈t.flat,Xc x=true)->(t.proj X).2=0->O1 (t.proj X).1
 | .node h l,hown,h0=>by
  have hself:Xc (.node h l)=true:=((Kj (fun x=>Xc x=true) (.node h l)).1 hown).1;have j:∀k∈l,∀x∈k.flat,Xc x=true:=((Kj (fun x=>Xc x=true) (.node h l)).1 hown).2;have c:=kV X l j;have p:=UQ X l j;have n:=UR X l [] j;rw[Aa.proj]at h0|-;split
  ·exact Lm _
  ·rename_i d;rw[Qa d]at h0;split
   ·rename_i y;have z:l=[]:=by
     unfold Xc at hself;rcases y with e|e
     ·simp only[Aa.Ae,e]at hself;simp at hself;exact(Gr hself).2
     ·simp only[Aa.Ae,e]at hself;simp at hself;exact(Gr hself.1.1).2
    subst z;exact Lm _
   ·rename_i m;rw[Qa m]at h0;split
    ·exact Ln _
    ·rename_i u;rw[Qa u]at h0;split
     ·exact Ln _
     ·rename_i b;rw[Qa b]at h0;split
      ·rename_i q;rw[Qe q]at h0;have r:l.length=1:=by
        unfold Xc at hself;simp only[Aa.Ae,Aa.Ag,q]at hself;simp at hself;exact Zo hself.2
       exact c (by omega) h0
      ·rename_i q;rw[Qa q]at h0;split
       ·rename_i v;rw[Qe v]at h0;exact EJ (fun e=>by cases e) (p h0)
       ·rename_i v;rw[Qa v]at h0;split
        ·rename_i f;rw[Qe f]at h0;exact Qaa _ (n h0)
        ·exact Lm _
def kV(X:Hd->Dc × Bool):∀l:Qp,(∀k∈l,∀x∈k.flat,Xc x=true)->0<l.length->(Y6 X l).2=0->O1 (Y6 X l).1
 | [],_,h,_=>by cases h
 |x::l,h,_,h0=>by rw[Y6]at h0|-;exact Aa.AY X x (h x (by simp)) h0
def UQ(X:Hd->Dc × Bool):∀l:Qp,(∀k∈l,∀x∈k.flat,Xc x=true)->(Zc X l).2=0->∀k∈(Zc X l).1,O1 k
 | [],_,_,k,hk=>by rw[Zc]at hk;cases hk
 |x::l,h,h0,k,hk=>by
  rw[Zc]at h0 hk;simp only at h0 hk;rcases Xg.1 hk with rfl|hk
  ·exact Aa.AY X x (h x (by simp)) (by omega)
  ·exact UQ X l (fun k hk=>h k (by simp[hk])) (by omega) k hk
def UR(X:Hd->Dc × Bool):∀(l:Qp) (seen:List Qo),(∀k∈l,∀x∈k.flat,Xc x=true)->(X8 X l seen).2=0->∀p∈(X8 X l seen).1,O1 p.2
 | [],seen,_,_,p,hp=>by rw[X8]at hp;cases hp;intro k x l h;cases h
 | [_],seen,_,_,p,hp=>by rw[X8]at hp;cases hp;intro k x l h;cases h
 |k::x::l,seen,h,h0,p,hp=>by
  rw[X8]at hp h0;split at hp
  ·cases hp
  ·rename_i c;rw[Qa c]at h0;simp only at h0;rcases Xg.1 hp with rfl|hp
   ·exact Aa.AY X x (h x (by simp)) (by omega)
   ·exact UR X l _ (fun k hk=>h k (by simp[hk])) (by omega) p hp
end
def pO(k:Nat)(h:k≠0):Uq k≠0:=by
 unfold Uq;repeat' split
 all_goals first|decide|omega
def Qab{P:Prop}(h:P:=by
 unfold Q8 at h;rw[Qa (fun e=>e c1),Qa (fun e=>e c2),Qe c3]at h;cases h):P:=h
def Qac{P:Prop}(h:P:=by
 unfold Q8 at h;rw[Qa (fun e=>e c1),Qe c2]at h;exact absurd h (pO _ c2)):P:=h
def SC(X:Hd->Dc × Bool)(h:(Q8 X t f).2=0):Q5 (Q8 X t f).1 1=0/\(Q8 X t f).1.ord=(Q8 X t f).1:=by
 by_cases c1:Q5 t f=0
 ·by_cases c2:(t.proj X).2=0
  ·by_cases c3:Q5 (t.proj X).1 2=60
   ·exact Qab
   ·have e:Q8 X t f=((t.proj X).1,0):=by
     unfold Q8;rw[Qa (fun e=>e c1),Qa (fun e=>e c2),Qa c3]
    have j:=fun x hx=>((Nl c1).2.2 x hx).1
    rw[e];refine⟨?_,Aa.Bb X t j⟩;have q:=Aa.AM X t j c2;unfold Q5 at c3|-;by_cases hd:16< (t.proj X).1.depth∨300<Yk (t.proj X).1
    ·rw[Qe hd]at c3;exact absurd rfl c3
    ·rw[Qa hd]at c3|-;rw[Yu]at c3|-;by_cases v:(t.proj X).1.flat.all Xc=true
     ·rw[Qe v,Qe (Vf.2 q)]
     ·rw[Qa v]at c3;exact absurd rfl c3
  ·exact Qac
 ·unfold Q8 at h;rw[Qe c1]at h;exact absurd h c1
def Qg1{P:Prop}(h:P:=by
 unfold Q5;rw[hdp,hct,Qa oM,Yu,hfl];simp[ho,ho1,hf1,hfit];first|done|decide| (constructor<;>decide)):P:=h
def dD(h:Hd)(h5:h.kind=5)(ho:Xc (.node h [])=true):Xe (.node h [])=(h.s,true):=by
 have j:=Ot ho;have q:V5 h=h.s:=by unfold V5;simp[h5]
 have hfit:Zj 2 (.node h [])=true:=by unfold Zj;simp[h5]
 have v:Q5 (Kl (.node h [])) 2=0:=by
  have hdp:(Kl (.node h [])).depth=2:=by unfold Kl;simp[Aa.depth,Xr]
  have hct:Yk (Kl (.node h []))=3:=by unfold Yk Kl;simp[Aa.count,Q7];exact F9 (3:Int) oM
  have hfl:(Kl (.node h [])).flat=[Kl (.node h []),.node h [],.node (Qh 1) []]:=by unfold Kl;simp[Aa.flat,Re]
  have ho1:Xc (Kl (.node h []))=true:=by unfold Kl Xc;simp[Qh,Zb,J8,Ct]
  have hf1:Zj 2 (Kl (.node h []))=true:=by unfold Kl Zj;simp[Qh,Zb,Jv,h5]
  exact Qg1
 rw[ZY v h.s q,Qa (by show¬400<h.s.size;have:h.s.size<=400:=j;omega)]
def Qg2{P:Prop}(h:P:=by
 unfold Zr at hb;simp only[X1,List.isEmpty_iff,Aa.Ag,Aa.Ae]at hb;exact⟨hb.1,Zo hb.2⟩):P:=h
def O2{g:Hd}(hb:Zr (.node h l) g=true):l=[]/\h={g with kind:=h.kind}:=by
 exact Qg2
def US(X:Hd->Dc × Bool):∀(ps:List (Qo × Aa)) (seen:List Qo),(∀p∈ps,p.2.proj X=(p.2,0)/\Xc (.node (Xy p.1) [])=true/\p.1∉seen)->(ps.map Prod.fst).Nodup->X8 X (Zt ps) seen=(ps,0)
 | [],seen,_,_=>by
  rw[show Zt []=[] from rfl,X8];intro k x l h;cases h
 |p::ps,seen,h,hn=>by
  have hp:=h p sM;rw[Zy,Mp]at hn;have y:=US X ps (p.1::seen) (fun q j=>⟨(h q (by simp[j])).1,(h q (by simp[j])).2.1,fun v=>by
   rcases Xg.1 v with e|v
   ·exact hn.1 (Xq.2 ⟨q,j,e⟩)
   ·exact(h q (by simp[j])).2.2 v⟩) hn.2
  show X8 X (.node (Xy p.1) []::p.2::Zt ps) seen=_;have z:=dD (Xy p.1) rfl hp.2.1;rw[X8,z,Qa (by rintro(e|e);cases e;exact hp.2.2 ((RI _ _).1 e))];rw[show(Xy p.1).s=p.1 from rfl,y,hp.1];rfl
end Go.Tm
namespace Go.Tm
open Go.Proofs Go.RowKit Go.Shelf Go.Sort Go.Proofs.Tryz
variable{K:Nat->Obj->Prop}{S:Qz}{A w:Qm}{l:Qp}{i:Nat}{lv:Q0}
def Qad:=@List.getElem?_cons_succ
def O3(l:Qp):Prop:=∀i (h:2*i+1<l.length),l[2*i].hd=Xy l[2*i].hd.s/\l[2*i].l=[]
def DC:∀l:Qp,(Kv l).length=l.length/2
 | []=>rfl
 | [_]=>by rw[Kv];simp;intro k x l h;cases h
 |k::x::l=>by rw[Kv,Xf,DC l,Xf,Xf];omega
def UU:∀(l:Qp) (i:Nat) (h:2*i+1<l.length),(Kv l)[i]'(by rw[DC];omega)=(l[2*i].hd.s,l[2*i+1])
 |k::x::l,0,_=>rfl
 |k::x::l,i+1,h=>by
  have:=UU l i (by simp only[Xf]at h;omega);simpa[Kv,N5] using this
 | [_],i,h=>by simp at h
def dE:∀(L:Kb) (k:Nat) (z:Array Q0) (i:Nat),k+L.length<=z.size->((L.zipIdx k).foldl (fun(cs:Array Q0) x=>cs.setIfInBounds x.snd x.fst) z)[i]? =if k<=i/\i<k+L.length then L[i-k]? else z[i]?
 | [],k,z,i,_=>by rw[List.zipIdx_nil,List.foldl_nil,Qa sM]
 |v::L,k,z,i,h=>by
  simp only[Xf]at h;rw[List.zipIdx_cons,Ue,dE L (k+1) _ i (by rw[Array.size_setIfInBounds];omega)];simp only[Xf];by_cases h1:k+1<=i/\i<k+1+L.length
  ·rw[Qe h1,Qe oM,show i-k=(i-(k+1))+1 by omega,Qad]
  ·rw[Qa h1,Array.getElem?_setIfInBounds];by_cases h2:k=i
   ·subst h2;rw[Qe rfl,Qe oM,Qe oM,I0];rfl
   ·rw[Qa h2,Qa oM]
def Qae(L:Kb)(z:Array Q0)(h:L.length=z.size)(j:Nat):((L.zipIdx.foldl (fun(cs:Array Q0) x=>cs.setIfInBounds x.snd x.fst) z).toList)[j]? =L[j]?:=by
 rw[wD,dE L 0 z j oM];by_cases q:j<L.length
 ·rw[Qe oM];rfl
 ·rw[Qa oM,nF oM,Array.getElem?_eq_none oM]
structure Bs(S:Qz)(w:Qm)(l:Qp)(i:Nat)(ms:List Ap)(lv:Q0)(A:Qm):Prop where
 len:ms.length=i
 prs:ms.map Ap.pair=(Kv l).take i
 good:∀m∈ms,m.Ay S A
 sb:Boxed A w.heap.size 168 lv
 row:A.ownsRow (w.heap.size+1) 171 18 lv i (Hh ms)
 fr:Qd w A
 sz:w.heap.size+1<=A.heap.size
def Bs.Af{ms:List Ap}{A B:Qm}(h:Bs S w l i ms lv A)(hk:Ac K A B)(hK:∀k o,k<w.heap.size+1∨o.isCells=true->K k o):Bs S w l i ms lv B where
 len:=h.len
 prs:=h.prs
 good m hm:=⟨(h.Ay m hm).1,(h.Ay m hm).2.1,(h.Ay m hm).2.2.1.Af hk fun k _ c f=>hK _ _ (.inr rfl),(h.Ay m hm).2.2.2.Af hk fun k _ c f=>hK _ _ (.inr rfl)⟩
 sb:=hk.boxed h.sb (hK _ _ (.inr rfl))
 row:=C8 h.row hk fun _ _ _ _=>hK _ _ (.inr rfl)
 fr:=Ho h.fr hk fun k o j=>(hK _ _ (.inl (Ku j)))
 sz:=Qj h.sz hk.size
def Qh8(w:Qm):Nat->Obj->Prop:=fun k o=>(∃c f,o=.cells c 27 f)∨(k≠w.heap.size/\(k<w.heap.size+1∨∀c f,o≠ .cells c 171 f))
def Bs.own{ms:List Ap}(h:Bs S w l i ms lv A)(k:Nat)(hk:lv.ownBlock=some k):w.heap.size+1<=k/\∃c,A.heap[k]? =some (.cells c 171 (0,0)):=by
 exact zS
def XJ(S:Qz)(l:Qp)(lv:Q0)(bx:Nat)(w:Qm)(hr:Ad S w l lv)(hbx:Boxed w bx 25 lv)(hl40:l.length<=40)(hkt:O3 l)(hok:∀x∈l,x.hd.s.size<=1099511627776):
  Calls prog 246 #[.slice none 0 0,.func (.func 247) #[] #[.pointer (some ⟨bx,0,none⟩)]] w fun e w'=>∃ms v',e=.returned v'/\ms.map Ap.pair=Kv l/\(∀m∈ms,m.Ay S w')/\w'.ownsRow (w.heap.size+1) 171 18 v' ms.length (Hh ms)/\Qd w w':=by
 have hi18:(prog.info? 171).map (·.size)=some 18:=kM
 have cg:bx<w.heap.size:=Qg hbx
 refine(J5 (n:=0)).1 (Vy func246 rfl trivial ?_ rfl)
 simp only[ntmps246]
 refine Ie ?_
 gi_wp2
 generalize a9:w.alloc (.cells #[.slice none 0 0] 168)=W1
 have b1:Qd w W1:=by rw[<-a9];exact(Ac.refl _ _).alloc _
 have cf:W1.heap.size=w.heap.size+1:=by rw[<-a9];simp
 have b8:Bs S w l 0 [] (.slice none 0 0) W1:={
  len:=rfl
  prs:=sM
  good:=fun m hm=>by cases hm
  sb:=by rw[<-a9];exact Qt w _
  row:=Yz _ _ _ _
  fr:=b1
  sz:=by omega}
 clear a9
 refine Jt (gf:=247) (lb:=#[pt bx])
  rfl (X3 func247 kM rfl) (l.length/2) (DB S l)
  (Qh8 w) (fun _ _=>True) (fun _=>True) (fun _ _=>True) ?hit ?hSb (fun _ _ _ _ _=>trivial)
  (fun i A=>∃ms lv,Bs S w l i ms lv A) (fun _ _ _=>False) ?hI ?hIx ?hE (fun _ _ _ _=>trivial) (fun _ _ _ _ _=>trivial) ?hEs ⟨[],.slice none 0 0,b8⟩
  (fun i v a' A=>∃b2 cs,v=#[.agg cs]/\A.heap[b2]? =some (.cells cs 171 (0,0))/\w.heap.size+1<=b2/\a'={tmps:=#[.slice none 0 0,.func (.func 247) #[] #[pt bx],pt w.heap.size,undef,.slice none 0 0,pt b2,.func (.func 247) #[] #[pt bx],.agg cs,undef,undef,undef,undef,undef],defers:=[]}) ?hAx ?hassign ?hbody ?hdone ?hstop
 case hit=>
  intro W2 ba cc;exact LE S l _ _ _ _ W2 ((hr.same b1).same ba) (ba.boxed (b1.boxed hbx trivial) trivial) (fun c f=>.inr ⟨oM,.inl oM⟩) (fun k c f=>.inl ⟨c,f,rfl⟩)
 case hSb=>exact fun k o hk ho=>.inr ⟨oM,.inr fun c f e=>by subst e;cases ho⟩
 case hI=>
  rintro i A B ⟨ms,lv,h2⟩ hk;exact⟨ms,lv,h2.Af hk fun k o h=>⟨h.imp_left fun h=>oM,trivial⟩⟩
 case hIx=>rintro _ _ _ _ h;exact h.elim
 case hE=>
  rintro i v A B ⟨h0,h1,lv,mv,e,r0,r1,o0,o1⟩ hk;exact Qfu
 case hEs=>
  exact Fs
 case hAx=>
  rintro i v a' A B ⟨b2,cs,e,h1,h2,h3⟩ hk;exact⟨b2,cs,e,hk.same _ _ h1 (.inr rfl),h2,h3⟩
 case hassign=>
  rintro lp i v A K hi ⟨ms,a6,q⟩ be hK;have hE2:=be;obtain⟨h0,h1,c7,bh,rfl,r0,r1,o0,o1⟩:=be;refine RO ?_;intro k0 hk0 g0 hg0;obtain⟨ka,kc,rfl⟩:=r0.Ab;obtain⟨ga,gc,rfl⟩:=r1.Ab;rw[hk0,hg0]at hK hE2|-;refine pN ?_;intro kn hkn gn hgn;rw[hkn,hgn]at hK hE2|-;clear r0 r1 o0 o1 hk0 hg0 hkn hgn h0 h1 hr;refine zU ?_;refine zV ?_;refine hK _ _ ((Ac.refl _ _).alloc _) ⟨ms,a6,q.Af ((Ac.refl All _).alloc _) fun _ _ _=>trivial⟩ ?_ ⟨A.heap.size,_,rfl,Qt A _,q.sz,rfl⟩;exact O0
 case hbody=>
  rintro lp i v a' A d2 ⟨rr,c0⟩ ce ⟨ms,a6,q⟩ ⟨h0,h1,c7,bh,hv,r0,r1,o0,o1⟩ ⟨b2,cs,rfl,b7,c9,rfl⟩;have b5:=UU l i h1;have aa:=hkt i h1;have af:=hok l[2*i] (Zp h0);have y:(Kv l).take (i+1)=(Kv l).take i++[(l[2*i].hd.s,l[2*i+1])]:=by
   rw[Gl (by rw[DC];omega),b5]
  obtain⟨kt,ac⟩:∃t,l[2*i]=t:=⟨_,rfl⟩;obtain⟨gt,b9⟩:∃t,l[2*i+1]=t:=⟨_,rfl⟩;rw[ac]at aa af y r0 o0 hv;rw[b9]at y r1 o1 hv;obtain⟨kh,kl⟩:=kt;obtain⟨ag,rfl⟩:=aa;obtain⟨gh,gl⟩:=gt;simp only[Aa.Ae,Aa.Ag]at ag af y r0 r1 o0 o1 hv;obtain⟨ka,kc,rfl⟩:=r0.Ab;obtain⟨ga,gc,rfl⟩:=r1.Ab;have b3:cs=(Ap.cs ⟨kh.s,gh,ga,gl.length,gc,gl,ka,kc⟩).toArray:=by
   have:=congrArg (fun v:Array Q0=>v[0]?) hv;simp only[MJ]at this;injection (Dw this)with e;rw[e,Ap.cs];show _=(Ol (Xy kh.s) gh _ _).toArray;rw[<-ag];rfl
  have p:(Ap.cs ⟨kh.s,gh,ga,gl.length,gc,gl,ka,kc⟩).length=18:=rfl;obtain⟨M,hM⟩:∃M:Ap,M=⟨kh.s,gh,ga,gl.length,gc,gl,ka,kc⟩:=⟨_,rfl⟩;rw[<-hM]at b3 p;have a2:∀B,Qd A B->M.Ay S B:=fun B hs=>by subst hM;exact⟨af,o1,r1.same hs,r0.same hs⟩
  have ah:M.pair=(kh.s,.node gh gl):=by subst hM;rfl
  have ae:=Ap.Bf M;generalize hL:M.cs=L at b3 p ae;subst b3;have bf:A.rangeAt b2 0 L:=fun j v hj=>by
   rw[Z3,Vj _ _ j _ _ _ b7];simpa using hj
  have b4:(prog.info? 171).map (·.size)=some L.length:=by rw[p];exact hi18
  have d0:=q.sb.cell;have ch:=q.sb.frozen;obtain⟨la,lc,rfl⟩:∃a c,a6=.slice a i c:=by
   rcases q.row.2 with⟨rfl,h0⟩| ⟨g,cap,cur,rfl,_⟩
   ·exact⟨none,0,by rw[h0]⟩
   ·exact⟨_,_,rfl⟩
  obtain⟨m0,c6,bd,bg,bb⟩:=Gk UJ;have cd:=q.sz;replace y:=Qc y;replace a2:=Qc a2;clear hv ag hM r0 r1 o0 o1 b7 hr hbx c0 ac b9 b5;gi_wp2_with(first
   | (refine Gi rfl 171 _ rfl b2 0 rfl L _ bf underlying171 rfl b4 ?_)
   | (gi_at_builtin;refine Mn _ rfl _ _ 168 rfl (w.heap.size+1) 171 m0 (bX (Qh 0) (Qh 0) (.slice none 0 0) (.slice none 0 0)) 18 208 underlying168 c6 bd bg bb rfl dM _ _ _ rfl (q.row.alloc _) (ad A.heap.size 0) 1 1 L rfl p ?c1 ?c2 ?c3 ?c4 ?c5 ?_))
  case c1=>exact fun j u hu=>Jw _ _ _ j u (by rw[Qae L _ (by rw[p];rfl)];exact hu)
  case c2=>exact ae
  case c3=>unfold maxLen;omega
  case c4=>omega
  case c5=>simp;omega
  intro v' d hown' a5 _;obtain⟨va,vc,rfl⟩:∃a c,v'=.slice a (i+1) c:=by
   exact zW
  have a4:∀k,k<w.heap.size+1->(Value.slice la i lc).ownBlock≠some k:=fun k cb e=>by have:=(q.own k e).1;omega
  have b:Ac (fun k _=>(Value.slice la i lc).ownBlock≠some k) A d:=((Ac.refl _ A).alloc _).grown a5 fun r hr o _ hs _=>hs hr
  have a1:Boxed d w.heap.size 168 (.slice la i lc):=b.boxed q.sb (a4 _ oM);have ca:=a1.cell;have c8:=a1.frozen;clear a5 bf;gi_wp2;have z:Ac (fun k _=>k≠w.heap.size) d (d.setCell (ad w.heap.size 0) (.slice va (i+1) vc)):=(Ac.refl _ d).setCell _ fun o _ hs _=>hs rfl
  have a3:Boxed (d.setCell (ad w.heap.size 0) (.slice va (i+1) vc)) w.heap.size 168 (.slice va (i+1) vc):=a1.set _;show(Ac _ A (d.setCell (ad w.heap.size 0) (.slice va (i+1) vc)))/\_;generalize(d.setCell (ad w.heap.size 0) (.slice va (i+1) vc))=A11 at z a3;have a0:Ac (fun k _=>k≠w.heap.size/\(Value.slice la i lc).ownBlock≠some k) A A11:=
   ⟨z.os.trans b.os,z.tape.trans b.tape,z.output.trans b.output,Qj b.size z.size,fun k o ho hK=>z.same k o (b.same k o ho hK.2) hK.1⟩
  have hkn:Ac (Qh8 w) A A11:=a0.mono fun k o ho hK=>by
   rcases hK with⟨c,f,rfl⟩| ⟨h1,h2⟩
   ·refine⟨?_,?_⟩
    ·rintro rfl;have:=q.sb;unfold Boxed at this;rw[this]at ho;cases ho
    ·intro e;obtain⟨_,c',hc⟩:=q.own k e;rw[hc]at ho;cases ho
   ·refine⟨h1,fun e=>?_⟩;obtain⟨h3,c',hc⟩:=q.own k e;rw[hc]at ho;cases ho;rcases h2 with h2|h2
    ·omega
    ·exact h2 _ _ rfl
  have bc:∀m:Ap,m.Ay S A->m.Ay S A11:=fun m hm=>⟨hm.1,hm.2.1,hm.2.2.1.Af hkn fun _ _ c f=>.inl ⟨c,f,rfl⟩,hm.2.2.2.Af hkn fun _ _ c f=>.inl ⟨c,f,rfl⟩⟩
  refine⟨hkn,ms++[M],.slice va (i+1) vc,?_⟩;exact{
   len:=by rw[Zv,q.len];rfl
   prs:=by rw[y.out,Hg,q.prs,Zy,EV,ah]
   good:=fun m hm=>by
    rcases Kn.1 hm with h|h
    ·exact bc m (q.Ay m h)
    ·rw[Zm.1 h];exact bc _ (a2.out A (Ac.refl _ _))
   sb:=a3
   row:=by
    rw[Oy]
    have:=C8 hown' z fun g _ hg _=>(by omega:g≠w.heap.size)
    simpa[Hh,hL] using this
   fr:=Ho q.fr a0 fun k o b0=>(by have:=Qg b0;exact⟨oM,a4 _ oM⟩)
   sz:=Qj q.sz a0.size}
 case hdone=>
  rintro D A hD ⟨ms,a6,hp⟩ _ d1 hDB;have a7:=DC l;have ab:ms.map Ap.pair=Kv l:=by rw[hp.prs,<-a7,Vc]
  have b6:=Qc ab;obtain⟨la,ln,lc,rfl⟩:∃a n c,a6=.slice a n c:=by
   exact kS
  have cl:=hp.sb.cell;clear ab hr b8 hkt hok a7;gi_wp2;have a8:=(Ac.refl (fun k o=>k≠D∨o.isCells=true) A).putObj (r:=D) (.deferred none) fun o ho hs _=>by rw[hDB]at ho;cases ho;rcases hs with h|h;exact h rfl;cases h
  refine Sm ?_;refine⟨_,Gn rfl _ _ _,ms,_,rfl,b6.out,fun m hm=>?_,?_,?_⟩
  ·have:=hp.Ay m hm;exact⟨this.1,this.2.1,this.2.2.1.Af a8 fun _ _ _ _=>.inr rfl,this.2.2.2.Af a8 fun _ _ _ _=>.inr rfl⟩
  ·rw[hp.len];exact C8 hp.row a8 fun _ _ _ _=>.inr rfl
  ·exact Ho hp.fr a8 fun k o b0=>(.inl (Ku b0))
 case hstop=>rintro D i c A _ _ h;exact h.elim
def dF(S:Qz)(l:Qp)(lv:Q0)(bx:Nat)(w:Qm)(hr:Ad S w l lv)(hbx:Boxed w bx 25 lv)(hl40:l.length<=40)(hkt:O3 l)(hok:∀x∈l,x.hd.s.size<=1099511627776):
  Calls prog 166 #[.func (.func 247) #[] #[.pointer (some ⟨bx,0,none⟩)]] w fun e w'=>∃ms v',e=.returned v'/\ms.map Ap.pair=Kv l/\(∀m∈ms,m.Ay S w')/\w'.ownsRow (w.heap.size+1) 171 18 v' ms.length (Hh ms)/\Qd w w':=by
 have j:=XJ S l lv bx w hr hbx hl40 hkt hok
 clear hr hbx hkt hok
 go_in
 go_wp2_with(go_at_call 246;refine j.mono ?_;rintro e n ⟨ms,v',rfl,v,z,q,y⟩)
 go_ret
 exact⟨ms,_,rfl,v,z,q,y⟩
end Go.Tm
namespace Go.Tm
open Go.Proofs Go.RowKit Go.Sort Go.Proofs.Tryz
variable{h:Hd}{l:Qp}{t x:Aa}
def UV:=@List.pairwise_map
abbrev dG(t:Aa):Prop:=∀x∈t.flat,Xc x=true/\Zj 1 x=true
def UW(ho:dG (.node h l))(hx:x∈l):dG x:=((Kj (fun x=>Xc x=true/\Zj 1 x=true) (.node h l)).1 ho).2 x hx
def KJ(ho:dG t):Xc t=true/\Zj 1 t=true:=((Kj (fun x=>Xc x=true/\Zj 1 x=true) t).1 ho).1
def tA(h5:t.hd.kind=5)(ho:Xc t=true):t.hd=Xy t.hd.s/\t.l=[]:=by
 obtain⟨h,l⟩:=t;simp only[Aa.Ae,Aa.Ag]at h5|-;have q:Zr (.node h l) {Qh 5 with s:=h.s}=true:=by
  have e:Xc (.node h l)=(Zr (.node h l) {Qh 5 with s:=h.s}&&decide (h.s.size<=400)&&Gm h.s):=by
   unfold Xc;simp only[Aa.Ae,h5];rfl
  rw[e,X1,X1]at ho;exact ho.1.1
 obtain⟨v,j⟩:=O2 q;refine⟨?_,v⟩;rw[j,h5];rfl
def IG:∀ps:List (Aa × Aa),Kv (Qq ps)=ps.map fun p=>(p.1.hd.s,p.2)
 | []=>rfl
 |p::ps=>by rw[Xm,Kv,IG ps];rfl
def RP(ps:List (Aa × Aa)):Gv (Qq ps)=Qq (ps.map fun p=>(p.1.ord,p.2.ord)):=by
 rw[EI];unfold Qq;rw[List.map_flatMap,List.flatMap_map];rfl
def EK:∀ps:List (Aa × Aa),(∀p∈ps,p.1.hd=Xy p.1.hd.s/\p.1.l=[])->O3 (Qq ps)
 | [],_,i,h=>absurd h (by simp[Qq])
 |p::ps,hp,0,h=>hp p Yr
 |p::ps,hp,i+1,h=>by
  have:=EK ps (fun q j=>hp q (Kk _ j)) i (by simp only[Xm,Xf]at h;omega);simpa[Xm,N5] using this
def Qg3{P Q:Prop}(h:Q)(f:Wz Q->P:=by
 intro zz;have e:Xc (.node h l)=(decide (h=Qh 8)&&decide (l.length % 2=0)&& !J8 (Zb l)):=by
  unfold Xc;simp only[Aa.Ae,Aa.Ag,h8];rfl
 revert e;exact zz.o):P:=f ⟨h⟩
def Qaf(h8:h.kind=8)(ho:dG (.node h l)):O3 (Gv l)/\(Kv (Gv l)).Pairwise fun x y=>x.1≠y.1:=by
 obtain⟨t,r⟩:=KJ ho;have u:l.length % 2=0/\J8 (Zb l)=false:=by
  refine Qg3 ?_;intro e;rw[e,X1,X1,FA]at t;exact⟨Zo t.1.2,t.2⟩
 have c:(Zb l).all (Jv 1)=true:=by
  have e:Zj 1 (.node h l)=(true&&(Zb l).all (Jv 1)):=by
   unfold Zj;simp only[Aa.Ae,Aa.Ag,h8];rfl
  rw[e,MY]at r;exact r
 obtain⟨f,rfl⟩:=Mq l u.1;have n:∀p∈f,dG p.1/\dG p.2:=fun p z=>⟨UW ho (J6.2 ⟨p,z,.inl rfl⟩),UW ho (J6.2 ⟨p,z,.inr rfl⟩)⟩
 have m:=(Nx _).1 u.2;rw[BF]at m c;have j:∀p∈f,p.1.hd=Xy p.1.hd.s/\p.1.l=[]:=fun p z=>by
  have d:=Vf.1 c p.1 (Xq.2 ⟨p,z,rfl⟩);refine tA ?_ (KJ (n p z).1).1;unfold Jv at d;by_cases k:p.1.hd.kind=5
  ·exact k
  ·rw[Qa k,Qe rfl]at d;cases d
 have v:∀p∈f,p.1.ord=p.1:=fun p z=>by
  rw[<-Aa.eta p.1,(j p z).2];exact CC _
 rw[RP];refine⟨EK _ ?_,?_⟩
 ·intro q hq;obtain⟨p,z,rfl⟩:=Xq.1 hq;rw[v p z];exact j p z
 ·rw[IG,Ka,UV];refine(List.Pairwise.and_mem.1 (UV.1 m)).imp fun{a b} hab e=>hab.2.2 ?_
  simp only[Function.comp_apply]at e;rw[v a hab.1,v b hab.2.1]at e;rw[<-Aa.eta a.1,<-Aa.eta b.1,(j a hab.1).1,(j b hab.2.1).1,(j a hab.1).2,(j b hab.2.1).2,e]
def II(l:Qp):(Gv l).length=l.length:=by rw[EI,Vq]
def EL(l:Qp)(k:Nat):Qp:=Gv (l.take k)++l.drop k
def kW(l:Qp):EL l 0=l:=by simp[EL,Gv]
def tB(l:Qp):EL l l.length=Gv l:=by simp[EL]
def KK(l:Qp)(k:Nat):(EL l k).length=l.length:=by
 unfold EL;rw[Zv,II,Ji,CB];omega
def tC(l:Qp)(k:Nat)(h:k<l.length):(EL l k)[k]'(by rw[KK];exact h)=l[k]:=by
 unfold EL;rw[List.getElem_append_right (by rw[II,Ji];omega)];simp only[II,Ji,List.getElem_drop];congr 1;omega
def kX(l:Qp)(k:Nat)(h:k<l.length):(EL l k).set k l[k].ord=EL l (k+1):=by
 unfold EL;have j:(Gv (l.take k)).length=k:=by rw[II,Ji];omega
 rw[List.set_append_right _ _ oM,j,I0,Dq h,List.set_cons_zero,Gl h,EI,EI,Hg];simp
end Go.Tm
namespace Go.Tm
open Go.Proofs Go.RowKit Go.Proofs.Tryz
variable{F:Fence}{n:Nat}{w w':Qm}{o:Oper}{a:Act}{Q:Exit->Act->Qm->Prop}{lv v v' vx:Q0}{S:Qz}{l:Qp}{t:Aa}{cs:Kb}
def RQ:=@List.take_length_add_append
def O4:=@List.length_set
def Rn{K:Act->Qm->Prop}{t:TypeId}(s x:Operand)
  (ho:o.op=.call {callee:=.builtin .append,args:=#[s,x],argTypes:=#[t,t]})(hs:a.eval s=v)(hx:a.eval x=vx)
  (hrun:(Builtin.append_ #[t,t] o.type #[v,vx]).run prog w=.ok v' w')(hK:K (a.put o.dst v') w'):o.wpIn F n prog a w K Q:=by
 exact zL
def UX:∀{l:Qp} {xs:Kb},Ak S w l xs->∀u∈xs,u.oneCell'=true
 | [],xs,h,u,hu=>by rw[Ak]at h;subst h;cases hu
 | .node h k::l,xs,hh,u,hu=>by
  rw[Ak]at hh;obtain⟨cs,rest,rfl,h1,h2⟩:=hh;rcases Kn.1 hu with hu|hu
  ·obtain⟨_,q,rfl,j⟩:=Kc.1 h1;obtain⟨a,c,rfl⟩:=j.Ab;exact N6 _ _ _ _ u hu
  ·exact UX h2 u hu
def Ad.row(h:Ad S w l lv):(lv=.slice none 0 0/\l=[])∨∃ad c xs,lv=.slice (some ad) l.length c/\Ak S w l xs/\∀j u,xs[j]? =some u->w.cell? (ad.add j)=some u:=by
 obtain⟨xs,⟨t,h| ⟨b,v,q,m,f,e,k,z,p,x,d⟩⟩,n⟩:=h
 ·exact .inl ⟨h.1,CW.1 h.2.1⟩
 ·refine .inr ⟨(ad b v),q,xs,e,n,fun j u hj=>?_⟩;rw[Ea];rw[d]at hj;have y:j<9*l.length:=by
   exact VQ
  rw[E5 y,T6]at hj;unfold World.cell?;simp only[z];simpa using hj
def UY(l:Qp)(S:Qz)(lv:Q0)(w:Qm)(hl:Ad S w l lv)(hlen:l.length<=1000):
  Calls prog 66 #[lv] w fun e w'=>∃v',e=.returned v'/\Ar S w' w.heap.size v' l/\Qd w w':=by
 have x:∀(W:Qm) (a:Jr) (n c:Nat),(binOp .eql 25 (.slice a n c) (.slice none 0 0)).run prog W=.ok (.bool a.isNone) W:=fun W a n c=>Lib.run_eql_slice_nil W _ _ a n c 0 0 underlying25
 rcases hl.row with⟨rfl,rfl⟩| ⟨ad,c,k,rfl,y,q⟩
 ·go_in;go_wp2;go_ret;exact⟨_,rfl,Ar.nil _ _ _,Xd⟩
 ·have z:Ar S (w.alloc (.cells #[] 27)) w.heap.size (.slice (some ⟨w.heap.size,0,none⟩) 0 0) []:=⟨[],World.ownsRow_made w #[] 0 (Q6 _) dM rfl,by rw[Ak]⟩;have t:=LW w (.cells #[] 27);have hn:Ak (fun b=>S b/\(Value.slice (some ⟨w.heap.size,0,none⟩) 0 0).ownBlock≠some b) (w.alloc (.cells #[] 27)) l k:=(y.mono fun b hb h=>⟨h,by simp[Value.ownBlock];omega⟩).Af t fun _ _ _ _=>trivial
  go_in;go_wp2_with(at_builtin;refine Jn (v:=.slice (some ⟨w.heap.size,0,none⟩) 0 0) (ts:=l) (news:=k) (ad:=ad) (c:=c) (m:=l.length) rfl _ _ rfl rfl rfl z rfl hn ?c3 (UX y) ?c4 ?c5 ?_)
  case c3=>exact fun j u hu=>t.cell (q j u hu) fun _ _=>trivial
  case c4=>simp only[Vp];omega
  case c5=>simp
  intro v' w1 d hg;have f:Qd w w1:=t.grown hg fun r hr o ho _ p=>by simp[Value.ownBlock]at hr;omega
  go_wp2;go_ret;exact⟨_,rfl,by simpa using d,f⟩
def Ak.set(ht:t.Bp S w cs):∀{l:Qp} {xs:Kb} (i:Nat),i<l.length->Ak S w l xs->Ak S w (l.set i t) (xs.take (9*i)++cs++xs.drop (9*(i+1)))
 |x::l,xs,0,_,h=>by
  rw[Ak]at h;obtain⟨c0,rest,rfl,h1,h2⟩:=h;have v:=Rep.length h1;rw[List.set_cons_zero,Ak];refine⟨cs,rest,?_,ht,h2⟩;rw[Ex,E2,Ri,show 9*(0+1)=c0.length by omega,List.drop_left]
 |x::l,xs,i+1,hi,h=>by
  rw[Ak]at h;obtain⟨c0,rest,rfl,h1,h2⟩:=h;have v:=Rep.length h1;have j:=Ak.set ht i (by simpa using hi) h2;rw[List.set_cons_succ,Ak];refine⟨c0,rest.take (9*i)++cs++rest.drop (9*(i+1)),?_,h1,j⟩;have y:(c0++rest).take (9*(i+1))=c0++rest.take (9*i):=by
   rw[show 9*(i+1)=c0.length+9*i by omega];exact RQ _
  have q:(c0++rest).drop (9*(i+1+1))=rest.drop (9*(i+1)):=by
   rw[show 9*(i+1+1)=c0.length+9*(i+1) by omega];exact List.drop_length_add_append _
  rw[y,q,Y1,Y1,Y1]
def Ee(L:Kb)(o:Nat):Kb->Kb
 | []=>L
 |c::cs=>Ee (L.set o c) (o+1) cs
def UZ:∀(cs:Kb) (o:Nat) (L:Kb),o+cs.length<=L.length->Ee L o cs=L.take o++cs++L.drop (o+cs.length)
 | [],o,L,h=>by simp[Ee]
 |c::cs,o,L,h=>by
  simp only[Xf]at h;rw[Ee,UZ cs (o+1) (L.set o c) (by rw[O4];omega)];have h1:(L.set o c).take (o+1)=L.take o++[c]:=by
   rw[List.set_eq_take_append_cons_drop,Qe oM];have:(L.take o).length=o:=by rw[Ji];omega
   conv=>lhs;rw[show o+1=(L.take o).length+1 by omega]
   rw[RQ];simp
  have j:(L.set o c).drop (o+1+cs.length)=L.drop (o+(c::cs).length):=by
   rw[List.drop_set_of_lt oM,Xf];congr 1;omega
  rw[h1,j];simp
def SD:∀(cs:Kb) (o:Nat) (L:Kb),(Ee L o cs).length=L.length
 | [],_,_=>rfl
 |c::cs,o,L=>by rw[Ee,SD cs,O4]
def World.Br(w:Qm)(g o:Nat)(a0 a1 a2 a3 a4 a5 a6 a7 a8:Q0):Qm:=
 (((((((((w.setCell ⟨g,o,none⟩ a0).setCell ⟨g,o+1,none⟩ a1).setCell ⟨g,o+2,none⟩ a2).setCell ⟨g,o+3,none⟩ a3).setCell ⟨g,o+4,none⟩ a4).setCell ⟨g,o+5,none⟩ a5).setCell ⟨g,o+6,none⟩ a6).setCell ⟨g,o+7,none⟩ a7).setCell ⟨g,o+8,none⟩ a8)
def PC(w:Qm)(g o:Nat)(a0 a1 a2 a3 a4 a5 a6 a7 a8:Q0):Ac (fun k _=>k≠g) w (World.Br w g o a0 a1 a2 a3 a4 a5 a6 a7 a8):=by
 unfold World.Br;repeat(first|with_reducible exact Ac.refl _ _|with_reducible refine Ac.setCell ?_ _ ?_ |exact fun o _ h _=>h rfl)
def tD{g o:Nat}{cur:Array Q0}{t:TypeId}{f:Nat × Nat}(h:w.heap[g]? =some (.cells cur t f))(a0 a1 a2 a3 a4 a5 a6 a7 a8:Q0):
  ∃cur',(World.Br w g o a0 a1 a2 a3 a4 a5 a6 a7 a8).heap[g]? =some (.cells cur' t f)/\cur'.toList=Ee cur.toList o [a0,a1,a2,a3,a4,a5,a6,a7,a8]:=
 ⟨_,Qk (Qk (Qk (Qk (Qk (Qk (Qk (Qk (Qk h o a0) (o+1) a1) (o+2) a2) (o+3) a3) (o+4) a4) (o+5) a5) (o+6) a6) (o+7) a7) (o+8) a8,by simp[Ee]⟩
def Ar.set{B g n cap:Nat}(h:Ar S w B (.slice (some ⟨g,0,.none⟩) n cap) l)(i:Nat)(hi:i<l.length)(q:Hd)(m:Qp)(mv:Q0)(hq:q.ok)(hm:Ad (fun b=>S b/\b≠g) w m mv):
  Ar S (World.Br w g (9*i) (.int .i64 q.kind) (.bool q.b) (.bool q.d.neg) (.string q.d.digits) (.int .i64 q.d.exp) (.int .u64 q.u) (.int .i64 q.w) (.string q.s) mv) B (.slice (some ⟨g,0,.none⟩) n cap) (l.set i (.node q m)):=by
 obtain⟨p,⟨hx,hr⟩,x⟩:=h
 rcases hr with⟨e,_⟩| ⟨g',a5,j,e,hb,hg,a6,a1,a2,a3⟩
 ·cases e
 ·cases e;obtain⟨t,a4,k⟩:=tD (o:=9*i) hg (i6 q.kind) (.bool q.b) (.bool q.d.neg) (.string q.d.digits) (i6 q.d.exp) (.int .u64 q.u) (i6 q.w) (.string q.s) mv;have hk:=PC w g (9*i) (i6 q.kind) (.bool q.b) (.bool q.d.neg) (.string q.d.digits) (i6 q.d.exp) (.int .u64 q.u) (i6 q.w) (.string q.s) mv;have z:Ak (fun b=>S b/\(Value.slice (some ⟨g,0,.none⟩) l.length cap).ownBlock≠some b) w (l.set i (.node q m)) (p.take (9*i)++Qn q mv++p.drop (9*(i+1))):=
   Ak.set (Kc.2 ⟨hq,mv,rfl,hm.mono fun b _ r=>⟨r.1,by simp[Value.ownBlock];exact fun e=>r.2 e.symm⟩⟩) i hi x
  have y:j.toList.length=cap*9:=by rw[aA,a2]
  have v:=UZ (Qn q mv) (9*i) j.toList (by simp only[Xf,Vp];omega);refine⟨p.take (9*i)++Qn q mv++p.drop (9*(i+1)),⟨?_,.inr ⟨g,cap,t,?_,hb,a4,?_,a1,?_,?_⟩⟩,?_⟩
  ·rw[O4];simp only[Zv,Ji,CB,Xf,Vp];omega
  ·rw[O4]
  ·rw[O4];omega
  ·rw[<-aA,k,SD,y]
  ·rw[O4,k];rw[show([i6 q.kind,.bool q.b,.bool q.d.neg,.string q.d.digits,i6 q.d.exp,.int .u64 q.u,i6 q.w,.string q.s,mv]:Kb)=Qn q mv from rfl,v,<-a3];have hA:(j.toList.take (9*i)).length=9*i:=by rw[Ji];omega
   rw[List.take_take,Us oM,List.drop_take,Y1,Y1];obtain⟨R,hR⟩:∃R,l.length*9=(j.toList.take (9*i)).length+((Qn q mv).length+R):=⟨l.length*9-9*i-9,by rw[hA];simp only[Xf,Vp];omega⟩;have a0:l.length*9-9*(i+1)=R:=by rw[hR,hA];simp only[Xf,Vp];omega
   rw[a0,hR,RQ,RQ];rw[show 9*i+(Qn q mv).length=9*(i+1) from rfl]
  ·exact z.Af hk fun b r c f=>by
    intro e;exact r.2 (by rw[e];rfl)
end Go.Tm
namespace Go.Tm
open Go.Proofs Go.RowKit Go.Shelf Go.Sort Go.Proofs.Tryz
variable{S:Qz}{w:Qm}{l:Qp}
def RR(S:Qz)(t:Aa)(w:Qm):Ending->Qm->Prop:=fun e w'=>∃lv',e=.returned (Qu t.hd lv')/\Ad S w' t.ord.l lv'/\Qd w w'
def Qag(t:Aa):Prop:=∀(S:Qz) (lv:Q0) (w:Qm),t.hd.ok->Ad S w t.l lv->(∀k,w.heap.size<=k->S k)->Calls prog 98 #[Qu t.hd lv] w (RR S t w)
def Ar.block{B n c:Nat}{a:Jr}(h:Ar S w B (.slice a n c) l)(h0:0<l.length):∃g cur,a=some ⟨g,0,.none⟩/\B<=g/\w.heap[g]? =some (.cells cur 27 (0,0)):=by
 obtain⟨y,⟨hx,⟨_,z⟩| ⟨g,q,cur,e,v,j,_⟩⟩,_⟩:=h
 ·omega
 ·cases e;exact⟨g,cur,rfl,v,j⟩
def Ar.get{B g n c:Nat}(h:Ar S w B (.slice (some ⟨g,0,.none⟩) n c) l)(i:Nat)(hi:i<l.length):
  ∃lv,(l[i]).hd.ok/\Ad (fun b=>S b/\b≠g) w (l[i]).l lv/\w.rangeAt g (i*9) (Qn (l[i]).hd lv):=by
 obtain⟨k,q,t⟩:=h
 have m:=q.cells (g:=g) rfl
 have u:=t.get i hi
 have hx:l[i]=.node (l[i]).hd (l[i]).l:=(Aa.eta _).symm
 rw[hx,Kc]at u
 obtain⟨f,lv,e,z⟩:=u
 refine⟨lv,f,z.mono fun b _ d=>⟨d.1,fun e=>d.2 (by rw[e];rfl)⟩,fun j v hj=>?_⟩
 rw[<-e]at hj
 have y:j<9:=by
  exact VQ
 rw[E5 y,T6]at hj
 have:=m _ _ hj
 rw[Ea]at this
 simpa[Jj] using this
def Qah{w a b c:Qm}{x y:Nat}(h:Qd w a)(h1:Ac (fun k _=>k≠x) a b)(h2:Ac (fun k _=>k≠y) b c)(hx:w.heap.size<=x)(hy:w.heap.size<=y):Qd w c:=
 ⟨h2.os.trans (h1.os.trans h.os),h2.tape.trans (h1.tape.trans h.tape),h2.output.trans (h1.output.trans h.output),Qj h.size (Qj h1.size h2.size),fun k o j _=>h2.same k o (h1.same k o (h.same k o j trivial) (Ku j)) (Ku j)⟩
def Qfw{P Q:Prop}(h:Q)(f:Wz Q->P:=by
 intro zz;have hr0:Ad (fun x=>S x/\(x<w.heap.size∨w.heap.size+2<=x)) w l lv:=hr.mono fun b hb hh=>⟨hh,.inl hb⟩
 have hS0:∀k,w.heap.size+2<=k->S k/\(k<w.heap.size∨w.heap.size+2<=k):=fun k hk=>⟨hS k oM,.inr hk⟩
 obtain⟨S0,hSS⟩:∃S0:Qz,S0=(fun x=>S x/\(x<w.heap.size∨w.heap.size+2<=x)):=⟨_,rfl⟩;revert hr0 hS0 S0 hSS;exact zz.o):P:=f ⟨h⟩
def Qfx{P Q:Prop}(h:Q)(f:Wz Q->P:=by
 intro zz;have hbn:((w.alloc (.cells (nR h (.slice a n cap)) 27)).alloc (.cells zR 27)).heap[w.heap.size]? =some (.cells (nR h (.slice a n cap)) 27 (0,0)):=Qb (Qt w _);have hbr:((w.alloc (.cells (nR h (.slice a n cap)) 27)).alloc (.cells zR 27)).heap[w.heap.size+1]? =some (.cells zR 27 (0,0)):=Ql sM;have hk1:Qd w ((w.alloc (.cells (nR h (.slice a n cap)) 27)).alloc (.cells zR 27)):=Xd;have hz1:((w.alloc (.cells (nR h (.slice a n cap)) 27)).alloc (.cells zR 27)).heap.size=w.heap.size+2:=sM;revert hbn hbr hk1 hz1;exact zz.o):P:=f ⟨h⟩
def Qfy{P Q:Prop}(h:Q)(f:Wz Q->P:=by
 intro zz;have n0:=Qi hbn3;have hfz:w3.frozen? (ad w.heap.size 8)=false:=Je hbn3 8;have hk4:Ac (fun b _=>b≠w.heap.size) w3 (w3.setCell (ad w.heap.size 8) (.slice va n vc)):=(Ac.refl _ w3).setCell _ fun o _ hs _=>hs rfl
 have hbn4:(w3.setCell (ad w.heap.size 8) (.slice va n vc)).heap[w.heap.size]? =some (.cells (nR h (.slice va n vc)) 27 (0,0)):=Qk hbn3 8 (.slice va n vc);revert n0 hfz hk4 hbn4;exact zz.o):P:=f ⟨h⟩
def Qai{P Q:Prop}(h:Q)(f:Wz Q->P:=by
 intro zz;have hbx5:=Qt wr (.cells (nR q (.slice xa xl.length xc)) 27);have hk5:=LW wr (.cells (nR q (.slice xa xl.length xc)) 27);have hz5:(wr.alloc (.cells (nR q (.slice xa xl.length xc)) 27)).heap.size=wr.heap.size+1:=sM;revert hbx5 hk5 hz5;exact zz.o):P:=f ⟨h⟩
def pP{P Q:Prop}(h:Q)(f:Wz Q->P:=by
 intro zz;have hb5:=hk5.s hb;have hzr5:=hk5.s hz;have hown5:=hown.same hk5;have hsm5:=hsm.trans hk5;have n0:=Qi hb5;have m0:=Qi hbx5;refine EA ?_;refine KC (n:=0) (And.intro hb5 hbx5) ?_;simp only[Vz];revert hb5 hzr5 hown5 hsm5 n0 m0;exact zz.o):P:=f ⟨h⟩
def Qaj{P Q:Prop}(h:Q)(f:Wz Q->P:=by
 intro zz;have hk56:Qd W5 w6:=⟨hk6.os,hk6.tape,hk6.output,hk6.size,hk6.same⟩;have hb6:=hk56.s hb5;have hbx6:=hk56.s hbx5;have hzr6:=hk56.s hzr5;have hown6:=hown5.same hk56;have hsm6:=hsm5.trans hk56;have hz6:W5.heap.size<=w6.heap.size:=hk56.size;revert hk56 hb6 hbx6 hzr6 hown6 hsm6 hz6;exact zz.o):P:=f ⟨h⟩
def Qfz{P:Prop}(h:P:=by
 unfold World.Br at hw7;rw[hw7];have hb7:=hk67.same _ _ hb6 oM;have hzr7:=hk67.same _ _ hzr6 oM;have hsm7:Qd w w7:=Ho hsm6 hk67 fun y o hy=>(Ku hy)
 have hz7:=hk67.size;clear hw7 c0 hya hfz hgc6 hown6 hsm6 hr6 hzr6 hb6 hbx6 hk67;go_wp2;refine⟨?_,by simp[RowKit.intOf];omega⟩;exact⟨k+1,oM,by go_num,hb7,hzr7,hset,hsm7,oM⟩):P:=h
def RS(h:Hd)(l:Qp)(ih:∀x∈l,Qag x)(hl40:l.length<=40)(hoj:dG (.node h l)):Qag (.node h l):=by
 intro S lv w ho hr hS;simp only[Aa.Ae,Aa.Ag]at ho hr;have bd:(Aa.node h l).ord.l=if h.kind=8 then Jg (Kv (Gv l))else Gv l:=by rw[Aa.ord];rfl
 have t:=fun h8=>Qaf (h:=h) (l:=l) h8 hoj
 unfold RR;rw[bd];simp only[Aa.Ae];refine Qfw ?_;intro hr0 hS0 S0 hSS;have c6:∀b,S0 b->S b:=fun b hb=>by rw[hSS]at hb;exact hb.1
 have a0:∀b,S0 b->b≠w.heap.size/\b≠w.heap.size+1:=fun b hb=>by rw[hSS]at hb;have:=hb.2;omega
 replace hS0:∀k,w.heap.size+2<=k->S0 k:=fun k hk=>by rw[hSS];exact hS0 k hk
 rw[<-hSS]at hr0;clear hSS hr hoj bd hS;have a8:=fun W (hs:Qd w W)=>UY l S0 lv W (hr0.same hs) oM
 have d7:=kW l;have ag:=tB l;have b1:=KK l;obtain⟨a,cap,rfl⟩:=hr0.Ab;generalize hn:l.length=n at a8 hl40 ag b1|-;refine Qfx ?_;intro hbn hbr hk1 hz1;replace a8:=a8 _ hk1;clear hr0;obtain⟨R,hR⟩:=X0 (if h.kind=8 then Jg (Kv (Gv l))else Gv l);rw[hR];replace hR:=Qc hR;go_in;go_wp2_with fail;refine a8.mono ?_;rintro e w3 ⟨v',rfl,hown,a3⟩;rw[hz1]at hown;obtain⟨va,vc,rfl⟩:=hown.Ab;rw[hn]at hown;have hbn3:=a3.s hbn;have b4:=a3.s hbr;have b5:=hk1.trans a3;have cc:w.heap.size+2<=w3.heap.size:=by have:=a3.size;omega
 refine Qfy ?_;intro n0 hfz hk4 hbn4;clear a3 hk1 hz1 hbn hbr a8;go_wp2_with fail;generalize(w3.setCell (ad w.heap.size 8) (.slice va n vc))=w4 at hk4 hbn4|-;have bb:=hk4.same _ _ b4 oM;have b9:Qd w w4:=Ho b5 hk4 fun k o hk=>(Ku hk)
 have aa:Ar S0 w4 (w.heap.size+2) (.slice va n vc) l:=hown.Af hk4 fun b hb c f=>by
  rcases hb with hb|hb
  ·exact(a0 b hb).1
  ·omega
 have d1:w.heap.size+2<=w4.heap.size:=Qj cc hk4.size;clear hk4 hbn3 b4 b5 hown n0 hfz cc;have n0:=Qi hbn4;go_wp2_with fail;go_loopw [12] (fun iv wr=>∃k:Nat,k<=n/\iv=i6 (k:Int)/\wr.heap[w.heap.size]? =some (.cells (nR h (.slice va n vc)) 27 (0,0))/\wr.heap[w.heap.size+1]? =some (.cells zR 27 (0,0))/\
  Ar S0 wr (w.heap.size+2) (.slice va n vc) (EL l k)/\Qd w wr/\w.heap.size+2<=wr.heap.size) (fun iv _=>n-(RowKit.intOf iv).toNat)
 case atStart=>exact⟨0,Xi _,rfl,hbn4,bb,by rw[d7];exact aa,b9,d1⟩
 case round=>
  obtain⟨k,df,rfl,hb,hz,hown,hsm,f0⟩:=hrel;clear n0 hbn4 bb aa b9 d1;by_cases c4:k<n
  ·have c1:k<l.length:=oM;obtain⟨g,d9,rfl,dg,da⟩:=hown.block (by rw[b1];omega);have ba:=tC l k c1;have v:=kX l k c1;obtain⟨d6,ac,a2,a4⟩:=hown.get k (by rw[b1];exact c4);have a7:=ih l[k] (Zp c1);rw[ba]at ac a2 a4;have c8:l[k].ord=.node l[k].hd l[k].ord.l:=by rw[<-zY];exact(Aa.eta _).symm
   rw[c8]at v;generalize d4:l[k]=xt at ac a2 a4 a7 v;obtain⟨ol,cb⟩:=X0 xt.ord.l;have z:=fun W (hs:Qd wr W)=>a7 (fun b=>S0 b/\b≠g) d6 W ac (a2.same hs) (fun b hb=>⟨hS0 b (by have:=hs.size;omega),by have:=hs.size;have:=Qg da;omega⟩)
   unfold RR at z;rw[cb]at v z;obtain⟨q,xl⟩:=xt;simp only[Aa.Ae,Aa.Ag]at ac a2 a4 z v;obtain⟨xa,xc,rfl⟩:=a2.Ab;have HN:=Qc v;obtain⟨L,hL⟩:=X0 (EL l k);have cg:k<L.length:=by rw[<-hL,b1];exact c4
   rw[hL]at hown HN;clear v ba a7 c8 d4 cb ih hL a2;have c0:=Rv a4;go_wp2_with fail;refine Qai ?_;intro hbx5 hk5 hz5;generalize(wr.alloc (.cells (nR q (.slice xa xl.length xc)) 27))=W5 at hbx5 hk5 hz5|-;refine pP ?_;intro hb5 hzr5 hown5 hsm5 n0 m0;clear c0 a4 hb hz hown;repeat refine sX ?_
   refine Vr ?_;intro K hK;refine(Qr (z _ (hk5.trans Xd))).mono ?_;rintro x' w6 ⟨de,rfl,hr6,hk6⟩;refine Qaj ?_;intro hk56 hb6 hbx6 hzr6 hown6 hsm6 hz6;obtain⟨a6,bf,rfl⟩:=hr6.Ab;refine hK _ _ ⟨hb6,hbx6⟩ ?_;clear hK K z hb5 hbx5 hzr5 hown5 hsm5 hk6 hk56 n0 m0;repeat refine sX ?_
   refine DA ?_;obtain⟨g',dd,e6,_,hgc6⟩:=hown6.block oM;cases e6;have hfz:=Jd hgc6;obtain⟨f1,_,_,hya⟩:=hown6.get k cg;have c0:=Rv hya;go_simp;have hset:=hown6.set k cg q ol (.slice a6 ol.length bf) ac hr6;rw[Jj 9 k]at hset;have hk67:=PC w6 g (k*9) (i6 q.kind) (.bool q.b) (.bool q.d.neg) (.string q.d.digits) (i6 q.d.exp) (.int .u64 q.u) (i6 q.w) (.string q.s) (.slice a6 ol.length bf);rw[HN.out]at hset;generalize hw7:World.Br w6 g (k*9) (i6 q.kind) (.bool q.b) (.bool q.d.neg) (.string q.d.digits) (i6 q.d.exp) (.int .u64 q.u) (i6 q.w) (.string q.s) (.slice a6 ol.length bf)=w7 at hset hk67;exact Qfz
  ·obtain rfl:k=n:=oM;rw[ag]at hown;have ca:(Gv l).length=k:=by rw[II,hn]
   have n0:=Qi hb;by_cases h8:h.kind=8
   ·obtain⟨c3,r⟩:=t h8;have a1:R=Jg (Kv (Gv l)):=by rw[<-hR.out,Qe h8]
    have j:=hown.rep hS0 oM;have bg:∀x∈Gv l,x.hd.s.size<=1099511627776:=fun x hx=>by
     obtain⟨i,hi,rfl⟩:=ZC hx;obtain⟨_,_,_,_,_,dc⟩:=j.shape;obtain⟨_,_,_,_,_,_,_,db,_⟩:=dc i hi;exact db.2.2.2.2.2
    generalize dh:Gv l=OL at c3 r j bg ca a1;have b2:=Qc a1;clear a1 hR;have bc:=fun W bx hr hb=>dF S0 OL (.slice va k vc) bx W hr hb oM c3 bg
    have d5:(h.kind==8)=true:=by simpa using h8
    have hfz:wr.frozen? (ad w.heap.size 8)=false:=Je hb 8;have be:=LW wr (.cells #[.slice va k vc] 25);have a5:=bc _ wr.heap.size (j.same be) (Qt wr _);clear t ih ag hown bc c3 bg h8;go_wp2_with(go_at_call 167;refine(S1 _ _ _ _).mono ?_;rintro e w' ⟨rfl,h9⟩;replace h9:=h9.symm;subst h9);refine a5.mono ?_;rintro e w8 ⟨ms,mv,rfl,b0,af,ab,cf⟩;have m:=be.trans cf;have c7:=m.s hb;have b7:=m.s hz;have bh:ms.length<=20:=by
     have:=congrArg List.length b0;rw[Vq,DC,ca]at this;omega
    rw[<-b0]at r;have b6:=Mx S0 ms mv _ w8 ab bh af r (fun b hb=>hS0 b (by have:=m.size;omega));obtain⟨ma,mn,mc,rfl⟩:∃a n c,mv=.slice a n c:=by
     rcases ab.2 with⟨rfl,_⟩| ⟨g,cap,d9,rfl,_⟩
     ·exact⟨_,_,_,rfl⟩
     ·exact⟨_,_,_,rfl⟩
    clear a5 ab af r n0 be hfz j;go_wp2_with fail;refine b6.mono ?_;rintro e w9 ⟨v9,rfl,ae,p⟩;obtain⟨a9,c9,rfl⟩:=ae.Ab;have b8:=m.trans p;have c2:=p.s c7;have ce:=p.s b7;have cd:=hsm.trans b8;clear b6 p c7 b7 m b8 cf;generalize d8:(Jg (ms.map Ap.pair)).length=L9 at ae|-;rw[b0]at ae;rw[<-b2.out]at ae;clear b2 b0 d8;have n0:=Qi c2;have f2:=Jd c2;have ah:Ac (fun b _=>b≠w.heap.size) w9 (w9.setCell (ad w.heap.size 8) (.slice a9 L9 c9)):=(Ac.refl _ w9).setCell _ fun o _ hs _=>hs rfl
    have c5:(w9.setCell (ad w.heap.size 8) (.slice a9 L9 c9)).heap[w.heap.size]? =some (.cells (nR h (.slice a9 L9 c9)) 27 (0,0)):=Qk c2 8 (.slice a9 L9 c9);have b3:=ah.same _ _ ce oM;have d0:=Qi c5;have q0:=Qi b3;have hfz:=Jd b3;go_wp2_with fail
    (try simp only[Exit.inBlock,Exit.then]);generalize(w9.setCell (ad w.heap.size 8) (.slice a9 L9 c9))=wA at ah c5 b3|-;obtain⟨h9,d2⟩:=Yw b3 h (.slice a9 L9 c9);have ch:=((ae.Af ah fun y hy _ _=>(a0 y hy).1).Af d2 fun y hy _ _=>(a0 y hy).2).mono fun y _ hy=>c6 y hy
    have d3:=Qah cd ah d2 oM oM;refine DS rfl rfl h9 rfl ⟨_,rfl,?_,?_⟩
    ·exact ch
    ·exact d3
   ·have a1:R=Gv l:=by rw[<-hR.out,Qa h8]
    have b2:=Qc a1;have d5:(h.kind==8)=false:=by simpa using h8
    have q0:=Qi hz;have hfz:=Jd hz;have j:=hown.rep hS0 oM;clear a1 hR ih t ag hown;go_wp2_with fail
    (try simp only[Exit.inBlock,Exit.then]);obtain⟨h9,p⟩:=Yw hz h (.slice va k vc);refine DS rfl rfl h9 rfl ⟨_,rfl,?_,?_⟩
    ·rw[b2.out];exact(j.Af p fun y hy _ _=>(a0 y hy).2).mono fun y _ hy=>c6 y hy
    ·exact Ho hsm p fun y o hy=>(Ku hy)
end Go.Tm
namespace Go.Tm
open Go.Proofs Go.RowKit Go.Proofs.Tryz
variable{d:Dc}{h:Hd}{l:Qp}{X:Hd->Dc × Bool}{E:Am}{D N m n:Nat}{t:Aa}{f form:Int}{p q:List Aj}
def Mz:=@Nat.le_of_eq
def M0:=@of_decide_eq_false
def O5:=@List.foldl_append
def DD:Array MapEntry:=#[{key:=.int .i64 2,val:=.func (.func 151) #[] #[],born:=0},{key:=.int .i64 5,val:=.func (.func 151) #[] #[],born:=1},{key:=.int .i64 6,val:=.func (.func 152) #[] #[],born:=2},{key:=.int .i64 11,val:=.func (.func 153) #[] #[],born:=3},{key:=.int .i64 9,val:=.func (.func 154) #[] #[],born:=4},{key:=.int .i64 7,val:=.func (.func 155) #[] #[],born:=5},{key:=.int .i64 8,val:=.func (.func 156) #[] #[],born:=6}]
def CQ(k:Int):Q0:=if k=2∨k=5 then .func (.func 151) #[] #[]else if k=6 then .func (.func 152) #[] #[]else if k=11 then .func (.func 153) #[] #[]else if k=9 then .func (.func 154) #[] #[]else if k=7 then .func (.func 155) #[] #[]else if k=8 then .func (.func 156) #[] #[]else .nilFunc
def Cz(k:Int):Bool:=decide (k=2∨k=5∨k=6∨k=11∨k=9∨k=7∨k=8)
def Wb(w:Qm):Calls prog 91 #[] w fun e w'=>∃b,e=.returned (.map (some b))/\w'.heap[b]? =some (.map DD 7)/\Qd w w':=by
 go_in;go_wp2;refine YN ?_;intro X hX;have hs:Qd w X:=by rw[<-hX];exact Xd
 have hm:X.heap[w.heap.size]? =some (.map (DD.extract 0 0) 0):=by rw[<-hX];exact Qt w _
 rw[hX];clear hX;go_wp2;rw[Qs (d:=.int .i64) (i6 2) (.func (.func 151) #[] #[]) underlying113 underlying3 rfl hm (by rfl)];generalize hX:World.putObj _ _ _=X;obtain⟨hs,hm⟩:=L6 (o':=.map (DD.extract 0 1) 1) hX hs hm;clear hX;go_wp2;rw[Qs (d:=.int .i64) (i6 5) (.func (.func 151) #[] #[]) underlying113 underlying3 rfl hm (by rfl)];generalize hX:World.putObj _ _ _=X;obtain⟨hs,hm⟩:=L6 (o':=.map (DD.extract 0 2) 2) hX hs hm;clear hX;go_wp2;rw[Qs (d:=.int .i64) (i6 6) (.func (.func 152) #[] #[]) underlying113 underlying3 rfl hm (by rfl)];generalize hX:World.putObj _ _ _=X;obtain⟨hs,hm⟩:=L6 (o':=.map (DD.extract 0 3) 3) hX hs hm;clear hX;go_wp2;rw[Qs (d:=.int .i64) (i6 11) (.func (.func 153) #[] #[]) underlying113 underlying3 rfl hm (by rfl)];generalize hX:World.putObj _ _ _=X;obtain⟨hs,hm⟩:=L6 (o':=.map (DD.extract 0 4) 4) hX hs hm;clear hX;go_wp2;rw[Qs (d:=.int .i64) (i6 9) (.func (.func 154) #[] #[]) underlying113 underlying3 rfl hm (by rfl)];generalize hX:World.putObj _ _ _=X;obtain⟨hs,hm⟩:=L6 (o':=.map (DD.extract 0 5) 5) hX hs hm;clear hX;go_wp2;rw[Qs (d:=.int .i64) (i6 7) (.func (.func 155) #[] #[]) underlying113 underlying3 rfl hm (by rfl)];generalize hX:World.putObj _ _ _=X;obtain⟨hs,hm⟩:=L6 (o':=.map (DD.extract 0 6) 6) hX hs hm;clear hX;go_wp2;rw[Qs (d:=.int .i64) (i6 8) (.func (.func 156) #[] #[]) underlying113 underlying3 rfl hm (by rfl)];generalize hX:World.putObj _ _ _=X;replace hs:Qd w X:=by rw[<-hX];exact hs.putObj _ fun o _ _ h=>oM
 replace hm:X.heap[w.heap.size]? =some (.map (DD.extract 0 7) 7):=by rw[<-hX];exact CI (Qg hm)
 exact YO
def O6(A:Qm)(kb:Nat)(k:Int)(hm:A.heap[kb]? =some (.map DD 7)):
  (Instr.lookup 113 (.map (some kb)) (.int .i64 k) true).run prog A=.ok (.tuple #[CQ k,.bool (Cz k)]) A:=by
 by_cases m:k=2∨k=5∨k=6∨k=11∨k=9∨k=7∨k=8
 ·have y:Cz k=true:=Kp m;rw[y];rcases m with rfl|rfl|rfl|rfl|rfl|rfl|rfl
  ·exact Xj (d:=.int .i64) (i:=0) (v:=CQ 2) (i6 2) underlying113 underlying3 rfl hm (by rfl) true
  ·exact Xj (d:=.int .i64) (i:=1) (v:=CQ 5) (i6 5) underlying113 underlying3 rfl hm (by rfl) true
  ·exact Xj (d:=.int .i64) (i:=2) (v:=CQ 6) (i6 6) underlying113 underlying3 rfl hm (by rfl) true
  ·exact Xj (d:=.int .i64) (i:=3) (v:=CQ 11) (i6 11) underlying113 underlying3 rfl hm (by rfl) true
  ·exact Xj (d:=.int .i64) (i:=4) (v:=CQ 9) (i6 9) underlying113 underlying3 rfl hm (by rfl) true
  ·exact Xj (d:=.int .i64) (i:=5) (v:=CQ 7) (i6 7) underlying113 underlying3 rfl hm (by rfl) true
  ·exact Xj (d:=.int .i64) (i:=6) (v:=CQ 8) (i6 8) underlying113 underlying3 rfl hm (by rfl) true
 ·have y:Cz k=false:=Z4 m;have n:CQ k=.nilFunc:=by unfold CQ;rw[Qa oM,Qa oM,Qa oM,Qa oM,Qa oM,Qa oM]
  rw[y,n];refine H9 (d:=.int .i64) (z:=.nilFunc) _ underlying113 underlying3 ?_ (fun w=>kM) hm ?_ true
  ·rfl
  ·have q:∀j:Int,k≠j->Instr.sameNow (.int .i64) (i6 k) (i6 j)=some false:=fun j h=>by
    have u:(k==j)=false:=by rw[X6];exact h
    show some (k==j)=_;rw[u]
   simp[DD,Instr.findNow,q 2 oM,q 5 oM,q 6 oM,q 11 oM,q 9 oM,q 7 oM,q 8 oM]
def tE(xs:Qv):(Cw 6 xs).length<=8*xs.length+1:=by
 have h:=TY 6 8 (0,0) xs;unfold Cw;rw[Zv];have j:∀(c:Prop) [Decidable c] (y:Nat),(if c then[y]else[]).length<=1:=fun c _ y=>by split<;>simp
 have:=j (0< (K7 6 8 xs xs.length).2) ((K7 6 8 xs xs.length).1*2^(6-(K7 6 8 xs xs.length).2));simp only at h;omega
def tF(s:Qo):(Xh (He (Qf s)).1).size<=3201:=by
 rw[Jz];unfold He;split
 ·rename_i h
  have:=tE (Qf s);simp only[J3,Vq];omega
 ·simp
def pQ(s:Qo):(On s).1.hd.ok:=pM (Qj (tF s) dM)
def RT(h:Q2 d=true):d.digits.size<=100/\ -1000<=d.exp/\d.exp<=1000:=by
 unfold Q2 at h;rw[Y2]at h;rcases h with h|h
 ·rw[Zo h];decide
 ·simp only[X1]at h;obtain⟨⟨⟨_,q⟩,j⟩,_⟩:=h;refine⟨Zo q,?_⟩;unfold Kt at j;simp at j;omega
def Qg4(h:Q2 d=true):({Qh 3 with d:=d}:Hd).ok:=by
 obtain⟨j,v,q⟩:=RT h;exact⟨by show(-9223372036854775808:Int)<=3/\(3:Int)<=9223372036854775807;decide,by show-9223372036854775808<=d.exp/\d.exp<=9223372036854775807;omega,by show(-9223372036854775808:Int)<=0/\(0:Int)<=9223372036854775807;decide,by show 0<18446744073709551616;decide,by show d.digits.size<=1099511627776;omega,Xi _⟩
def DE(k:Int):Nat:=if k=2∨k=5 then 151 else if k=6 then 152 else if k=11 then 153 else if k=9 then 154 else if k=7 then 155 else 156
def Lo{k:Int}(h:Cz k=true):k=2∨k=5∨k=6∨k=11∨k=9∨k=7∨k=8:=Zo h
def Qak{k:Int}(h:Cz k=true):CQ k=.func (.func (DE k)) #[] #[]:=by
 rcases Lo h with rfl|rfl|rfl|rfl|rfl|rfl|rfl<;>rfl
def dH(k:Int)(args:Array Q0)(w:Qm)(h:Cz k=true):(callFunc (DE k) args).run prog w=.ok (.enter (DE k) args) w:=by
 rcases Lo h with rfl|rfl|rfl|rfl|rfl|rfl|rfl
 ·exact X3 func151 kM rfl args w
 ·exact X3 func151 kM rfl args w
 ·exact X3 func152 kM rfl args w
 ·exact X3 func153 kM rfl args w
 ·exact X3 func154 kM rfl args w
 ·exact X3 func155 kM rfl args w
 ·exact X3 func156 kM rfl args w
def Qef(e:h.kind=9)(hown:Xc (.node h l)=true):l.length=1:=by
 unfold Xc at hown;simp only[Aa.Ae,Aa.Ag,e]at hown;simp at hown;exact Zo hown.2
def dI(X:Hd->Dc × Bool)(h:Hd)(l:Qp):Aa × Nat:=
 if h.kind=2∨h.kind=5 then(.node h l,0)
 else if h.kind=6 then On h.s
 else if h.kind=11 then On (De h)
 else if h.kind=9 then Y6 X l
 else if h.kind=7 then(.node (Qh 7) (Zc X l).1,(Zc X l).2)
 else(.node (Qh 8) (Jg (X8 X l []).1),(X8 X l []).2)
def Qeg(X:Hd->Dc × Bool)(h:Hd)(l:Qp):(Aa.node h l).proj X=if(Zw X (.node h l)).2 then(Rb (Zw X (.node h l)).1,0)else if Cz h.kind=true then dI X h l else(.node (Qh 1) [],0):=by
 rw[Aa.proj];split
 ·rfl
 ·by_cases j:Cz h.kind=true
  ·rw[Qe j];unfold dI;rcases Lo j with e|e|e|e|e|e|e<;>simp[e]
  ·rw[Qa j];have q:¬(h.kind=2∨h.kind=5∨h.kind=6∨h.kind=11∨h.kind=9∨h.kind=7∨h.kind=8):=fun h'=>j (Kp h')
   rw[Qa oM,Qa oM,Qa oM,Qa oM,Qa oM,Qa oM]
def Qal{P:Prop}(h:P:=by
 rw[Qe oM,show DE h.kind=151 by rw[e];rfl];refine(rU h a l.length cap _ w).mono ?_;rintro x w' ⟨rfl,hs⟩;exact⟨_,rfl,ho,hr.same hs,by rw[Nat.max_zero];exact hs.s hb,Ac.of_same hs⟩):P:=h
def Qam{N d:Nat}(hN:Fr X N E d)(h:Hd)(l:Qp)(S:Qz)(lv:Q0)(w:Qm)(st b:Nat)(hk:Cz h.kind=true)(hd:(Aa.node h l).depth<=d+1)(hdm:d<=1000000)(hG:Ah N E w)(hNb:N<=b)(hst:st<=2)(ho:h.ok)(hr:Ad S w l lv)
  (hS:∀k,w.heap.size<=k->S k)(hok:AQ X N E (.node h l))(hb:PB E b st w):
  Calls prog (DE h.kind) #[.pointer (some ⟨b,0,none⟩),Qu h lv] w (Ti E S b st (dI X h l) w):=by
 have z:Xr l<=d:=by rw[Aa.depth]at hd;omega
 have q:=(hok _ (Z8 _)).1
 have m:=Ot q
 simp only[Aa.Ae]at m
 obtain⟨a,cap,rfl⟩:=hr.Ab
 unfold dI
 rcases Lo hk with e|e|e|e|e|e|e
 ·exact Qal
 ·exact Qal
 ·rw[Qa oM,Qe e,show DE h.kind=152 by rw[e];rfl];refine(yH st b h a l.length cap w hG hst oM hb).mono ?_;rintro x w' ⟨rfl,j,v⟩;refine⟨_,rfl,pQ _,Ad.nil _ _,?_,v⟩;have:(if h.s.size<=400 then st else max st 1)=max st (On h.s).2:=by
   show _=max st (if h.s.size<=400 then 0 else 1);split<;>omega
  rw[this]at j;exact j
 ·rw[Qa oM,Qa oM,Qe e,show DE h.kind=153 by rw[e];rfl];refine(yJ st b h a l.length cap w hG hst oM ho.2.2.2.1 hb).mono ?_;rintro x w' ⟨rfl,j,v⟩;refine⟨_,rfl,pQ _,Ad.nil _ _,?_,v⟩;have:(if(De h).size<=400 then st else max st 1)=max st (On (De h)).2:=by
   show _=max st (if(De h).size<=400 then 0 else 1);split<;>omega
  rw[this]at j;exact j
 ·rw[Qa oM,Qa oM,Qa oM,Qe e,show DE h.kind=154 by rw[e];rfl];have y:l.length=1:=Qef (h:=h) (l:=l) e q;obtain⟨c,rfl⟩:∃c,l=[c]:=by
   match l,y with
   | [c],_=>exact⟨c,rfl⟩
  rw[Y6];have n:=Nh [c] 0 sM;simp only[Iv]at n;exact zK hN h c S _ w st b oM hG hNb hst hr hS (hok.B3 sM) hb
 ·rw[Qa oM,Qa oM,Qa oM,Qa oM,Qe e,show DE h.kind=155 by rw[e];rfl];exact kL hN (Aa.AP X) h l S _ w st b z hG hNb hst hr hS (fun x hx=>hok.B3 hx) hb
 ·rw[Qa oM,Qa oM,Qa oM,Qa oM,Qa oM,show DE h.kind=156 by rw[e];rfl];exact kT hN (Aa.AP X) h l S _ w st b z hG hNb hst hr hS (fun x hx=>hok.B3 hx) hb ((hok _ (Z8 _)).2.2 e) oM
def Qan(o:Oper):Bool:=match o.op with
 | .lookup .. =>false
 |_=>reads o
def kY{N d:Nat}(hN:Fr X N E d)(hX:∀h,(X h).2=true->Q2 (X h).1=true)(hdm:d<=1000000):Fr X N E (d+1):=by
 intro t S lv w st b c3 hG be c1 ho hr hS b3 hb;have a6:=fun W (hs:Qd w W)=>SB X S t lv W (hG.same hs) ho (hr.same hs) (fun x hx=>Ot (b3 x hx).1) (fun bh W' b2=>(b3 t (Z8 t)).2.1 bh W' lv ((hG.same hs).same b2) (Qj (Qj be (Nat.le_of_lt (Qg hb))) (hs.trans b2).size) (((hr.same hs).same b2).mono fun _ _ _=>trivial))
 obtain⟨a,a2,rfl⟩:=hr.Ab;have c4:=Qg hb;have ag:=XD hX t;obtain⟨h,l⟩:=t;simp only[Aa.Ae,Aa.Ag]at*
 have a3:=Qeg X h l;have a0:=fun W (hs:Qd w W) (hz:w.heap.size+2<=W.heap.size) hk=>Qam hN h l (fun k=>S k/\k≠w.heap.size+1) (.slice a l.length a2) W st b hk c3 hdm (hG.same hs) be c1 ho
  ((hr.mono (fun k hk h=>(⟨h,oM⟩:_/\_))).same hs) (fun k hk=>⟨hS k oM,oM⟩) b3 (hs.s hb)
 have af:=@Qak h.kind;have b1:=dH h.kind;obtain⟨⟨dd,ok⟩,hD⟩:∃q,Zw X (.node h l)=q:=⟨_,rfl⟩;rw[hD]at a6 a3 ag;generalize hg:DE h.kind=g at af b1 a0;generalize hR:(Aa.node h l).proj X=R at a3|-;replace a3:=Qc a3;clear hD hg hN hX hR;unfold Ti at a0|-;have bb:((w.alloc (.cells (nR h (.slice a l.length a2)) 27)).alloc (.cells zR 27)).heap[w.heap.size]? =some (.cells (nR h (.slice a l.length a2)) 27 (0,0)):=Qb (Qt w _);have b6:((w.alloc (.cells (nR h (.slice a l.length a2)) 27)).alloc (.cells zR 27)).heap[w.heap.size+1]? =some (.cells zR 27 (0,0)):=Ql sM;have ah:Qd w ((w.alloc (.cells (nR h (.slice a l.length a2)) 27)).alloc (.cells zR 27)):=Xd;have b7:((w.alloc (.cells (nR h (.slice a l.length a2)) 27)).alloc (.cells zR 27)).heap.size=w.heap.size+2:=sM;have a8:=a6 _ ah;go_in;go_wp2_with fail;refine a8.mono ?_;rintro x w1 ⟨rfl,a7⟩;have ae:=a7.s bb;have ad:=a7.s b6;have ac:=ah.trans a7;have bg:=a7.size;rw[b7]at bg;clear a7 bb b6 ah b7 a6 a8;have c:=Qb (o:=(.cells #[.bool dd.neg,.string dd.digits,i6 dd.exp] 23)) ae;have r:=Qb (o:=(.cells #[.bool dd.neg,.string dd.digits,i6 dd.exp] 23)) ad;have y:Qd w (w1.alloc (.cells #[.bool dd.neg,.string dd.digits,i6 dd.exp] 23)):=ac.alloc _;have b5:(w1.alloc (.cells #[.bool dd.neg,.string dd.digits,i6 dd.exp] 23)).heap.size=w1.heap.size+1:=sM;have c0:=Qi r;have ab:=Jd r;cases ok with
 |true=>
  have m:=Qc (show R=(Rb dd,0) from by rw[a3.out];simp);go_wp2_with fail
  (try simp only[Exit.inBlock,Exit.then]);obtain⟨h9,v⟩:=FM r (i6 3) (.bool false) (.bool dd.neg) (.string dd.digits) (i6 dd.exp) (.int .u64 0) (i6 0) (.string ⟨#[]⟩) (.slice none 0 0);refine DS rfl rfl h9 rfl ⟨_,by rw[m.out];rfl,by rw[m.out];exact Qg4 (ag (by trivial)),by rw[m.out];exact Ad.nil _ _,?_,?_⟩
  ·rw[m.out,Nat.max_zero];exact v.same _ _ (y.s hb) oM
  ·exact⟨v.os.trans y.os,v.tape.trans y.tape,v.output.trans y.output,Qj y.size v.size,fun k o hk b4=>v.same k o (y.same k o hk trivial) (Ku hk)⟩
 |false=>
  clear ae ad ac ag c0 ab;cases hkb:Cz h.kind with
  |false=>
   have m:=Qc (show R=(.node (Qh 1) [],0) from by rw[a3.out];simp[hkb]);go_wp2_with fail;generalize w1.alloc (.cells #[.bool dd.neg,.string dd.digits,i6 dd.exp] 23)=W2 at c r y b5|-;have y0:=Qi c;refine(Vd (n:=0)).1 ?_;refine Ja (n:=0) (fun Z=>Z.heap[w.heap.size]? =some (.cells (nR h (.slice a l.length a2)) 27 (0,0))) Qan (fun _=>trivial) rfl kM kM c ?_;refine Kd rfl rfl ?_;intro K j;go_simp;refine(Qr (Wb _)).mono ?_;rintro x w3 ⟨mb,rfl,b0,a1⟩;have f:=a1.s c;have p:=a1.s r;have z:Qd w w3:=y.trans (Ac.trans ((Ac.refl _ _).drew) a1);have c2:W2.heap.size<=w3.heap.size:=a1.size;refine j _ _ f ?_;clear j K y0;have z0:=Qi f;have u0:=Qi p;have ab:=Jd p;have L:=O6 w3 mb h.kind b0;refine K6 rfl rfl ?_;intro K j w' hs;have u:=Qi hs;go_simp;refine j _ _ ?_;clear j K u hs w';refine K6 rfl rfl ?_;intro K j w' hs;have u:=Qi hs;go_simp;refine j _ _ ?_;clear j K u hs w';rw[hkb]at L;generalize aa:CQ h.kind=fv at L;refine Kd rfl rfl ?_;intro K j;go_simp;refine j _ _ f ?_;clear j K L;refine K6 rfl rfl ?_;intro K j w' hs;have u:=Qi hs;go_simp;refine j _ _ ?_;clear j K u hs w';refine K6 rfl rfl ?_;intro K j w' hs;have u:=Qi hs;go_simp;refine j _ _ ?_;clear j K u hs w';refine K6 rfl rfl ?_;intro K j w' hs;have u:=Qi hs;go_simp;refine j _ _ ?_;clear j K u hs w';refine K6 rfl rfl ?_;intro K j w' hs;have u:=Qi hs;go_simp;refine j _ _ ?_;clear j K u hs w';refine K6 rfl rfl ?_;intro K j w' hs;have u:=Qi hs;go_simp;refine j _ _ ?_;clear j K u hs w';refine Jc ?_;go_wp2_with fail
   (try simp only[Exit.inBlock,Exit.then]);obtain⟨h9,v⟩:=FN p 1 0 0 (.slice none 0 0);refine DS rfl rfl h9 rfl ⟨_,by rw[m.out];rfl,by rw[m.out];exact K1 1 dM,by rw[m.out];exact Ad.nil _ _,?_,?_⟩
   ·rw[m.out,Nat.max_zero];exact v.same _ _ (z.s hb) oM
   ·exact⟨v.os.trans z.os,v.tape.trans z.tape,v.output.trans z.output,Qj z.size v.size,fun k o hk b4=>v.same k o (z.same k o hk trivial) (Ku hk)⟩
  |true=>
   obtain⟨⟨h',l'⟩,e',hP⟩:∃t e,dI X h l=(t,e):=⟨_,_,rfl⟩;have m:=Qc (show R=(.node h' l',e') from by rw[a3.out];simp[hkb,hP]);rw[hP]at a0;simp only[Aa.Ae,Aa.Ag]at a0;have a9:=fun W (hs:Qd w W) (hz:w.heap.size+2<=W.heap.size)=>a0 W hs hz hkb
   have b8:=fun ba W=>b1 ba W hkb
   have aa:=af hkb;clear a0 b1 af hP;go_wp2_with fail;generalize w1.alloc (.cells #[.bool dd.neg,.string dd.digits,i6 dd.exp] 23)=W2 at c r y b5|-;have y0:=Qi c;refine(Vd (n:=0)).1 ?_;refine Ja (n:=0) (fun Z=>Z.heap[w.heap.size]? =some (.cells (nR h (.slice a l.length a2)) 27 (0,0))) Qan (fun _=>trivial) rfl kM kM c ?_;refine Kd rfl rfl ?_;intro K j;go_simp;refine(Qr (Wb _)).mono ?_;rintro x w3 ⟨mb,rfl,b0,a1⟩;have f:=a1.s c;have p:=a1.s r;have z:Qd w w3:=y.trans (Ac.trans ((Ac.refl _ _).drew) a1);have c2:W2.heap.size<=w3.heap.size:=a1.size;refine j _ _ f ?_;clear j K y0;have z0:=Qi f;have u0:=Qi p;have ab:=Jd p;have L:=O6 w3 mb h.kind b0;refine K6 rfl rfl ?_;intro K j w' hs;have u:=Qi hs;go_simp;refine j _ _ ?_;clear j K u hs w';refine K6 rfl rfl ?_;intro K j w' hs;have u:=Qi hs;go_simp;refine j _ _ ?_;clear j K u hs w';rw[hkb,aa]at L;clear aa hkb;refine Kd rfl rfl ?_;intro K j;go_simp;refine j _ _ f ?_;clear j K L;refine K6 rfl rfl ?_;intro K j w' hs;have u:=Qi hs;go_simp;refine j _ _ ?_;clear j K u hs w';refine K6 rfl rfl ?_;intro K j w' hs;have u:=Qi hs;go_simp;refine j _ _ ?_;clear j K u hs w';refine K6 rfl rfl ?_;intro K j w' hs;have u:=Qi hs;go_simp;refine j _ _ ?_;clear j K u hs w';refine K6 rfl rfl ?_;intro K j w' hs;have u:=Qi hs;go_simp;refine j _ _ ?_;clear j K u hs w';refine K6 rfl rfl ?_;intro K j w' hs;have u:=Qi hs;go_simp;refine j _ _ ?_;clear j K u hs w';refine Jc ?_;go_wp2_with fail;refine(a9 _ z oM).mono ?_;rintro x w4 ⟨c5,rfl,bc,b9,bf,bd⟩;have a5:=bd.same (w.heap.size+1) _ p oM;obtain⟨ra,rc,rfl⟩:=b9.Ab;clear z0 u0 ab a9 b8;have c0:=Qi a5;have ab:=Jd a5;have a4:Ac (fun k _=>k≠b) w w4:=(Ac.of_same z).trans bd;go_wp2_with fail
   (try simp only[Exit.inBlock,Exit.then]);obtain⟨h9,v⟩:=Yw a5 h' (.slice ra l'.length rc);refine DS rfl rfl h9 rfl ⟨_,by rw[m.out];rfl,by rw[m.out];exact bc,?_,?_,?_⟩
   ·rw[m.out];exact(b9.Af v fun k hk _ _=>hk.2).mono fun _ _ h=>h.1
   ·rw[m.out];exact v.same _ _ bf oM
   ·exact⟨v.os.trans a4.os,v.tape.trans a4.tape,v.output.trans a4.output,Qj a4.size v.size,fun k o hk b4=>v.same k o (a4.same k o hk b4) (Ku hk)⟩
def KL(hX:∀h,(X h).2=true->Q2 (X h).1=true):∀d:Nat,d<=1000000->Fr X N E d
 |0,_=>fun t _ _ _ _ _ h0=>by
  obtain⟨h,l⟩:=t;rw[Aa.depth]at h0;omega
 |d+1,hd=>kY (KL hX d oM) hX oM
def PD(t:Aa):1<=t.depth:=by cases t;rw[Aa.depth];omega
def M1:∀{l:Qp},(∀x∈l,x.depth<=D)->Xr l<=D
 | [],_=>by rw[Xr];omega
 |y::l,h=>by
  rw[Xr];have h1:=h y Yr;have j:=M1 fun x hx=>h x (Kk _ hx)
  omega
def Nn(h:Hd):(Aa.node h []).depth=1:=by rw[Aa.depth,Xr]
def kZ(l:List (Qo × Aa))(hD:l≠[]->1<=D)(h:∀p∈l,p.2.depth<=D):Xr (Jg l)<=D:=by
 refine M1 fun x hx=>?_
 unfold Jg at hx;obtain⟨p,q,hx⟩:=Nm.1 hx;have j:=My.1 q;rcases Xg.1 hx with rfl|hx
 ·rw[Nn];exact hD (List.ne_nil_of_mem j)
 ·rw[Zm.1 hx];exact h p j
def SE(s:Qo):(On s).1.depth=1:=Nn _
mutual
def Aa.AO(X:Hd->Dc × Bool):∀t:Aa,(t.proj X).1.depth<=t.depth
 | .node h l=>by
  have hp:=PD (.node h l);have j:=dJ X l;have y:=SF X l;have q:=SG X l [];have v:=tG X l [];rw[Aa.proj];split
  ·exact Qj (Mz (Nn _)) hp
  ·split
   ·exact Q6 _
   ·split
    ·rw[SE];exact hp
    ·split
     ·rw[SE];exact hp
     ·split
      ·exact j
      ·split
       ·rw[Aa.depth,Aa.depth];show Xr (Zc X l).1+1<=_;omega
       ·split
        ·rw[Aa.depth,Aa.depth]
         have:=kZ (D:=Xr l) (X8 X l []).1 v q;omega
        ·exact Qj (Mz (Nn _)) hp
def dJ(X:Hd->Dc × Bool):∀l:Qp,(Y6 X l).1.depth<=Xr l+1
 | []=>by rw[Y6,Nn];omega
 |x::l=>by
  have:=Aa.AO X x;rw[Y6,Xr];omega
def SF(X:Hd->Dc × Bool):∀l:Qp,Xr (Zc X l).1<=Xr l
 | []=>by rw[Zc];exact Q6 _
 |x::l=>by
  have h1:=Aa.AO X x;have j:=SF X l;rw[Zc];show Xr (_::_)<=_;rw[Xr,Xr];omega
def SG(X:Hd->Dc × Bool):∀(l:Qp) (seen:List Qo),∀p∈(X8 X l seen).1,p.2.depth<=Xr l
 | [],seen,p,hp=>by rw[X8]at hp;cases hp;intro k x l h;cases h
 | [_],seen,p,hp=>by rw[X8]at hp;cases hp;intro k x l h;cases h
 |k::x::l,seen,p,hp=>by
  have h1:=Aa.AO X x;have j:=SG X l ((Xe k).1::seen) p;rw[X8]at hp;rw[Xr,Xr];split at hp
  ·cases hp
  ·rcases Xg.1 hp with rfl|hp
   ·show(x.proj X).1.depth<=_;omega
   ·have:=j hp;omega
def tG(X:Hd->Dc × Bool):∀(l:Qp) (seen:List Qo),(X8 X l seen).1≠[]->1<=Xr l
 | [],seen,h=>by rw[X8]at h;exact absurd rfl h;intro k x l h;cases h
 | [y],seen,h=>by have:=PD y;rw[Xr];omega
 |k::x::l,seen,h=>by have:=PD k;rw[Xr];omega
end
def PE(h:Q5 t form=0):∀x∈t.flat,Xc x=true/\Zj form x=true:=by
 unfold Q5 at h;split at h
 ·cases h
 ·rw[Yu]at h;split at h
  ·rename_i j;split at h
   ·rename_i q;exact fun x hx=>⟨Vf.1 j x hx,Vf.1 q x hx⟩
   ·cases h
  ·cases h
def lA(h:Q5 t form=0):t.depth<=16/\Yk t<=300:=by
 unfold Q5 at h;split at h
 ·cases h
 ·omega
def lB{P Q:Prop}(h:Q)(f:Wz Q->P:=by
 intro zz;have hld:=Pr (P:=prog) W bx 27 27 _ (0,0) _ hrow underlying27 rfl kM;revert hld;exact zz.o):P:=f ⟨h⟩
def Fu(T:Array Q0)(W:Qm)(bx:Nat)(h:Hd)(lv:Q0)(e:Int)(h2:T.getD 4 undef=.pointer (some ⟨bx,0,none⟩))(h3:T.getD 5 undef=.int .i64 e)
  (hrow:W.heap[bx]? =some (.cells #[.int .i64 h.kind,.bool h.b,.bool h.d.neg,.string h.d.digits,.int .i64 h.d.exp,.int .u64 (h.u:Int),.int .i64 h.w,.string h.s,lv] 27 (0,0))):(results f15 T).run prog W=.ok (.tuple #[Qu h lv,.int .i64 e]) W:=by
 refine lB ?_
 intro hld
 rw[Mf rfl,h2,h3]
 exact RD
def FQ(S:Qz)(r:Aa × Int)(w:Qm):Ending->Qm->Prop:=fun x w'=>
 ∃lv',x=.returned (.tuple #[Qu r.1.hd lv',.int .i64 r.2])/\r.1.hd.ok/\Ad S w' r.1.l lv'/\Qd w w'
def dK{X:Hd->Dc × Bool}{t:Aa}{form q:Int}(h:Q5 t form=q)(hq:q≠0):Q8 X t form=(.node (Qh 0) [],q):=by
 unfold Q8;rw[h,Qe hq]
def Qf0{P Q:Prop}(h:Q)(f:Wz Q->P:=by
 intro zz;have hb1:((w.alloc (.cells (nR h (.slice a l.length cap)) 27)).alloc (.cells zR 27)).heap[w.heap.size+1]? =some (.cells zR 27 (0,0)):=Ql sM;have hb0:((w.alloc (.cells (nR h (.slice a l.length cap)) 27)).alloc (.cells zR 27)).heap[w.heap.size]? =some (.cells (nR h (.slice a l.length cap)) 27 (0,0)):=Qb (Qt w _);have hk0:Qd w ((w.alloc (.cells (nR h (.slice a l.length cap)) 27)).alloc (.cells zR 27)):=Xd;have hz0:((w.alloc (.cells (nR h (.slice a l.length cap)) 27)).alloc (.cells zR 27)).heap.size=w.heap.size+2:=sM;revert hb1 hb0 hk0 hz0;exact zz.o):P:=f ⟨h⟩
def DF(hX:∀h,(X h).2=true->Q2 (X h).1=true)(t:Aa)(form:Int)(S:Qz)(lv:Q0)(w:Qm)(hG:Ah N E w)(hNw:N<=w.heap.size)(hdep:t.depth<=1000000)(ho:t.hd.ok)(hr:Ad S w t.l lv)
  (hS:∀k,w.heap.size<=k->S k)(hl:∀x∈t.flat,x.l.length<=40)(hE:Q5 t form=0->∀x∈t.flat,Qgy X N E x):
  Calls prog 15 #[Qu t.hd lv,.int .i64 form] w (FQ S (Q8 X t form) w):=by
 obtain⟨a,cap,rfl⟩:=hr.Ab
 obtain⟨q,hq⟩:=X0 (Q5 t form)
 have ac:=fun W (hs:Qd w W)=>G8 form t (.slice a t.l.length cap) W (hG.same hs) oM ((hr.same hs).mono fun _ _ _=>trivial) ho
 rw[hq]at ac
 have a2:=@dK X t form q hq
 have ab:q=0->AQ X N E t:=fun e x hx=>⟨(PE (hq.trans e) x hx).1,hE (hq.trans e) x hx,fun _=>hl x hx⟩
 have n:q=0->Q8 X t form=if(t.proj X).2≠0 then(.node (Qh 0) [],Uq (t.proj X).2)else if Q5 (t.proj X).1 2=60 then(.node (Qh 0) [],60)else((t.proj X).1,0):=fun e=>by
  unfold Q8;rw[hq,Qa (by simpa using e)]
 have c2:=Aa.AO X t
 have aa:=Aa.AP X t
 have u:=fun b0 W (hs:Qd w W) (hz:w.heap.size+2<=W.heap.size) b (hNb:N<=b) (hb:PB E b 0 W)=>KL (N:=N) (E:=E) hX t.depth hdep t (fun k=>S k/\k≠w.heap.size+1) (.slice a t.l.length cap) W 0 b (Q6 _) (hG.same hs) hNb oM ho
  ((hr.mono (fun k r h=>(⟨h,oM⟩:_/\_))).same hs) (fun k r=>⟨hS k oM,oM⟩) b0 hb
 obtain⟨⟨h',l'⟩,e',hP⟩:∃t' e,t.proj X=(t',e):=⟨_,_,rfl⟩
 rw[hP]at u n c2 aa
 unfold Ti at u
 simp only[Aa.Ae,Aa.Ag,Nat.zero_max]at u n c2 aa
 obtain⟨h,l⟩:=t
 simp only[Aa.Ae,Aa.Ag]at*
 obtain⟨R,hR⟩:=X0 (Q8 X (.node h l) form)
 rw[hR]at a2 n|-
 refine Qf0 ?_
 intro hb1 hb0 hk0 hz0
 have a9:=ac _ hk0
 clear hq hR hP ac hl hE
 unfold FQ
 go_in
 go_wp2_with fail
 refine a9.mono ?_
 rintro x w1 ⟨rfl,a8⟩
 have f:=a8.s hb1
 have b7:=a8.s hb0
 have b1:=hk0.trans a8
 have c5:=a8.size
 rw[hz0]at c5
 clear a8 hb1 hb0 hk0 hz0 a9
 by_cases a4:q=0
 ·have b0:=ab a4;replace n:=n a4;subst a4;clear a2 ab;replace n:=Qc n;have n0:=Qi (Qb (o:=.cells #[.nilIface] 68) b7);go_wp2_with fail;have bd:=Qt w1 (.cells #[.nilIface] 68);have a3:Qd w (w1.alloc (.cells #[.nilIface] 68)):=b1.alloc _;have b5:=Qb (o:=.cells #[.nilIface] 68) f;refine(u b0 _ a3 (by simp;omega) w1.heap.size oM bd).mono ?_;rintro x w3 ⟨ca,rfl,b6,ba,be,a6⟩;obtain⟨ra,rc,rfl⟩:=ba.Ab;have b4:=a6.same (w.heap.size+1) _ b5 oM;have b3:Ac (fun k _=>k≠w1.heap.size) w w3:=(Ac.of_same a3).trans a6;have bf:Ah N E w3:=(hG.same a3).Af a6 fun k c4 _=>oM
  have cc:w1.heap.size+1<=w3.heap.size:=by have:=a6.size;simp at this;omega
  have a5:=LW w3 (.cells (nR h' (.slice ra l'.length rc)) 27);have bh:=Qt w3 (.cells (nR h' (.slice ra l'.length rc)) 27);have c:=a5.s b4;have af:=a5.s be;have ah:=bf.same a5;have b8:=ba.same a5;have z:Ac (fun k _=>k≠w1.heap.size) w (w3.alloc (.cells (nR h' (.slice ra l'.length rc)) 27)):=b3.trans (Ac.of_same a5);clear u b0 b7 f b5 bd ba be b4 a6 a3 b3 a5 bf n0;have c9:e'=0∨e'≠0:=oM;rcases c9 with rfl|c1
  ·have p0:(w3.alloc (.cells (nR h' (.slice ra l'.length rc)) 27)).cell? ⟨w1.heap.size,0,none⟩=some .nilIface:=Q4 af;obtain⟨rb,ad⟩:=X0 (decide (Q5 (.node h' l') 2=60));have y:=E0 (.node h' l') (.slice ra l'.length rc) _ ah oM (b8.mono fun _ _ _=>trivial) b6;rw[ad]at y;simp only[Aa.Ae]at y;have b2:=Qc (show R=if Q5 (.node h' l') 2=60 then(.node (Qh 0) [],60)else(.node h' l',0) from by rw[n.out];rfl);go_wp2_with fail;refine y.mono ?_;rintro x w5 ⟨rfl,a0⟩;have c3:=a0.s bh;have p:=a0.s c;have b9:=a0.s af;have ag:=ah.same a0;have bg:=b8.same a0;have m:=z.trans (Ac.of_same a0);clear p0 y bh c af ah b8 z a0;have p0:w5.cell? ⟨w1.heap.size,0,none⟩=some .nilIface:=Q4 b9;cases rb with
   |true=>
    have v:=Qc (show R=(.node (Qh 0) [],60) from by rw[b2.out,Qe (Zo ad)]);have gP:=ag.ptree;have y:Calls prog 47 #[.pointer (some ⟨w1.heap.size,0,none⟩),.iface G6 (.pointer (some E.ptree))] w5 fun x w'=>x=.returned (.tuple #[])/\PB E w1.heap.size 1 w'/\Ac (fun k _=>k≠w1.heap.size) w5 w':=Lg 0 1 w1.heap.size w5 ag oM (.inl rfl) b9
    clear ad;go_wp2_with fail;refine y.mono ?_;rintro x w6 ⟨rfl,c8,ae⟩;have a7:=ae.same _ _ p oM;have c6:Ah N E w6:=ag.Af ae fun k c4 _=>oM
    have d:=m.trans ae;have a1:Calls prog 48 #[.iface G6 (.pointer (some E.ptree))] w6 fun e w'=>e=.returned (.int .i64 60)/\w'=w6:=bA 1 w6 c6 oM
    clear p0 gP y p b9 ag bg m ae c3;have p0:w6.cell? ⟨w1.heap.size,0,none⟩=some (.iface G6 (.pointer (some E.ptree))):=Q4 c8;go_wp2_with fail;refine a1.mono ?_;rintro x w7 ⟨rfl,h9⟩;replace h9:=h9.symm;subst h9;have c0:=Qi a7;have bb:=Jd a7;clear a1;go_wp2_with fail
    (try simp only[Exit.inBlock,Exit.then]);obtain⟨h9,j⟩:=FN a7 0 0 0 (.slice none 0 0);refine Xs (Fu _ _ (w.heap.size+1) (Qh 0) (.slice none 0 0) 60 rfl rfl h9) rfl ⟨_,by rw[v.out];rfl,?_,?_,?_⟩
    ·rw[v.out];exact K1 0 dM
    ·rw[v.out];exact Ad.nil _ _
    ·exact⟨j.os.trans d.os,j.tape.trans d.tape,j.output.trans d.output,Qj d.size j.size,fun k o r _=>j.same k o (d.same k o r (Ku r)) (Ku r)⟩
   |false=>
    have v:=Qc (show R=(.node h' l',0) from by rw[b2.out,Qa (M0 ad)]);have c0:=Qi p;have d0:=Qi c3;have bb:=Jd p;clear ad;go_wp2_with fail
    (try simp only[Exit.inBlock,Exit.then]);obtain⟨h9,j⟩:=Yw p h' (.slice ra l'.length rc);refine Xs (Fu _ _ (w.heap.size+1) h' (.slice ra l'.length rc) 0 rfl rfl h9) rfl ⟨_,by rw[v.out];rfl,?_,?_,?_⟩
    ·rw[v.out];exact b6
    ·rw[v.out];exact(bg.Af j fun k r _ _=>r.2).mono fun _ _ h=>h.1
    ·exact⟨j.os.trans m.os,j.tape.trans m.tape,j.output.trans m.output,Qj m.size j.size,fun k o r _=>j.same k o (m.same k o r (Ku r)) (Ku r)⟩
  ·have v:=Qc (show R=(.node (Qh 0) [],Uq e') from by rw[n.out];simp[c1]);obtain⟨av,c7⟩:∃av:Addr,Dd E e'=.iface G6 (.pointer (some av)):=by
    have:e'=1∨e'=2:=oM;rcases this with rfl|rfl<;>exact⟨_,rfl⟩
   have a1:=fun W hg=>bA (N:=N) (E:=E) e' W hg aa
   have p0:=Q4 af;rw[c7]at a1 p0;obtain⟨tv,bc⟩:=X0 (Uq e');rw[bc]at a1 v;clear bc;go_wp2_with fail;refine(a1 _ ah).mono ?_;rintro x w7 ⟨rfl,h9⟩;replace h9:=h9.symm;subst h9;have c0:=Qi c;have bb:=Jd c;clear a1;go_wp2_with fail
   (try simp only[Exit.inBlock,Exit.then]);obtain⟨h9,j⟩:=FN c 0 0 0 (.slice none 0 0);refine Xs (Fu _ _ (w.heap.size+1) (Qh 0) (.slice none 0 0) tv rfl rfl h9) rfl ⟨_,by rw[v.out];rfl,?_,?_,?_⟩
   ·rw[v.out];exact K1 0 dM
   ·rw[v.out];exact Ad.nil _ _
   ·exact⟨j.os.trans z.os,j.tape.trans z.tape,j.output.trans z.output,Qj z.size j.size,fun k o r _=>j.same k o (z.same k o r (Ku r)) (Ku r)⟩
 ·have HZ:=Qc (a2 a4);have cd:(q !=0)=true:=by simpa using a4
  have cb:decide (q=0)=false:=by simpa using a4
  clear ab n u;have c0:=Qi f;have bb:=Jd f;go_wp2_with fail
  (try simp only[Exit.inBlock,Exit.then]);obtain⟨h9,j⟩:=FN f 0 0 0 (.slice none 0 0);refine Xs (Fu _ _ (w.heap.size+1) (Qh 0) (.slice none 0 0) q rfl rfl h9) rfl ⟨_,by rw[HZ.out];rfl,?_,?_,?_⟩
  ·rw[HZ.out];exact K1 0 dM
  ·rw[HZ.out];exact Ad.nil _ _
  ·exact Ho b1 j fun k o r=>(Ku r)
def DG(t:Aa):Aa × Int:=if Q5 t 1≠0 then(.node (Qh 0) [],Q5 t 1)else(t.ord,0)
def R7(t:Aa):Bool:=decide ((DG t).2=0)&&(DG t).1.same t
def SH(T:Array Q0)(W:Qm)(bx:Nat)(h:Hd)(lv:Q0)(e:Int)(h2:T.getD 2 undef=.pointer (some ⟨bx,0,none⟩))(h3:T.getD 3 undef=.int .i64 e)
  (hrow:W.heap[bx]? =some (.cells #[.int .i64 h.kind,.bool h.b,.bool h.d.neg,.string h.d.digits,.int .i64 h.d.exp,.int .u64 (h.u:Int),.int .i64 h.w,.string h.s,lv] 27 (0,0))):(results f53 T).run prog W=.ok (.tuple #[Qu h lv,.int .i64 e]) W:=by
 refine lB ?_
 intro hld
 rw[Mf rfl,h2,h3]
 exact RD
def dL:∀t:Aa,dG t->(∀x∈t.flat,x.l.length<=40)->Qag t:=by
 refine Aa.ind fun h l v j q=>?_
 refine RS h l (fun x hx=>v x hx (UW j hx) fun y z=>?_) ?_ j
 ·exact((Kj (fun x=>x.l.length<=40) (.node h l)).1 q).2 x hx y z
 ·exact((Kj (fun x=>x.l.length<=40) (.node h l)).1 q).1
def Qao(t:Aa)(S:Qz)(lv:Q0)(w:Qm)(hG:Ah N E w)(hdep:t.depth<=1000000)(ho:t.hd.ok)(hr:Ad S w t.l lv)(hS:∀k,w.heap.size<=k->S k)(hl:∀x∈t.flat,x.l.length<=40):
  Calls prog 53 #[Qu t.hd lv] w (FQ S (DG t) w):=by
 have n:=fun W (hs:Qd w W)=>G8 1 t lv W (hG.same hs) oM ((hr.same hs).mono fun _ _ _=>trivial) ho
 obtain⟨q,hq⟩:=X0 (Q5 t 1)
 have j:=fun(hq0:q=0) W (hs:Qd w W)=>dL t (PE (hq.trans hq0)) hl (fun k=>S k/\k≠w.heap.size+1) lv W ho ((hr.mono (fun k hk h=>(⟨h,oM⟩:_/\_))).same hs)
 have r:DG t=if q≠0 then(.node (Qh 0) [],q)else(t.ord,0):=by unfold DG;rw[hq]
 generalize hR:DG t=R
 have p:=Qc (hR.symm.trans r)
 rw[hq]at n
 have c:=zY t
 obtain⟨⟨h',l'⟩,hP⟩:∃t',t.ord=t':=⟨_,rfl⟩
 unfold RR at j
 rw[hP]at j c p
 obtain⟨h,l⟩:=t
 obtain⟨a,cap,rfl⟩:=hr.Ab
 simp only[Aa.Ae,Aa.Ag]at*
 replace c:=c.symm
 subst c
 refine Qf0 ?_
 intro hb1 hb0 hk0 hz0
 have n0:=Qi hb0
 unfold FQ
 clear hq r hP hr hR
 go_in
 go_wp2_with fail
 refine(n _ hk0).mono ?_
 rintro x w1 ⟨rfl,b⟩
 have z:=b.s hb1
 have a1:=b.s hb0
 have m:=hk0.trans b
 have a4:=b.size
 rw[hz0]at a4
 clear b hb1 hb0 hk0 hz0 n n0
 by_cases hq0:q=0
 ·replace j:=j hq0;subst hq0;have v:R=(.node h l',0):=by rw[p.out,Qa (fun e=>e rfl)]
  have f:=Qc v;clear v p;have n0:=Qi a1;go_wp2_with fail;refine(j w1 m (fun k hk=>⟨hS k oM,oM⟩)).mono ?_;rintro x w2 ⟨a7,rfl,a2,a3⟩;obtain⟨ra,rc,rfl⟩:=a2.Ab;have u:=a3.s z;have a0:=m.trans a3;clear n0 j;have n0:=Qi u;have a5:=Jd u;go_wp2_with fail
  (try simp only[Exit.inBlock,Exit.then]);obtain⟨h9,d⟩:=Yw u h (.slice ra l'.length rc);refine Xs (SH _ _ (w.heap.size+1) h (.slice ra l'.length rc) 0 rfl rfl h9) rfl ⟨_,by rw[f.out];rfl,by rw[f.out];exact ho,?_,?_⟩
  ·rw[f.out];exact(a2.Af d fun y hy _ _=>hy.2).mono fun _ _ h=>h.1
  ·exact Ho a0 d fun k o hk=>(Ku hk)
 ·have v:R=(.node (Qh 0) [],q):=by rw[p.out,Qe hq0]
  replace v:=Qc v;clear p;have a6:((q:Int)!=0)=true:=by simpa using hq0
  clear j;have n0:=Qi z;have a5:=Jd z;go_wp2_with fail
  (try simp only[Exit.inBlock,Exit.then]);obtain⟨h9,d⟩:=FN z 0 0 0 (.slice none 0 0);refine Xs (SH _ _ (w.heap.size+1) (Qh 0) (.slice none 0 0) q rfl rfl h9) rfl ⟨.slice none 0 0,by rw[v.out];rfl,by rw[v.out];exact K1 0 dM,by rw[v.out];exact Ad.nil _ _,?_⟩;exact Ho m d fun k o hk=>(Ku hk)
def O7(t:Aa)(S:Qz)(lv:Q0)(w:Qm)(hG:Ah N E w)(hdep:t.depth<=1000000)(ho:t.hd.ok)(hr:Ad S w t.l lv)(hS:∀k,w.heap.size<=k->S k)(hl:∀x∈t.flat,x.l.length<=40):
  Calls prog 19 #[Qu t.hd lv] w fun e w'=>e=.returned (.bool (R7 t))/\Qd w w':=by
 have v:=fun W (hs:Qd w W)=>Qao t S lv W (hG.same hs) hdep ho (hr.same hs) (fun k hk=>hS k (Qj hs.size hk)) hl
 unfold R7
 obtain⟨⟨⟨h',l'⟩,q⟩,hq⟩:∃r,DG t=r:=⟨_,rfl⟩
 rw[hq]at v|-
 unfold FQ at v
 simp only[Aa.Ae,Aa.Ag]at v
 have j:=fun W a3 h1 (hs:Qd w W)=>FZ (.node h' l') t S a3 lv W h1 (hr.same hs)
 generalize hb:(Aa.node h' l').same t=b at j|-
 obtain⟨a,f,rfl⟩:=hr.Ab
 obtain⟨h,l⟩:=t
 simp only[Aa.Ae,Aa.Ag]at*
 have d:=Qt w (.cells (nR h (.slice a l.length f)) 27)
 have u:Qd w (w.alloc (.cells (nR h (.slice a l.length f)) 27)):=Xd
 have n0:=Qi d
 clear hq hb
 go_in
 go_wp2_with fail
 refine(v _ u).mono ?_
 rintro x w1 ⟨a3,rfl,a5,a0,m⟩
 obtain⟨a',a2,rfl⟩:=a0.Ab
 have a1:=m.s d
 have n:=u.trans m
 have a6:=m.size
 clear m d u v n0
 by_cases c:q=0
 ·subst c;have z:=LW w1 (.cells (nR h' (.slice a' l'.length a2)) 27);have n0:=Qi (z.s a1);have y:=j _ _ (a0.same z) (n.trans z);have p:=n.trans z;clear j z;go_wp2_with fail;refine y.mono ?_;rintro x w3 ⟨rfl,a4⟩;clear n0 y;go_wp2_with fail;go_ret;exact⟨by cases b<;>rfl,p.trans a4⟩
 ·have a7:((q:Int)==0)=false:=by simpa using c
  clear j;go_wp2_with fail;go_ret;refine⟨?_,Xd⟩;simp[c]
def Gx:Nat->Nat->Int->Nat × Int
 |0,n,e=>(n,e)
 |f+1,n,e=>if n % 2=0 then Gx f (n/2) (e+1)else(n,e)
def Fv(d:Dc):Option (Nat × Int):=
 let n:=valOf (Qf d.digits)*5^d.exp.toNat
 let q:=5^(-d.exp).toNat
 if n % q=0 then some (Gx 2000 (n/q) d.exp)else none
def Kw(d:Dc):Nat × Bool:=
 if Q2 d=false then(0,false)
 else if d.digits=⟨#[48]⟩then(0,true)
 else match Fv d with
  |none=>(0,false)
  |some (n,e)=>
   if 18446744073709551616<=n∨53<Zl n then(0,false)
   else(Kg 52 64 (if d.neg then 1 else 0) (e-(53-Zl n:Nat)+1075).toNat (n<<<(53-Zl n)&&&Qw 52),true)
def dO(u:Nat)(x:Aa):Aa:=.node {Qh 9 with u:=u} [x]
def Jb:Nat->Nat->Qv
 |0,_=>[]
 |f+1,n=>if n=0 then[]else Jb f (n/256)++[n % 256]
def Cm(neg:Bool)(digits:Qo):Aa:=
 let r:=Jo neg digits 0
 if r.2=0/\Q5 (Rb r.1) 2=0 then Rb r.1
 else dO (if neg then 3 else 2) (.node {Qh 6 with s:=Xh (Jb 400 (valOf (Qf digits)-if neg then 1 else 0))} [])
def Fw(neg:Bool)(n:Nat):Dc:=(Jo neg (Xw n) 0).1
def Yx(id:Int)(d:Dc):Aa:=
 if Q5 (Rb d) id=0 then Rb d
 else if(Kw d).2 then
  let w:=if id=4 then max (Rt (Kw d).1) 32 else Rt (Kw d).1
  .node {Qh 4 with u:=(Xx (Kw d).1 w).1,w:=w} []
 else if id=4 then .node {Qh 11 with u:=100,s:=(Z2 d).1} []
 else dO 4 (.node (Qh 7) [Rb (Fw (decide (d.exp<0)) d.exp.natAbs),Cm d.neg d.digits])
def Qap(a b:Aa):Bool:=decide (Rm a.hd<Rm b.hd)
def Ny(a b:Aa):Bool:=decide (Q5 (Kl a) 2=0)&&decide (Q5 (Kl b) 2=0)&&Qap a b
def BG(p:Aa × Aa)(l:List (Aa × Aa)):List (Aa × Aa):=
 let k:=(l.reverse.takeWhile fun q=>Ny p.1 q.1).length
 l.take (l.length-k)++p::l.drop (l.length-k)
def Xa:Qp->List (Aa × Aa)
 |k::x::l=>(k,x)::Xa l
 |_=>[]
def Zg(id:Int)(t:Aa):Aa:=if id=3/\t.hd.kind=8 then .node t.hd (Qq ((Xa t.l).foldl (fun o p=>BG p o) []))else t
mutual
def Zf(id:Int):Aa->Aa
 | .node h l=>if h.kind=3 then Yx id h.d else if h.kind=7 then .node (Qh 7) (Fx id l)else if h.kind=8 then Zg id (.node (Qh 8) (Y8 id l))else .node h l
def Fx(id:Int):Qp->Qp
 | []=>[]
 |x::l=>Zf id x::Fx id l
def Y8(id:Int):Qp->Qp
 |k::x::l=>k::Zf id x::Y8 id l
 |_=>[]
end
def Gy(n:Nat):Nat:=if n<10 then 48+n else 87+n
def Vn(c:Nat):Qv:=
 if c=34∨c=92 then[92,c]else if c=8 then[92,98]else if c=12 then[92,102]else if c=10 then[92,110]else if c=13 then[92,114]else if c=9 then[92,116]
 else if c<32 then[92,117,48,48,Gy (c/16),Gy (c % 16)]else[c]
def Gc(s:Qo):Qv:=34::((Qf s).flatMap Vn++[34])
def BZ(s:Aj):Qv:=if s.index<0 then Gc s.key else Qf (Xw s.index.toNat)
def Z1(p:List Aj):Qv:=p.flatMap fun s=>47::BZ s
def Ro:Qp->Qo->Option Aa
 |k::x::l,s=>if(Xe k).1=s then some x else Ro l s
 |_,_=>none
def Kq(t:Aa)(s:Aj):Aa:=
 if(Q3 t).hd.kind=7 then Xp (Q3 t).l s.index.toNat
 else match Ro (Q3 t).l s.key with
  |some x=>x
  |none=>t
def Gd:Qp->Option (Qv)->Bool
 |k::_::l,none=>Gd l (some (Rm k.hd))
 |k::_::l,some i=>decide (i<Rm k.hd)&&Gd l (some (Rm k.hd))
 |_,_=>true
def Kz(t:Aa):Bool:=decide (Q5 t 3=0)&&t.flat.all fun x=>decide (x.hd.kind≠8)||Gd x.l none
def Gz(X:Hd->Dc × Bool)(n:Aa)(id:Int):List (List Aj × Aa) × Int:=
 if(Q8 X n id).2≠0 then([],(Q8 X n id).2)
 else if id=3/\Kz n=false then([],61)
 else((Th (Q8 X n id).1).filterMap fun p=>
  let x:=Xu (p.foldl Kq n)
  if x.same (Xu (Zf id ((D8 (Q8 X n id).1 p).getD (.node (Qh 0) []))))then none else some (p,x),0)
def Jh:Qp->List (Aa × Aa)->List (Aa × Aa) × List (Aa × Aa)
 |k::_::l,has=>
  if(Xe k).2 then
   match has.find? fun q=>decide (q.1.hd.s=(Xe k).1)with
   |some q=>let r:=Jh l (has.filter fun z=>decide (z.1.hd.s≠(Xe k).1));((k,q.2)::r.1,r.2)
   |none=>Jh l has
  else Jh l has
 |_,has=>([],has)
def Vg(id:Int)(shell:Aa)(l:Qp):Aa:=
 let r:=Jh shell.l (Xa l)
 Zg id (.node (Qh 8) (Qq (r.1++r.2)))
def Zn(id:Int)(shell g:Aa)(l:Qp):Aa:=
 if(Q3 shell).hd.kind≠g.hd.kind∨Xn g.hd=false then shell
 else if g.hd.kind=7 then Xo (.node (Qh 7) l) shell
 else Xo (Vg id (Q3 shell) l) shell
def CD(X:Hd->Dc × Bool)(id:Int)(own:Option Aa)(g out:Aa)(l:Qp):Aa:=
 match own with
 |none=>out
 |some sh=>if Q5 sh 2=60 then out
  else if(Q8 X (Zn id sh g l) id).2=0/\(Q8 X (Zn id sh g l) id).1.same g=true then Zn id sh g l else out
mutual
def Ge(X:Hd->Dc × Bool)(id:Int)(own:List Aj->Option Aa):Aa->List Aj->Aa
 | .node h l,p=>
  if h.kind=7 then CD X id (own p) (.node h l) (Zg id (.node (Qh 7) (IJ X id own l p 0))) (IJ X id own l p 0)
  else if h.kind=8 then CD X id (own p) (.node h l) (Zg id (.node (Qh 8) (BS X id own l p))) (BS X id own l p)
  else CD X id (own p) (.node h l) (Zf id (.node h l)) []
def IJ(X:Hd->Dc × Bool)(id:Int)(own:List Aj->Option Aa):Qp->List Aj->Nat->Qp
 | [],_,_=>[]
 |x::l,p,i=>Ge X id own x (p++[X4 i])::IJ X id own l p (i+1)
def BS(X:Hd->Dc × Bool)(id:Int)(own:List Aj->Option Aa):Qp->List Aj->Qp
 |k::x::l,p=>k::Ge X id own x (p++[Yb k.hd.s])::BS X id own l p
 |_,_=>[]
end
def KM(l:List (List Aj × Aa))(p:List Aj):Option Aa:=
 if Xv p then(l.find? fun x=>Xv x.1&&decide (Z1 x.1=Z1 p)).map Prod.snd else none
def XK(X:Hd->Dc × Bool)(g:Aa)(id:Int)(l:List (List Aj × Aa)):Aa × Int:=
 if R7 g=false then(.node (Qh 0) [],161)
 else
  let n:=Ge X id (KM l) g []
  if Q5 n id≠0 then(.node (Qh 0) [],Q5 n id)else(n,0)
def XL:∀(n:Nat),∀c∈Lib.decDigits n,48<=c.toNat/\c.toNat<=57:=by
 intro n;induction n using Nat.strongRecOn with
 |_ n ih=>
  intro c j;rw[Lib.decDigits]at j;split at j
  ·rename_i h;rw[Zm]at j;subst j;rw[CN];omega
  ·rename_i h;rcases Kn.1 j with q|q
   ·exact ih (n/10) oM c q
   ·rw[Zm]at q;subst q;rw[CN];omega
def RU(n:Nat):Lib.decDigits n≠[]:=by
 rw[Lib.decDigits];split<;>simp
def Wc(l:Qv)(c:Nat):valOf (l++[c])=10*valOf l+(c-48):=by
 unfold valOf;rw[O5];rfl
def PF:∀n:Nat,valOf ((Lib.decDigits n).map (·.toNat))=n:=by
 intro n;induction n using Nat.strongRecOn with
 |_ n ih=>
  rw[Lib.decDigits];split
  ·rename_i h;show 10*0+((UInt8.ofNat (48+n)).toNat-48)=n;rw[CN];omega
  ·rename_i h;rw[Hg,Zy,EV,Wc,ih (n/10) oM,CN];omega
def Dk(n:Nat):Qf (Xw n)=(Lib.decDigits n).map (·.toNat):=by
 unfold Qf Xw;rfl
def Lp(n:Nat):∀c∈Qf (Xw n),48<=c/\c<=57:=by
 intro c j;rw[Dk]at j;obtain⟨x,hx,rfl⟩:=Xq.1 j;exact XL n x hx
def Wd(n:Nat):Qf (Xw n)≠[]:=by
 rw[Dk];intro h;exact RU n (List.map_eq_nil_iff.1 h)
def Qeh(h:Qf (Xw n)=Qf (Xw m)):n=m:=by
 rw[Dk,Dk]at h;rw[<-PF n,h,PF m]
def tH{a b x y:Qv}(ha:∀c∈a,48<=c/\c<=57)(hb:∀c∈b,48<=c/\c<=57)(hx:∀c∈x.head?,¬(48<=c/\c<=57))(hy:∀c∈y.head?,¬(48<=c/\c<=57))(h:a++x=b++y):a=b/\x=y:=by
 induction a generalizing b with
 |nil=>
  cases b with
  |nil=>exact⟨rfl,h⟩
  |cons d b=>
   simp only[Ri]at h;subst h;exact absurd (hb d sM) (hx d sM)
 |cons c a ih=>
  cases b with
  |nil=>
   simp only[Ri]at h;subst h;exact absurd (ha c sM) (hy c sM)
  |cons d b=>
   simp only[Y0,DW]at h;obtain⟨q,v⟩:=ih (fun c j=>ha c (Kk _ j)) (fun c j=>hb c (Kk _ j)) h.2;exact⟨by rw[h.1,q],v⟩
def dP(hn:n<16)(hm:m<16)(h:Gy n=Gy m):n=m:=by
 unfold Gy at h;split at h<;>split at h<;>omega
def BH(c:Nat):(c≠34/\c≠92/\32<=c/\Vn c=[c])∨(∃d,Vn c=[92,d]/\d≠117/\((c=34/\d=34)∨(c=92/\d=92)∨(c=8/\d=98)∨(c=12/\d=102)∨(c=10/\d=110)∨(c=13/\d=114)∨(c=9/\d=116)))∨(c<32/\Vn c=[92,117,48,48,Gy (c/16),Gy (c % 16)]):=by
 unfold Vn;by_cases y:c=34∨c=92
 ·rw[Qe y];right;left;exact⟨c,rfl,oM,oM⟩
 ·rw[Qa y];by_cases z:c=8
  ·rw[Qe z];right;left;exact⟨98,rfl,dM,oM⟩
  ·rw[Qa z];by_cases q:c=12
   ·rw[Qe q];right;left;exact⟨102,rfl,dM,oM⟩
   ·rw[Qa q];by_cases m:c=10
    ·rw[Qe m];right;left;exact⟨110,rfl,dM,oM⟩
    ·rw[Qa m];by_cases n:c=13
     ·rw[Qe n];right;left;exact⟨114,rfl,dM,oM⟩
     ·rw[Qa n];by_cases v:c=9
      ·rw[Qe v];right;left;exact⟨116,rfl,dM,oM⟩
      ·rw[Qa v];by_cases j:c<32
       ·rw[Qe j];right;right;exact⟨j,rfl⟩
       ·rw[Qa j];left;exact⟨oM,oM,oM,rfl⟩
def RV{c d:Nat}{x y:Qv}(h:Vn c++x=Vn d++y):c=d/\x=y:=by
 rcases BH c with⟨z,m,p,j⟩| ⟨e,j,z,m⟩| ⟨z,j⟩<;>rcases BH d with⟨v,t,r,q⟩| ⟨f,q,v,t⟩| ⟨v,q⟩<;>rw[j,q]at h<;>simp only[Y0,Ri,DW]at h
 ·exact h
 ·omega
 ·omega
 ·omega
 ·exact⟨oM,h.2.2⟩
 ·omega
 ·omega
 ·omega
 ·obtain⟨_,_,_,_,u,b,n⟩:=h;have e1:=dP oM oM u;have k:=dP oM oM b;exact⟨oM,n⟩
def SI(c:Nat):∃d l,Vn c=d::l/\d≠34:=by
 rcases BH c with⟨q,v,y,j⟩| ⟨e,j,q,v⟩| ⟨q,j⟩
 ·exact⟨c,[],j,q⟩
 ·exact⟨92,[e],j,dM⟩
 ·exact⟨92,_,j,dM⟩
def RW{a b x y:Qv}(h:a.flatMap Vn++34::x=b.flatMap Vn++34::y):a=b/\x=y:=by
 induction a generalizing b with
 |nil=>
  cases b with
  |nil=>simpa using h
  |cons d b=>
   obtain⟨e,l,j,q⟩:=SI d;rw[Ox,j]at h;simp only[List.flatMap_nil,Ri,Y0,DW]at h;omega
 |cons c a ih=>
  cases b with
  |nil=>
   obtain⟨e,l,j,q⟩:=SI c;rw[Ox,j]at h;simp only[List.flatMap_nil,Ri,Y0,DW]at h;omega
  |cons d b=>
   rw[Ox,Ox,Y1,Y1]at h;obtain⟨m,n⟩:=RV h;obtain⟨v,z⟩:=ih n;exact⟨by rw[m,v],z⟩
def We(p:List Aj):∀c∈(Z1 p).head?,c=47:=by
 cases p with
 |nil=>intro c j;simp[Z1]at j
 |cons s p=>intro c j;simp[Z1]at j;omega
def Wf{s t:Aj}(hs:X5 s=true)(ht:X5 t=true)(hi:s.index=t.index)(hk:s.index<0->s.key=t.key):s=t:=by
 obtain⟨i,k⟩:=s;obtain⟨j,l⟩:=t;simp only at hi hk;subst hi;unfold X5 at hs ht;simp only[Y2,X1,Zz]at hs ht;by_cases h:i<0
 ·rw[hk h]
 ·rcases hs with hs|hs
  ·rcases ht with ht|ht
   ·rw[hs.1,ht.1]
   ·omega
  ·omega
def KN:∀{p q:List Aj},(∀s∈p,X5 s=true)->(∀s∈q,X5 s=true)->Z1 p=Z1 q->p=q
 | [],[],_,_,_=>rfl
 | [],s::q,_,_,h=>by simp[Z1]at h
 |s::p,[],_,_,h=>by simp[Z1]at h
 |s::p,t::q,hp,hq,h=>by
  have h1:BZ s++Z1 p=BZ t++Z1 q:=by
   have r:47::BZ s++Z1 p=47::BZ t++Z1 q:=h;simpa using r
  have m:=hp s sM;have y:=hq t sM;have f:0<=s.index∨s.index= -1:=by
   unfold X5 at m;simp only[Y2,X1,Zz]at m;omega
  have k:0<=t.index∨t.index= -1:=by
   unfold X5 at y;simp only[Y2,X1,Zz]at y;omega
  have v:s=t/\Z1 p=Z1 q:=by
   unfold BZ at h1;by_cases z:s.index<0
   ·by_cases j:t.index<0
    ·rw[Qe z,Qe j]at h1;unfold Gc at h1;simp only[Y0,Y1,Ri,DW,true_and]at h1;obtain⟨u,n⟩:=RW h1;exact⟨Wf m y oM fun _=>gY u,n⟩
    ·rw[Qe z,Qa j]at h1;exfalso;obtain⟨d,l,hd⟩:=List.exists_cons_of_ne_nil (Wd t.index.toNat)
     have:=Lp t.index.toNat d (by rw[hd];simp);rw[hd]at h1;unfold Gc at h1;simp only[Y0,DW]at h1;omega
   ·by_cases j:t.index<0
    ·rw[Qa z,Qe j]at h1;exfalso;obtain⟨d,l,hd⟩:=List.exists_cons_of_ne_nil (Wd s.index.toNat)
     have:=Lp s.index.toNat d (by rw[hd];simp);rw[hd]at h1;unfold Gc at h1;simp only[Y0,DW]at h1;omega
    ·rw[Qa z,Qa j]at h1;obtain⟨u,n⟩:=tH (Lp _) (Lp _) (fun c b=>by rw[We p c b];decide) (fun c b=>by rw[We q c b];decide) h1
     have:=Qeh u;exact⟨Wf m y oM oM,n⟩
  rw[v.1,KN (fun x hx=>hp x (Kk _ hx)) (fun x hx=>hq x (Kk _ hx)) v.2]
def dQ(hp:Xv p=true)(hq:Xv q=true)(h:Z1 p=Z1 q):p=q:=by
 unfold Xv at hp hq;rw[X1,Vf]at hp hq;exact KN hp.2 hq.2 h
def Wg(X:Hd->Dc × Bool):∀l:Qp,(∀x∈l,x.proj X=(x,0))->Zc X l=(l,0)
 | [],_=>by rw[Zc]
 |x::l,h=>by rw[Zc,h x sM,Wg X l fun y hy=>h y (by simp[hy])];rfl
def tI(X:Hd->Dc × Bool):∀y:Aa,(∀x∈y.flat,Xc x=true)->Tj y->O1 y->y.proj X=(y,0):=by
 refine Aa.ind fun h l ih k a0 c=>?_
 have o0:=(Kj (fun x=>Xc x=true) (.node h l)).1 k;have f0:=(Kj (fun y=>Zj 1 y=true) (.node h l)).1 a0;have s0:=(Kj Qee (.node h l)).1 c;have IH:=fun x hx=>ih x hx (o0.2 x hx) (f0.2 x hx) (s0.2 x hx)
 have j:=o0.1;have z:=f0.1;by_cases h7:h.kind=7
 ·unfold Xc at j;simp only[Aa.Ae,h7]at j;simp at j;have e:=Zo j;subst e;rw[Aa.proj,Wg X l IH];simp[Zw,Qh]
 ·by_cases h8:h.kind=8
  ·have hs:=s0.1 h8;simp only[Aa.Ag]at hs;obtain⟨m,a1⟩:=X0 ((Kv l).mergeSort FO);have hl:l=Zt m:=by rw[<-a1,<-Gw];exact hs.symm
   have a2:Jg m=l:=by rw[hl]at hs|-;rw[Ft]at hs;exact hs
   unfold Xc at j;simp only[Aa.Ae,Aa.Ag,h8]at j;simp at j;have eh:h=Qh 8:=Zo j.1.1;have n:=(Nx (Zb l)).1 j.2;rw[hl,Df]at n;have u:(m.map Prod.fst).Nodup:=by
    have e:(m.map fun p=>(Aa.node (Xy p.1) []:Aa))=(m.map Prod.fst).map fun s=>Aa.node (Xy s) []:=by rw[Ka];rfl
    rw[e]at n;exact List.Pairwise.imp (fun h e=>h (by rw[e])) (UV.1 n)
   have v:∀p∈m,(Aa.node (Xy p.1) []:Aa)∈l/\p.2∈l:=fun p hp=>by
    rw[hl];unfold Zt;exact⟨Nm.2 ⟨p,hp,sM⟩,Nm.2 ⟨p,hp,sM⟩⟩
   have b:=US X m [] (fun p hp=>⟨IH _ (v p hp).2,o0.2 _ (v p hp).1 _ (Z8 _),sM⟩) u;rw[<-hl]at b;have hd:Zw X (.node h l)=(Ko,false):=by unfold Zw;simp[h8]
   rw[Aa.proj,hd,b,a2,eh];simp[Qh]
  ·by_cases h3:h.kind=3
   ·unfold Xc at j;simp only[Aa.Ae,h3]at j;simp at j;obtain⟨e1,f⟩:=O2 j.1;subst e1;rw[Aa.proj];have hd:Zw X (.node h [])=(h.d,true):=by unfold Zw;simp[h3,j.2]
    rw[hd];have:Rb h.d=.node h []:=by unfold Rb;rw[h3]at f;rw[Aa.node.injEq];exact⟨f.symm,rfl⟩
    simp[this]
   ·by_cases q:h.kind=2∨h.kind=5
    ·have hd:Zw X (.node h l)=(Ko,false):=by unfold Zw;rcases q with e|e<;>simp[e]
     rw[Aa.proj,hd,Qa dM,Qe q]
    ·by_cases h1:h.kind=1
     ·unfold Xc at j;simp only[Aa.Ae,h1]at j;simp at j;obtain⟨e1,f⟩:=O2 j;subst e1;have hd:Zw X (.node h [])=(Ko,false):=by unfold Zw;simp[h1]
      rw[Aa.proj,hd];have:h=Qh 1:=by rw[h1]at f;exact f
      simp[this,Qh]
     ·exfalso;unfold Zj at z;unfold Xc at j;simp only[Aa.Ae]at z j;have n2:¬h.kind=2:=fun e=>q (.inl e)
      have n5:¬h.kind=5:=fun e=>q (.inr e)
      by_cases e4:h.kind=4
      ·simp[e4]at z
      ·by_cases e6:h.kind=6
       ·simp[e6]at z
       ·by_cases e9:h.kind=9
        ·simp[e9]at z
        ·by_cases r:h.kind=10
         ·simp[r]at z
         ·by_cases t:h.kind=11
          ·simp[t]at z
          ·simp[h1,n2,h3,e4,n5,e6,h7,h8,e9,r,t]at j
def RX(X:Hd->Dc × Bool)(h:(Q8 X t f).2=0):Q8 X (Q8 X t f).1 1=((Q8 X t f).1,0):=by
 have j:=(SC X h).1;by_cases c1:Q5 t f=0
 ·by_cases c2:(t.proj X).2=0
  ·by_cases c3:Q5 (t.proj X).1 2=60
   ·exact Qab
   ·have e:Q8 X t f=((t.proj X).1,0):=by
     unfold Q8;rw[Qa (fun e=>e c1),Qa (fun e=>e c2),Qa c3]
    rw[e]at j|-;have q:=fun x hx=>((Nl c1).2.2 x hx).1
    have v:=tI X (t.proj X).1 (fun x hx=>((Nl j).2.2 x hx).1) (Aa.AM X t q c2) (Aa.AY X t q c2);show Q8 X (t.proj X).1 1=((t.proj X).1,0);unfold Q8;rw[Qa (fun e=>e j),v,Qa (fun e=>e rfl),Qa c3]
  ·exact Qac
 ·unfold Q8 at h;rw[Qe c1]at h;exact absurd h c1
end Go.Tm
namespace Go.Tm
open Go.Proofs Go.RowKit Go.Sort Go.Proofs.Tryz
variable{h:Hd}{l:Qp}{t:Aa}{f:Int}
variable(X:Hd->Dc × Bool)
abbrev Zh(t:Aa):Prop:=∀x∈t.flat,x.l.length<=40
def Y9(h0:l.length<=40)(hl:∀k∈l,Zh k):Zh (.node h l):=(Kj (fun x=>x.l.length<=40) (.node h l)).2 ⟨h0,hl⟩
def O8(ht:Zh (.node h l)):l.length<=40/\∀k∈l,Zh k:=(Kj (fun x=>x.l.length<=40) (.node h l)).1 ht
def Vh(h:Hd):Zh (.node h []):=Y9 (Xi _) fun k j=>by cases j
def tJ(ps:List (Qo × Aa)):(Jg ps).length=2*ps.length:=by
 have:∀qs:List (Qo × Aa),(Zt qs).length=2*qs.length:=fun qs=>by
  induction qs with
  |nil=>rfl
  |cons q qs ih=>show(_::_::Zt qs).length=_;simp only[Xf,ih];omega
 rw[Gw,this,List.length_mergeSort]
def Qei(h:Hd)(ps:List (Qo × Aa))(hn:ps.length<=20)(hp:∀p∈ps,Zh p.2):Zh (.node h (Jg ps)):=by
 refine Y9 (by rw[tJ];omega) fun k j=>?_
 unfold Jg at j;obtain⟨p,q,j⟩:=Nm.1 j;rcases Xg.1 j with rfl|j
 ·exact Vh _
 ·rw[Zm.1 j];exact hp p (My.1 q)
def KO:∀(l:Qp) (seen:List Qo),(X8 X l seen).1.length<=l.length/2
 | [],seen=>by rw[X8];exact Xi _;intro k x l h;cases h
 | [_],seen=>by rw[X8];exact Xi _;intro k x l h;cases h
 |k::x::l,seen=>by
  have h2:=KO l ((Xe k).1::seen);rw[X8];split
  ·exact Xi _
  ·simp only[Xf];omega
def Wh:∀l:Qp,(Zc X l).1.length=l.length
 | []=>by rw[Zc]
 |x::l=>by rw[Zc];show(_::(Zc X l).1).length=_;rw[Xf,Wh l,Xf]
mutual
def Aa.Ba:∀t:Aa,Zh t->Zh (t.proj X).1
 | .node h l,ht=>by
  have hk:=O8 ht;have q:=tK l hk.2;have v:=Wi l hk.2;have j:=Wj l [] hk.2;have z:=KO X l [];have y:=Wh X l;rw[Aa.proj];split
  ·exact Vh _
  ·split
   ·exact ht
   ·split
    ·exact Vh _
    ·split
     ·exact Vh _
     ·split
      ·exact q
      ·split
       ·exact Y9 (by rw[y];exact hk.1) v
       ·split
        ·exact Qei _ _ (by have:=hk.1;omega) j
        ·exact Vh _
def tK:∀l:Qp,(∀k∈l,Zh k)->Zh (Y6 X l).1
 | [],_=>by rw[Y6];exact Vh _
 |x::l,h=>by rw[Y6];exact Aa.Ba x (h x Yr)
def Wi:∀l:Qp,(∀k∈l,Zh k)->∀k∈(Zc X l).1,Zh k
 | [],_=>by rw[Zc];intro k hk;cases hk
 |x::l,h=>by
  have h1:=Aa.Ba x (h x Yr);have j:=Wi l fun k hk=>h k (Kk _ hk)
  rw[Zc];intro k hk;rcases Xg.1 hk with rfl|hk
  ·exact h1
  ·exact j k hk
def Wj:∀(l:Qp) (seen:List Qo),(∀k∈l,Zh k)->∀p∈(X8 X l seen).1,Zh p.2
 | [],seen,_=>by rw[X8];intro p hp;cases hp;intro k x l h;cases h
 | [_],seen,_=>by rw[X8];intro p hp;cases hp;intro k x l h;cases h
 |k::x::l,seen,h=>by
  have h1:=Aa.Ba x (h x (Kk _ Yr));have q:=Wj l ((Xe k).1::seen) fun y j=>h y (Kk _ (Kk _ j))
  rw[X8];intro p hp;split at hp
  ·cases hp
  ·rcases Xg.1 hp with rfl|hp
   ·exact h1
   ·exact q p hp
end
def lC(t:Aa)(f:Int)(ht:Zh t):Zh (Q8 X t f).1:=by
 have j:=Aa.Ba X t ht;unfold Q8;split
 ·exact Vh _
 ·split
  ·exact Vh _
  ·split
   ·exact Vh _
   ·exact j
def tL(h:(Q8 X t f).2=0):
  Q8 X (Q8 X t f).1 1=((Q8 X t f).1,0)/\DG (Q8 X t f).1=((Q8 X t f).1,0)/\R7 (Q8 X t f).1=true/\Q5 (Q8 X t f).1 1=0:=by
 obtain⟨j,v⟩:=SC X h
 have q:DG (Q8 X t f).1=((Q8 X t f).1,0):=by
  unfold DG;rw[Qa (fun e=>e j),v]
 refine⟨RX X h,q,?_,j⟩
 unfold R7
 rw[q,(Ru _ _).2 rfl]
 rfl
end Go.Tm
namespace Go.Tm
open Go.Proofs Go.RowKit Go.Proofs.Tryz
variable{t x:Aa}{f:Int}
variable(X:Hd->Dc × Bool)
def KP(t:Aa):1<=t.count:=Aa.Bl t
def Cn(h:Hd):(Aa.node h []).count=1:=by rw[Aa.count,Q7]
def Qg5{P:Prop}(h:P:=by
 induction h with
 |nil=>rfl
 |cons x _ ih=>rw[Q7,Q7,ih]
 |swap x y l=>rw[Q7,Q7,Q7,Q7];omega
 |trans _ _ h1 h2=>rw[h1,h2]):P:=h
def dR{a b:Qp}(h:a.Perm b):Q7 a=Q7 b:=by
 exact Qg5
def dS(ps:List (Qo × Aa)):Q7 (Jg ps)=Q7 (Zt ps):=by
 rw[Gw];exact dR ((I8 ps FO).flatMap_right _)
mutual
def Aa.AN:∀t:Aa,(t.proj X).1.count<=t.count
 | .node h l=>by
  have hp:=KP (.node h l);have j:=dT l;have v:=SJ l;have q:=SK l [];rw[Aa.proj];split
  ·exact Qj (Mz (Cn _)) hp
  ·split
   ·exact Q6 _
   ·split
    ·exact Qj (Mz (Cn _)) hp
    ·split
     ·exact Qj (Mz (Cn _)) hp
     ·split
      ·rw[Aa.count];omega
      ·split
       ·rw[Aa.count,Aa.count];show 1+Q7 (Zc X l).1<=_;omega
       ·split
        ·rw[Aa.count,Aa.count];show 1+Q7 (Jg (X8 X l []).1)<=_;rw[dS];omega
        ·exact Qj (Mz (Cn _)) hp
def dT:∀l:Qp,(Y6 X l).1.count<=Q7 l+1
 | []=>by rw[Y6,Cn];omega
 |x::l=>by
  have:=Aa.AN x;rw[Y6,Q7];omega
def SJ:∀l:Qp,Q7 (Zc X l).1<=Q7 l
 | []=>by rw[Zc];exact Q6 _
 |x::l=>by
  have h1:=Aa.AN x;have j:=SJ l;rw[Zc];show Q7 (_::_)<=_;rw[Q7,Q7];omega
def SK:∀(l:Qp) (seen:List Qo),Q7 (Zt (X8 X l seen).1)<=Q7 l
 | [],seen=>by rw[X8];exact Xi _;intro k x l h;cases h
 | [_],seen=>by rw[X8];exact Xi _;intro k x l h;cases h
 |k::x::l,seen=>by
  have h1:=Aa.AN x;have q:=SK l ((Xe k).1::seen);have j:=KP k;rw[X8,Q7,Q7];split
  ·exact Xi _
  ·show Q7 (_::_::Zt _)<=_;rw[Q7,Q7,Cn];show 1+((x.proj X).1.count+_)<=_;omega
end
def Hu(l:Qp):Aa:=.node (Qh 7) l
def Qaq(l:Qp):(Hu l).flat=Hu l::Re l:=by rw[Hu,Aa.flat]
def Qej(l:Qp):Xc (Hu l)=true:=by
 unfold Xc Hu;simp[Qh]
def Qar(l:Qp):(Hu l).proj X=(Hu (Zc X l).1,(Zc X l).2):=by
 have hd:Zw X (Hu l)=(Ko,false):=by unfold Zw Hu;simp[Qh]
 unfold Hu at hd|-;rw[Aa.proj,hd];simp[Qh]
def dU:∀l:Qp,(∀x∈l,(x.proj X).2=0)->Zc X l=(l.map fun x=>(x.proj X).1,0)
 | [],_=>by rw[Zc];rfl
 |x::l,h=>by
  rw[Zc,dU l fun y hy=>h y (Kk _ hy),h x Yr];rfl
def KQ(h:(Q8 X x f).2=0):Q5 x f=0/\(x.proj X).2=0/\Q5 (x.proj X).1 2≠60/\(Q8 X x f).1=(x.proj X).1:=by
 unfold Q8 at h|-;by_cases j:Q5 x f=0
 ·by_cases q:(x.proj X).2=0
  ·by_cases v:Q5 (x.proj X).1 2=60
   ·rw[Qa (fun e=>e j),Qa (fun e=>e q),Qe v]at h;cases h
   ·rw[Qa (fun e=>e j),Qa (fun e=>e q),Qa v];exact⟨j,q,v,rfl⟩
  ·rw[Qa (fun e=>e j),Qe q]at h;exact absurd h (pO _ q)
 ·rw[Qe j]at h;exact absurd h j
def BI(h:Q5 t f≠60):∀x∈t.flat,Xc x=true:=by
 unfold Q5 at h;split at h
 ·exact absurd rfl h
 ·rw[Yu]at h;split at h
  ·rename_i j;exact Vf.1 j
  ·exact absurd rfl h
def Lq(h:t.count<=9223372036854775807):Yk t=(t.count:Int):=by
 unfold Yk;exact F9 _ oM
end Go.Tm
namespace Go.Tm
open Go.Proofs Go.RowKit Go.Sort Go.Proofs.Tryz
variable{t:Aa}
def O9(h:Xc t=true)(h8:t.hd.kind=8):t.l.length % 2=0/\J8 (Zb t.l)=false/\t.hd=Qh 8:=by
 have e:Xc t=(decide (t.hd=Qh 8)&&decide (t.l.length % 2=0)&& !J8 (Zb t.l)):=by
  unfold Xc;simp only[h8];rfl
 rw[e,X1,X1,FA]at h;exact⟨Zo h.1.2,h.2,Zo h.1.1⟩
def tM(h4:t.hd.kind=4):Xc t=(Zr t {Qh 4 with u:=t.hd.u,w:=t.hd.w}&&decide ((Kx t.hd.u t.hd.w).2=0)):=by
 unfold Xc;simp only[h4];rfl
variable(X:Hd->Dc × Bool)
end Go.Tm
namespace Go.Tm
open Go.Proofs Go.RowKit Go.Proofs.Tryz
variable{f:Int}{c t x y:Aa}{ps:List (Aa × Aa)}
def Bg(f:Int)(t:Aa):Prop:=(∀y∈t.flat,Xc y=true/\Zj f y=true)/\t.depth<=16/\t.count<=300
def AA(t:Aa):Prop:=(∀y∈t.flat,Xc y=true)/\t.depth<=16/\t.count<=300
def DH(h:t.count<=1152921504606846976):Q5 t f=0↔Bg f t:=by
 have n:Yk t=(t.count:Int):=Lq oM;constructor
 ·intro j;obtain⟨v,z,m⟩:=Nl j;exact⟨m,v,oM⟩
 ·rintro⟨j,v,z⟩;unfold Q5;rw[Qa oM,Yu,Qe (Vf.2 fun y q=>(j y q).1),Qe (Vf.2 fun y q=>(j y q).2)]
def Ef(h:t.count<=1152921504606846976):Q5 t f≠60↔AA t:=by
 have m:Yk t=(t.count:Int):=Lq oM;constructor
 ·intro j;have q:=BI j;unfold Q5 at j;by_cases c:16<t.depth∨300<Yk t
  ·rw[Qe c]at j;exact absurd rfl j
  ·exact⟨q,oM,oM⟩
 ·rintro⟨j,q,z⟩;unfold Q5;rw[Qa oM,Yu,Qe (Vf.2 fun y v=>j y v)];split<;>decide
def Bg.right(h:Bg f t):AA t:=⟨fun y j=>(h.1 y j).1,h.2⟩
def AA.small(h:AA t):t.count<=1152921504606846976:=Qj h.2.2 dM
def Bg.check(h:Bg f t):Q5 t f=0:=(DH h.right.small).2 h
def AA.check(h:AA t)(f:Int):Q5 t f≠60:=(Ef h.small).2 h
def Vi:∀(t:Aa) {y:Aa},y∈t.flat->y.depth<=t.depth/\y.count<=t.count/\∀z∈y.flat,z∈t.flat:=by
 refine Aa.ind fun h l m y j=>?_
 rw[Aa.flat]at j;rcases Xg.1 j with rfl|j
 ·exact⟨Q6 _,Q6 _,fun z v=>v⟩
 ·obtain⟨k,q,n⟩:=Cj.1 j;obtain⟨d,b,u⟩:=m k q n;have f:=K8 q;have c:=TF q;rw[Aa.depth,Aa.count];exact⟨oM,oM,fun z v=>by rw[Aa.flat];exact Kk _ (Cj.2 ⟨k,q,u z v⟩)⟩
def Hz{t k:Aa}(hk:k∈t.l):k∈t.flat:=by
 obtain⟨h,l⟩:=t;rw[Aa.flat];exact Kk _ (Cj.2 ⟨k,hk,Z8 k⟩)
def Co{t k:Aa}(hk:k∈t.l):k.depth<t.depth:=by
 obtain⟨h,l⟩:=t
 have:=K8 (l:=l) hk;rw[Aa.depth];omega
def Qas{P:Prop}(h:P:=by
 obtain⟨h1,h2,h3⟩:=Vi t hy;exact⟨fun z hz=>h.1 z (h3 z hz),Qj h1 h.2.1,Qj h2 h.2.2⟩):P:=h
def Bg.sub(h:Bg f t)(hy:y∈t.flat):Bg f y:=by
 exact Qas
def AA.sub(h:AA t)(hy:y∈t.flat):AA y:=by
 exact Qas
variable(X:Hd->Dc × Bool)
def tN(hx:Bg f x)(hp:x.proj X=(c,0))(hc:AA c):Q8 X x f=(c,0):=by
 unfold Q8;rw[Qa (fun e=>e hx.check),hp,Qa (fun e=>e rfl),Qa (hc.check 2)]
def Qh9(l:Qp):Ze (.node (Qh 7) l)=false:=Mr (t:=.node (Qh 7) l) (show(7:Int)≠9 by decide)
def Qg6(l:Qp):Ze (.node (Qh 8) l)=false:=Mr (t:=.node (Qh 8) l) (show(8:Int)≠9 by decide)
def Qf1(l:Qp):Q3 (.node (Qh 7) l)=.node (Qh 7) l:=Y7 (Qh9 l)
def Qf2(l:Qp):Q3 (.node (Qh 8) l)=.node (Qh 8) l:=Y7 (Qg6 l)
def Qek(z:Aa)(l:Qp):Xo z (.node (Qh 7) l)=z:=Z7 (Qh9 l)
def Qel(z:Aa)(l:Qp):Xo z (.node (Qh 8) l)=z:=Z7 (Qg6 l)
def OA(ht:Ze t=true)(ho:Xc t=true):∃x,t=.node {Qh 9 with u:=t.hd.u} [x]:=by
 refine Tw ?_ ho;unfold Ze at ht;rw[X1]at ht;exact Zo ht.1
def Qat(ht:Ze t=true):t.proj X=Y6 X t.l:=by
 obtain⟨h,l⟩:=t;have hd:=P0 X (.node h l);rw[ht]at hd;have j:=hd.symm;rw[X1]at j;have v:h.kind=9:=Zo j.1;have q:(Zw X (.node h l)).2=false:=by simpa using j.2
 rw[Aa.proj,Qa (by rw[q];decide),Qa oM,Qa oM,Qa oM,Qe v];rfl
def BJ:∀t:Aa,(∀x∈t.flat,Xc x=true)->Q3 t∈t.flat/\Ze (Q3 t)=false/\(Q3 t).proj X=t.proj X:=by
 refine Aa.ind fun h l q j=>?_
 cases c:Ze (.node h l)with
 |true=>
  obtain⟨x,e⟩:=OA c (Rw j);have v:l=[x]:=by injection e
  rw[e]at c j|-;have m:=Qat X c;obtain⟨z,n,y⟩:=q x (by rw[v];simp) (Gs j);rw[CA c];refine⟨?_,n,?_⟩
  ·rw[Aa.flat];exact Kk _ (Cj.2 ⟨x,sM,z⟩)
  ·rw[y,m,Aa.Ag,Y6]
 |false=>
  rw[Y7 c];exact⟨Z8 _,c,rfl⟩
def SL:∀t:Aa,(∀x∈t.flat,Xc x=true)->Xo (Q3 t) t=t:=by
 refine Aa.ind fun h l q j=>?_
 cases c:Ze (.node h l)with
 |true=>
  obtain⟨x,e⟩:=OA c (Rw j);have v:l=[x]:=by injection e
  have y:h={Qh 9 with u:=h.u}:=by injection e
  rw[e]at c j|-;rw[CA c,V4 c,q x (by rw[v];simp) (Gs j)]
 |false=>rw[Y7 c,Z7 c]
def FD(h:(Xo y t).hd.kind≠9):Ze t=false:=by
 obtain⟨hd,l⟩:=t;cases c:Ze (.node hd l)with
 |false=>rfl
 |true=>rw[Xo,Qe c]at h;exact absurd rfl h
def tO{b:Aa}(hb:Ze b=false)(hl:Xn b.hd=false):Xn (b.proj X).1.hd=false:=by
 obtain⟨h,l⟩:=b;have j:h.kind≠7/\h.kind≠8:=by
  unfold Xn at hl;rw[Bool.or_eq_false_iff]at hl;exact⟨M0 hl.1,M0 hl.2⟩
 rw[Aa.proj];split
 ·rfl
 ·rename_i v;split
  ·exact hl
  ·split
   ·rfl
   ·split
    ·rfl
    ·split
     ·rename_i q;exfalso
      have:=P0 X (.node h l);rw[hb,Aa.Ae,Kp q]at this;simp at this;exact v this
     ·rw[Qa j.1,Qa j.2];rfl
def Qiw(h7:t.hd.kind=7)(ho:Xc t=true):t=Hu t.l:=by
 obtain⟨h,l⟩:=t;unfold Xc at ho;simp only[Aa.Ae]at h7;simp only[Aa.Ae,h7]at ho;simp at ho;have e:=Zo ho;rw[e];rfl
def Qia(h8:t.hd.kind=8)(ho:Xc t=true):∃ps,t=.node (Qh 8) (Qq ps)/\(ps.map Prod.fst).Nodup:=by
 obtain⟨v,j,q⟩:=O9 ho h8;obtain⟨ps,e⟩:=Mq _ v;refine⟨ps,by rw[<-Aa.eta t,q,e],?_⟩;rw[e,BF]at j;exact(Nx _).1 j
def Qau(l:Qp):(Aa.node (Qh 8) l).proj X=(.node (Qh 8) (Jg (X8 X l []).1),(X8 X l []).2):=by
 have hd:Zw X (.node (Qh 8) l)=(Ko,false):=by unfold Zw;simp[Qh]
 rw[Aa.proj,hd];simp[Qh]
def Qav(h:(Aa.node (Qh 8) (Qq ps)).proj X=(c,0)):
  UA [] ps/\c=.node (Qh 8) (Zt ((ps.map (BX X)).mergeSort FO))/\∀p∈ps,(p.2.proj X).2=0:=by
 rw[Qau]at h
 have q:(X8 X (Qq ps) []).2=0:=congrArg Prod.snd h
 have j:UA [] ps:=by
  by_cases j:UA [] ps
  ·exact j
  ·rw[KA X ps [] j]at q;cases q
 have v:=UB X ps [] j
 rw[v]at h q
 refine⟨j,(congrArg Prod.fst h).symm,fun p y=>?_⟩
 have z:(p.2.proj X).2<=Qd8 (ps.map fun p=>(p.2.proj X).2):=Qd9 (Xq.2 ⟨p,y,rfl⟩)
 simp only at q
 omega
structure AX(f:Int)(x c:Aa):Prop where
 fine:Bg f x
 proj:x.proj X=(c,0)
 right:AA c
 rise:f=3->∀y∈x.flat,y.hd.kind=8->Gd y.l none=true
variable{X}
def AX.common(h:AX X f x c):Q8 X x f=(c,0):=tN X h.fine h.proj h.right
def AX.own(h:AX X f x c):∀y∈x.flat,Xc y=true:=fun y j=>(h.fine.1 y j).1
def AX.bare(h:AX X f x c):AX X f (Q3 x) c/\Ze (Q3 x)=false:=by
 obtain⟨j,z,v⟩:=BJ X x h.own;exact⟨⟨h.fine.sub j,by rw[v,h.proj],h.right,fun e y q=>h.rise e y ((Vi x j).2.2 y q)⟩,z⟩
def AX.B3{x c k d:Aa}(h:AX X f x c)(hk:k∈x.l)(hp:k.proj X=(d,0))(hd:d∈c.l):AX X f k d:=
 ⟨h.fine.sub (Hz hk),hp,h.right.sub (Hz hd),fun e y j=>h.rise e y ((Vi x (Hz hk)).2.2 y j)⟩
def AX.leaf(h:AX X f x c)(hl:Xn (Q3 x).hd=false):Xn c.hd=false:=by
 have j:=tO X h.bare.2 hl;rw[h.bare.1.proj]at j;exact j
def AX.arr(h:AX X f x c)(h7:(Q3 x).hd.kind=7):Q3 x=Hu (Q3 x).l/\c=Hu ((Q3 x).l.map fun y=>(y.proj X).1)/\∀y∈(Q3 x).l,AX X f y (y.proj X).1:=by
 obtain⟨q,_⟩:=h.bare;have e:=Qiw h7 (Rw q.own);have v:=q.proj;rw[e,Qar]at v;have z:(Zc X (Q3 x).l).2=0:=congrArg Prod.snd v;have n:∀(l:Qp),(Zc X l).2=0->∀y∈l,(y.proj X).2=0:=by
  intro l;induction l with
  |nil=>intro _ y j;cases j
  |cons x l ih=>
   intro h y j;rw[Zc]at h;simp only at h;rcases Xg.1 j with rfl|j
   ·omega
   ·exact ih oM y j
 have u:c=Hu ((Q3 x).l.map fun y=>(y.proj X).1):=by
  have m:=(congrArg Prod.fst v).symm;rw[dU X _ (n _ z)]at m;exact m
 refine⟨e,u,fun y j=>?_⟩;refine q.B3 j (Prod.ext rfl (n _ z y j)) ?_;rw[u];exact Xq.2 ⟨y,j,rfl⟩
def AX.map(h:AX X f x c)(h8:(Q3 x).hd.kind=8):
  ∃ps,Q3 x=.node (Qh 8) (Qq ps)/\(ps.map Prod.fst).Nodup/\UA [] ps/\c=.node (Qh 8) (Zt ((ps.map (BX X)).mergeSort FO))/\∀p∈ps,AX X f p.2 (p.2.proj X).1:=by
 obtain⟨q,_⟩:=h.bare
 obtain⟨ps,e,m⟩:=Qia h8 (Rw q.own)
 have j:=q.proj
 rw[e]at j
 obtain⟨z,v,y⟩:=Qav X j
 refine⟨ps,e,m,z,v,fun p j=>?_⟩
 refine q.B3 (by rw[e];exact J6.2 ⟨p,j,.inr rfl⟩) (Prod.ext rfl (y p j)) ?_
 rw[v]
 unfold Zt
 exact Nm.2 ⟨BX X p,My.2 (Xq.2 ⟨p,j,rfl⟩),by simp[BX]⟩
def RY(hy:∀z∈y.flat,Xc z=true):∀t:Aa,(∀x∈t.flat,Xc x=true)->∀z∈(Xo y t).flat,Xc z=true:=by
 refine Aa.ind fun h l v j=>?_
 cases c:Ze (.node h l)with
 |true=>
  obtain⟨x,e⟩:=OA c (Rw j);have m:l=[x]:=by injection e
  rw[e]at c j|-;rw[V4 c];refine(Kj (fun z=>Xc z=true) _).2 ⟨?_,fun k q=>?_⟩
  ·unfold Xc;simp[Qh]
  ·rw[Aa.Ag,Zm]at q;subst q;exact v x (by rw[m];simp) (Gs j)
 |false=>rw[Z7 c];exact hy
def RZ:∀t:Aa,(∀x∈t.flat,Xc x=true)->y.depth<=(Q3 t).depth->(Xo y t).depth<=t.depth:=by
 refine Aa.ind fun h l v q j=>?_
 cases c:Ze (.node h l)with
 |true=>
  obtain⟨x,e⟩:=OA c (Rw q);have z:l=[x]:=by injection e
  rw[e]at c q j|-;rw[CA c]at j
  have:=v x (by rw[z];simp) (Gs q) j;rw[V4 c,Aa.depth,Aa.depth,Xr,Xr,Xr];omega
 |false=>rw[Y7 c]at j;rw[Z7 c];exact j
def OB(ps:List (Aa × Aa)):Zs (Qq ps)=Qq (ps.map fun p=>(p.1,Ya)):=by
 induction ps with
 |nil=>rw[show Qq []=[] from rfl];simp[Zs,Qq]
 |cons p ps ih=>rw[Xm,Zs,ih,Zy,Xm]
def lD:Ya.flat=[Ya]:=by unfold Ya;rw[Aa.flat,Re]
def FE(hl:Xn x.hd=true)(ho:∀z∈x.flat,Xc z=true):(∀z∈(Zk x).flat,Xc z=true)/\(Zk x).depth<=x.depth:=by
 unfold Xn at hl;simp only[Y2,Zz]at hl;rcases hl with r|u
 ·have e:Zk x=Hu []:=by unfold Zk BY;rw[Qa oM,r];rfl
  rw[e];refine⟨fun z v=>?_,?_⟩
  ·rw[Qaq,Re,Zm]at v;subst v;exact Qej []
  ·show(Aa.node (Qh 7) []).depth<=_;rw[Aa.depth,Xr];obtain⟨h,l⟩:=x;rw[Aa.depth];omega
 ·obtain⟨j,e,t⟩:=Qia u (Rw ho);rw[e]at ho|-;have b:Zk (.node (Qh 8) (Qq j))=.node (Qh 8) (Qq (j.map fun p=>(p.1,Ya))):=by
   show Aa.node (Qh 8) (BY 8 (Qq j))=_;unfold BY;rw[Qe rfl,OB]
  rw[b];have d:=((Kj (fun z=>Xc z=true) _).1 ho).2;constructor
  ·refine(Kj (fun z=>Xc z=true) _).2 ⟨?_,fun k n=>?_⟩
   ·have m:J8 (Zb (Qq (j.map fun p=>(p.1,Ya))))=false:=by
     rw[Nx,BF,Ka];exact t
    have y:(Qq (j.map fun p=>(p.1,Ya))).length % 2=0:=by rw[Z6];omega
    unfold Xc;simp[Qh,m,y]
   ·obtain⟨p,f,h⟩:=J6.1 n;obtain⟨q,c,rfl⟩:=Xq.1 f;rcases h with rfl|rfl
    ·exact d _ (J6.2 ⟨q,c,.inl rfl⟩)
    ·intro z v;rw[lD,Zm]at v;subst v;rfl
  ·rw[Aa.depth,Aa.depth];have:∀qs:List (Aa × Aa),Xr (Qq (qs.map fun p=>(p.1,Ya)))<=Xr (Qq qs):=by
    intro qs;induction qs with
    |nil=>exact Q6 _
    |cons q qs ih=>
     rw[Zy,Xm,Xm,Xr,Xr,Xr,Xr];have h1:Ya.depth=1:=rfl;have h2:1<=q.2.depth:=by obtain⟨h,l⟩:=q.2;rw[Aa.depth];omega
     simp only[h1];omega
   have:=this j;omega
def Eg(h:AA t):AA (Xu t):=by
 refine⟨?_,?_,Qj (S9 h.1) h.2.2⟩
 ·unfold Xu;split
  ·rename_i c;have j:=(BJ (fun _=>(Ko,false)) t h.1).1;exact RY (FE c fun z q=>h.1 z ((Vi t j).2.2 z q)).1 t h.1
  ·exact h.1
 ·unfold Xu;split
  ·rename_i c;have j:=(BJ (fun _=>(Ko,false)) t h.1).1;exact Qj (RZ t h.1 (FE c fun z q=>h.1 z ((Vi t j).2.2 z q)).2) h.2.1
  ·exact h.2.1
end Go.Tm
