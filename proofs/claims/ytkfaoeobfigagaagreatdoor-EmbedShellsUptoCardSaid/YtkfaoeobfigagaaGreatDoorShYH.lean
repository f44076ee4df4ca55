/-
  Part 8 of what the claim leans on: contracts of the functions that the law reaches, and plain facts. Conditions: the theorems' own.
-/
import Derived.Deep.MidRow
import Derived.ScopeJumps
import Derived.Test.YtkfaoeobfigagaaGreatDoorShYG
set_option linter.all false
set_option maxRecDepth 100000
set_option maxHeartbeats 16000000
namespace Go.Tm
open Go.Proofs Go.RowKit Go.Proofs.Tryz
variable{d:Dc}{B N b cap e g i k n:Nat}{E:Am}{P:Program}{a:Act}{W W' w w':Qm}{Q:Exit->Act->Qm->Prop}{id:Int}{t:Aa}{l:Qp}{ops:Array Oper}{rest:List Oper}{o:Oper}{u v v' vx:Q0}{S:Qz}{ps:List (Aa × Aa)}
def GL:=@Nat.dvd_of_mod_eq_zero
def IU:=@Prod.mk.inj
def WO:=@Value.slice.injEq
def Cr(hd:Q2 d=true)(hz:d≠Ju):Xb (Qf d.digits)=true/\d.digits.size<=100/\ -100<=d.exp/\d.exp<=100/\0<valOf (Qf d.digits)/\valOf (Qf d.digits)<10^100:=by
 unfold Q2 at hd;simp only[Y2,X1,Zz]at hd;rcases hd with h| ⟨⟨⟨q,y⟩,v⟩,z⟩
 ·exact absurd h hz
 unfold Kt at v;simp only[X1,Zz]at v;have m:=Jm q;refine⟨q,y,oM,oM,?_,?_⟩
 ·rcases N9 (valOf (Qf d.digits))with j|j
  ·have:=eN q;rw[j,BL dM]at this;rw[<-this]at z;exact absurd z dM
  ·exact j
 ·refine Cf (EF _ m.1) (Rj dM ?_);rw[Q9];exact y
def Qf3(h:e<=100):5^e<=5^100:=Rj dM h
def eU(h:e<=100):5^e<10^400:=Jl (Qf3 h) dM
def SW{V e:Nat}(hV:V<10^100)(he:e<=100):V*5^e<2^600:=by
 have j:=LR (Nat.le_of_lt hV) (Qf3 he);exact Jl j dM
def Qhk{n cur i q:Nat}(h:cur*5^i=n)(hi:i<q)(hc:cur % 5≠0):n % 5^q≠0:=by
 intro j;have hd:5^q∣n:=GL j;have z:5^q=5^(q-i)*5^i:=by rw[<-Cb,Nat.sub_add_cancel oM]
 rw[z,<-h]at hd;have y:=Nat.dvd_of_mul_dvd_mul_right (Hn dM) hd;have v:5∣5^(q-i):=⟨5^(q-i-1),by rw[<-Nat.pow_succ',Nat.succ_eq_add_one,Nat.sub_add_cancel oM]⟩;exact hc (Nat.mod_eq_zero_of_dvd (Nat.dvd_trans v y))
def uK{n cur q:Nat}(h:cur*5^q=n):n % 5^q=0/\n/5^q=cur:=by
 rw[<-h];exact⟨Nat.mul_mod_left _ _,Nat.mul_div_cancel _ (Hn dM)⟩
def qH(r:Option (Nat × Int)):Q0:=match r with
 |none=>.tuple #[.string ⟨#[]⟩,.int .i64 0,.bool false]
 |some (n,e)=>.tuple #[.string (Xh (dN n)),.int .i64 e,.bool true]
def WP(d:Dc)(w:Qm)(hd:Q2 d=true)(hz:d≠Ju)(hp:AD w):
  Calls prog 205 #[FY d] w fun e w'=>e=.returned (qH (Fv d))/\Qd w w':=by
 obtain⟨hr,hs,b1,cb,a7,hV⟩:=Cr hd hz
 obtain⟨a1,dg,z⟩:=d
 simp only at hr hs b1 cb a7 hV
 obtain⟨pe,b6⟩:∃n:Nat,z.toNat=n:=⟨_,rfl⟩
 obtain⟨q,hq⟩:∃n:Nat,(-z).toNat=n:=⟨_,rfl⟩
 have a2:pe<=100:=oM
 have d2:q<=100:=oM
 have cc:max z 0=(pe:Int):=oM
 have ce:min z 0= -(q:Int):=oM
 generalize a9:valOf (Qf dg)=V at a7 hV
 have hb:=SW hV a2
 have c3:(2:Nat)^600<10^400:=dM
 have b9:=mA (b:=5) (e:=pe) oM dM dM (eU a2)
 have ac:0<5^pe:=Hn dM
 have be:(dN (5^pe)).length<=400:=BM dM (eU a2)
 have p:=uI (a:=dg) (b:=Xh (dN (5^pe))) hr (by rw[BN];exact EO be) (by rw[BN,M7,a9];omega) (by rw[BN,M7];exact ac)
 rw[BN,M7,a9]at p
 have j:Fv ⟨a1,dg,z⟩=if(V*5^pe) % 5^q=0 then some (Gx 2000 (V*5^pe/5^q) z)else none:=by
  unfold Fv;simp only[a9,b6,hq]
 obtain⟨n0,ag⟩:∃n,V*5^pe=n:=⟨_,rfl⟩
 rw[ag]at p j hb
 have cf:0<n0:=by rw[<-ag];exact Nat.mul_pos a7 ac
 have ba:(Xh (dN (5^pe))).size<=1000000000:=by rw[Jz];omega
 have a8:=fun W (hk:Qd w W)=>Px 5 (pe:Int) W dM (hp.same hk) oM
 rw[b9]at a8
 obtain⟨ps,ae⟩:∃s,Xh (dN (5^pe))=s:=⟨_,rfl⟩
 have a8:∀W,Qd w W->Calls prog 264 #[.int .u32 5,i6 (pe:Int)] W fun x w'=>x=.returned (.tuple #[.string ps,i6 0])/\Qd W w':=by
  intro W hk;rw[<-ae];exact a8 W hk
 rw[ae]at p ba
 have HR:=Qc j
 replace p:=Qc p
 replace hb:=Qc hb
 clear j b9 ae a9 hV a7 be ac hd hz hr b6 hq ag c3
 go_in
 go_wp2
 refine IN ?_
 have b0:=Qt w (.cells #[.bool a1,.string dg,i6 z] 23)
 have b8:=LW w (.cells #[.bool a1,.string dg,i6 z] 23)
 generalize w.alloc (.cells #[.bool a1,.string dg,i6 z] 23)=W0 at b0 b8|-
 have a0:=Q1 b0
 go_wp2_with(first
  | (go_at_call 264;refine(a8 _ Xd).mono ?_;rintro e w1 ⟨rfl,bb⟩;have ah:=bb.s b0;have p0:=Q1 ah)
  | (go_at_call 265;refine(S5 dg ps _ _ _ oM ba oM sM sM (hp.same Xd)).mono ?_;rw[p.out];rintro e w2 ⟨rfl,bc⟩;have c8:=bc.s (Qb ah);obtain⟨q0,q1,q2⟩:=Q1 c8))
 have aa:Qd w w2:=Xd
 have cd:=aa.size
 clear p0 a0 bb bc ah b8 b0
 go_loopw [7,41] (fun mv iv wr=>∃(i cur:Nat),mv=.string (Xh (dN cur))/\iv=i6 i/\i<=q/\cur*5^i=n0/\Qd w2 wr) (fun _ iv _=>q-(RowKit.intOf iv).toNat)
 case atStart=>exact⟨0,n0,rfl,rfl,Xi _,sM,Ac.refl _ _⟩
 case round=>
  obtain⟨i,cur,rfl,rfl,hi,v,af⟩:=hrel;have ad:cur<=n0:=by rw[<-v];exact Mc _ (Hn dM)
  replace v:=Qc v;have ab:n0<10^400:=I9 hb.out dM;have b4:∀c,c<=n0->(Xh (dN c)).size<=1000000000:=fun c hc=>by
   have h:=BM (k:=400) dM (Jl hc ab);rw[Jz];omega
  have c0:∀(k c:Nat) (W:Qm),c<=n0->0<k->k<4294967296->Qd w W->Calls prog 266 #[.string (Xh (dN c)),.int .u32 (k:Int)] W fun e w'=>e=.returned (.tuple #[.string (Xh (dN (c/k))),.int .u32 ((c % k:Nat):Int),i6 0])/\Qd W w':=by
   intro k c W hc h0 h9 hk;have h:=lX (Xh (dN c)) k W (b4 c hc) h0 h9 (hp.same hk);rw[Qbl (Jl hc ab) h0]at h;exact h
  have a5:=aa.trans af;by_cases c5:i<q
  ·have y:=fun W hk=>c0 5 cur W ad dM dM hk
   by_cases h5:cur % 5=0
   ·have b5:cur/5*5^(i+1)=n0:=by rw[<-v.out,Gb,Jj (5^i) 5,<-CM,Nat.div_mul_cancel (GL h5)]
    have HN:=Qc b5;rw[h5]at y;obtain⟨nx,m⟩:∃n,cur/5=n:=⟨_,rfl⟩;rw[m]at y HN;clear b5 h5 m;go_wp2_with(go_at_call 266;refine(y _ a5).mono ?_;rintro e w3 ⟨rfl,u⟩);go_roundw
    case rel=>exact⟨i+1,nx,rfl,by go_num,oM,HN.out,af.trans u⟩
    case measure=>simp[RowKit.intOf];omega
   ·have b7:=Qhk v.out c5 h5;have j:Fv ⟨a1,dg,z⟩=none:=by rw[HR.out,Qa b7]
    obtain⟨r,hr⟩:=X0 (cur % 5);have c7:r<5:=oM;rw[hr]at y h5;have ca:((r:Int)==0)=false:=X6.2 oM;have c6:=Qc j;clear j b7 hr h5;go_wp2_with(go_at_call 266;refine(y _ a5).mono ?_;rintro e w3 ⟨rfl,u⟩)
    (try simp only[Exit.noGoto]);refine Xs (results_tmp3 rfl _ _ _) rfl ⟨by rw[c6.out];rfl,a5.trans u⟩
  ·obtain rfl:i=q:=oM;obtain⟨bd,b3⟩:=uK v.out;have j:Fv ⟨a1,dg,z⟩=some (Gx 2000 cur z):=by rw[HR.out,Qe bd,b3]
   have c4:0<cur:=by
    rcases N9 cur with h|h
    ·have:=v.out;rw[h]at this;omega
    ·exact h
   have a6:=Jl ad hb.out;have d4:=WN 2000 cur z 600 c4 a6;replace j:=Qc j;replace a6:=Qc a6;clear bd b3 ab;have b2:=af.cell q2 fun _ _=>trivial
   go_wp2;refine wp_label ?_;go_wp2;go_loopg [7,12] 2000 (fun f mv xv c9=>∃(c2:Nat) (x2:Int),mv=.string (Xh (dN c2))/\xv=i6 x2/\0<c2/\c2<=n0/\c2<2^f/\Gx 2000 cur z=Gx f c2 x2/\ -100<=x2/\x2<=100+(2000-f:Nat)/\f<=2000/\Qd w c9)
   case atStart=>exact⟨cur,z,rfl,rfl,c4,ad,I9 a6.out dM,rfl,b1,oM,Q6 _,a5⟩
   case round=>
    obtain⟨c2,x2,rfl,rfl,d1,bg,hf,hh,d3,ch,cg,t⟩:=hrel;have y:=fun W hk=>c0 2 c2 W bg dM dM hk
    by_cases h2:c2 % 2=0
    ·obtain⟨f',rfl⟩:∃f',gk=f'+1:=by
      cases gk with
      |zero=>simp at hf;omega
      |succ f=>exact⟨f,rfl⟩
     have a3:Gx 2000 cur z=Gx f' (c2/2) (x2+1):=by rw[hh,mB h2]
     have c1:c2/2<2^f':=by rw[Gb]at hf;omega
     have a4:=Qc a3;have HF:=Qc c1;have bh:0<c2/2:=oM;have bf:c2/2<=n0:=oM;rw[h2]at y;obtain⟨nx,m⟩:∃n,c2/2=n:=⟨_,rfl⟩;rw[m]at y a4 HF bh bf;have d0:IntKind.i64.wrap (x2+1)=x2+1:=by rw[BW];omega
     clear a3 c1 hf hh h2 m;go_wp2_with(go_at_call 266;refine(y _ t).mono ?_;rintro e w3 ⟨rfl,u⟩);go_roundg f'
     case measure=>omega
     case rel=>exact⟨nx,x2+1,rfl,rfl,bh,bf,HF.out,a4.out,oM,oM,oM,t.trans u⟩
    ·have a3:Gx 2000 cur z=(c2,x2):=by rw[hh,uJ h2]
     have a4:=Qc a3;obtain⟨r,hr⟩:=X0 (c2 % 2);have c7:r<2:=oM;rw[hr]at y h2;have ca:((r:Int)==0)=false:=X6.2 oM;clear a3 hf hh hr h2;go_wp2_with(go_at_call 266;refine(y _ t).mono ?_;rintro e w3 ⟨rfl,u⟩)
     (try simp only[Exit.noGoto]);refine Xs (results_tmp3 rfl _ _ _) rfl ⟨by rw[j.out,a4.out];rfl,t.trans u⟩
def OI{d:Dc}(hd:Q2 d=true)(hz:d≠Ju){n:Nat}{e:Int}(h:Fv d=some (n,e)):n<10^400/\ -100<=e/\e<=700/\0<n:=by
 obtain⟨hr,hs,a0,a1,z,hV⟩:=Cr hd hz;unfold Fv at h;simp only at h;split at h
 ·rename_i h0;have j:=Dw h;have r:=SW hV (e:=d.exp.toNat) oM;have h5:0<valOf (Qf d.digits)*5^d.exp.toNat:=Nat.mul_pos z (Hn dM);have c:0<valOf (Qf d.digits)*5^d.exp.toNat/5^(-d.exp).toNat:=Nat.div_pos (Nat.le_of_dvd h5 (GL h0)) (Hn dM);have y:=Nat.div_le_self (valOf (Qf d.digits)*5^d.exp.toNat) (5^(-d.exp).toNat);generalize valOf (Qf d.digits)*5^d.exp.toNat/5^(-d.exp).toNat=m at*
  have t:m<2^600:=Jl y r;have hh:=WN 2000 m d.exp 600 c t;have v:∀f k x,0<k->0< (Gx f k x).1:=by
   intro f;induction f with
   |zero=>intro k x u;exact u
   |succ f ih=>
    intro k x u;rw[Gx];split
    ·exact ih _ _ oM
    ·exact u
  have q:(2:Nat)^600<10^400:=dM;have b:=v 2000 m d.exp c;have e1:n=(Gx 2000 m d.exp).1:=by rw[j]
  have p:e=(Gx 2000 m d.exp).2:=by rw[j]
  subst e1;subst p;exact⟨Jl hh.2.2 (I9 t q),oM,oM,b⟩
 ·cases h
def Qbm(h:n<10^400):Nt (Qf (Xh (dN n)))=if n<18446744073709551616 then(n,true)else(0,false):=by
 unfold Nt;rw[BN,EO (BM dM h),M7];by_cases j:n<18446744073709551616<;>simp[j]
def Qhl(r:Nat × Bool):Q0:=.tuple #[.int .u64 (r.1:Int),.bool r.2]
def GM{P Q:Prop}(h:Q)(f:Wz Q->P:=by
 intro zz;go_at_call 147;refine(hRI _).mono ?_;rintro e w1 ⟨rfl,hk1⟩;have hB1:=hk1.s (Qt w _);have q0:=Q1 hB1;revert w1 hk1 hB1 q0;exact zz.o):P:=f ⟨h⟩
def GN{P Q:Prop}(h:Q)(f:Wz Q->P:=by
 intro zz;go_at_call 204;refine(hWD _).mono ?_;rintro e w2 ⟨rfl,hk2⟩;have hB2:=hk2.s hB1;have r0:=Q1 (Qb (o:=.cells #[i6 52,i6 11,i6 64] 215) hB2);revert w2 hk2 hB2 r0;exact zz.o):P:=f ⟨h⟩
def GO{P Q:Prop}(h:Q)(f:Wz Q->P:=by
 intro zz;go_at_call 205;refine(hWH _ Xd).mono ?_;rintro e w3 ⟨rfl,hk3⟩;unfold qH;have hB3:=hk3.s (Qb hB2);have s0:=Q1 hB3;have hF3:=hk3.s (Qt w2 _);have f0:=Q1 hF3;revert w3 hk3 hB3 s0 hF3 f0;exact zz.o):P:=f ⟨h⟩
def mC{P Q:Prop}(h:Q)(f:Wz Q->P:=by
 intro zz;go_at_call 206;refine(hTO _ Xd).mono ?_;rintro e w4 ⟨rfl,hk4⟩;have hB4:=hk4.s hB3;have t0:=Q1 hB4;have hF4:=hk4.s hF3;have g0:=Q1 hF4;revert w4 hk4 hB4 t0 hF4 g0;exact zz.o):P:=f ⟨h⟩
def uL(d:Dc)(w:Qm)(hs:d.digits.size<=1099511627776)(hG:Ah N E w)(hp:AD w):
  Calls prog 128 #[FY d] w fun e w'=>e=.returned (Qhl (Kw d))/\Qd w w':=by
 have hRI:=fun W=>Yn d W hs
 have hWD:∀W,Calls prog 204 #[] W fun e w'=>e=.returned (Ir 52 11 64)/\Qd W w':=fun W=>(V0 W).mono fun e w' h=>⟨h.1,by rw[h.2];exact((Ac.refl _ _).alloc _).alloc _⟩
 by_cases hd:Q2 d=true
 case neg=>
  have hd:Q2 d=false:=by simpa using hd
  have j:Kw d=(0,false):=by unfold Kw;rw[Qe hd]
  rw[hd]at hRI;have HR:=Qc j;clear j hd;go_in;go_wp2_with(go_at_call 147;refine(hRI _).mono ?_;rintro e w1 ⟨rfl,hk1⟩);go_ret2;exact Iu
 rw[hd]at hRI
 by_cases hz:d.digits=⟨#[48]⟩
 case pos=>
  have j:Kw d=(0,true):=by unfold Kw;rw[Qa (by simp[hd]),Qe hz]
  have HR:=Qc j;obtain⟨neg,dg,ex⟩:=d;simp only at hz;subst hz;clear j hd;go_in;go_wp2_with(go_at_call 147;refine(hRI _).mono ?_;rintro e w1 ⟨rfl,hk1⟩;have q0:=Q1 (hk1.s (Qt w _)));go_ret2;exact Iu
 have a1:d≠Ju:=fun h=>hz (by rw[h];rfl)
 have af:(d.digits.toList==[48])=false:=by
  rw[X6];intro h;apply hz;rw[SO]at h;exact E6 (oU.1 h)
 have hWH:=fun W hk=>WP d W hd a1 (hp.same (w':=W) hk)
 have a5:=@OI d hd a1
 generalize hr:Fv d=r at hWH
 cases r with
 |none=>
  have v:Kw d=(0,false):=by
   unfold Kw;rw[Qa (by simp[hd]),Qa hz,hr]
  obtain⟨neg,dg,ex⟩:=d;simp only at hz af;have HR:=Qc v;clear v hd a1 a5 hr;go_in;go_wp2_with(first
   | (refine GM ?_;intro w1 hk1 hB1 q0)
   | (refine GN ?_;intro w2 hk2 hB2 r0)
   | (refine GO ?_;intro w3 hk3 hB3 s0 hF3 f0))
  go_ret2;exact⟨by rw[HR.out];rfl,Xd⟩
 |some r=>
  obtain⟨n,e⟩:=r;obtain⟨hn,b6,b9,b8⟩:=a5 hr;have v:Kw d=if 18446744073709551616<=n∨53<Zl n then(0,false)else(Kg 52 64 (if d.neg then 1 else 0) (e-(53-Zl n:Nat)+1075).toNat (n<<<(53-Zl n)&&&Qw 52),true):=by
   unfold Kw;rw[Qa (by simp[hd]),Qa hz,hr]
  have b7:(Xh (dN n)).size<=400:=by rw[Jz];exact BM dM hn
  have hTO:=fun W (hk:Qd w W)=>ZM (Xh (dN n)) W (hG.same hk) oM
  rw[Qbm hn]at hTO;obtain⟨neg,dg,ex⟩:=d;simp only at hz af v;clear hn hd a1 a5 hr;by_cases t:n<18446744073709551616
  case neg=>
   have j:Kw ⟨neg,dg,ex⟩=(0,false):=by rw[v,Qe (.inl oM)]
   rw[Qa t]at hTO;have HR:=Qc j;clear v j t;go_in;go_wp2_with(first
    | (refine GM ?_;intro w1 hk1 hB1 q0)
    | (refine GN ?_;intro w2 hk2 hB2 r0)
    | (refine GO ?_;intro w3 hk3 hB3 s0 hF3 f0)
    | (refine mC ?_;intro w4 hk4 hB4 t0 hF4 g0))
   go_quiet (first| (go_at_call 207;exact FB (bits_Len64 0 _ oM oM)));go_wp2;go_ret2;exact⟨by rw[HR.out];rfl,Xd⟩
  case pos=>
   rw[Qe t]at hTO;have ad:=Gq n t;obtain⟨bl,x⟩:∃b,Zl n=b:=⟨_,rfl⟩;have a6:n<2^bl:=by
    rw[<-x];unfold Zl;rw[Qa oM];exact Nat.lt_log2_self
   have ac:∀W:Qm,Calls prog 207 #[.int .u64 (n:Int)] W fun e w'=>e=.returned (i6 (bl:Int))/\w'=W:=fun W=>by
    have h:=bits_Len64 n W oM oM;rw[Ig,<-ad,x]at h;exact h
   have b1:bl<=64:=by rw[<-x];exact ED 64 n t
   rw[x]at v;clear x ad;by_cases b2:53<bl
   case pos=>
    have j:Kw ⟨neg,dg,ex⟩=(0,false):=by rw[v,Qe (.inr b2)]
    have HR:=Qc j;have b4:decide ((53:Int)-(bl:Int)<0)=true:=by simp;omega
    clear v j a6;go_in;go_wp2_with(first
     | (refine GM ?_;intro w1 hk1 hB1 q0)
     | (refine GN ?_;intro w2 hk2 hB2 r0)
     | (refine GO ?_;intro w3 hk3 hB3 s0 hF3 f0)
     | (refine mC ?_;intro w4 hk4 hB4 t0 hF4 g0))
    go_quiet (first| (go_at_call 207;exact FB (ac _)));go_wp2;go_ret2;exact⟨by rw[HR.out];rfl,Xd⟩
   case neg=>
    obtain⟨y,ah⟩:∃s,53-bl=s:=⟨_,rfl⟩;have j:Kw ⟨neg,dg,ex⟩=(Kg 52 64 (if neg then 1 else 0) (e-(y:Nat)+1075).toNat (n<<<y&&&Qw 52),true):=by
     rw[v,Qa oM,ah]
    obtain⟨X,hX⟩:=X0 ((e-(y:Nat)+1075).toNat);have ae:X<=2047:=oM;have a2:e-(y:Int)+1075=(X:Int):=oM;have b3:y<=53:=oM;have b5:(53:Int)-(bl:Int)=(y:Int):=oM;have a3:n*2^y<18446744073709551616:=by
     have h1:n*2^y<2^bl*2^y:=(Nat.mul_lt_mul_right (Hn dM)).2 a6;rw[<-Cb,show bl+y=53 by omega]at h1;exact I9 h1 dM
    have a7:n<<<y<18446744073709551616:=by rw[Y5];exact a3
    have aa:IntKind.u64.wrap ((n:Int)*2^y)=((n<<<y:Nat):Int):=by
     rw[Y5,show((n:Int)*2^y)=((n*2^y:Nat):Int) by push_cast;rfl,X7 oM oM]
    have ab:bits .and .u64 ((n<<<y:Nat):Int) ((Qw 52:Nat):Int)=((n<<<y&&&Qw 52:Nat):Int):=FL _ _ a7 dM;have k:n<<<y&&&Qw 52<18446744073709551616:=Jl Nat.and_le_left a7;rw[hX]at j;have HR:=Qc j;generalize hF:n<<<y=F at aa ab k HR;replace a2:=Qc a2;clear v j a6 ah a3 hX a7 hF;go_in;go_wp2_with(first
     | (refine GM ?_;intro w1 hk1 hB1 q0)
     | (refine GN ?_;intro w2 hk2 hB2 r0)
     | (refine GO ?_;intro w3 hk3 hB3 s0 hF3 f0)
     | (refine mC ?_;intro w4 hk4 hB4 t0 hF4 g0))
    go_quiet (first| (go_at_call 207;exact FB (ac _)));generalize ag:w4.drewN nq=w5;have a9:Qd w4 w5:=by rw[<-ag];exact Xd
    have b0:=a9.s hB4;have u:=a9.s hF4;clear ag t0 s0 r0 q0 f0 g0;have t0:=Q1 b0;have g0:=Q1 u;have a4:Qd w w5:=Xd;cases neg with
    |false=>
     go_upto_region 16 with fail;refine(Vd (n:=0)).1 ?_;refine Ja (n:=0) (fun X=>X.heap[w2.heap.size]? =some (.cells #[i6 52,i6 11,i6 64] 215 (0,0))/\Qd w5 X) reads (fun _=>trivial) rfl kM kM ⟨u,(Ac.refl _ _).drew⟩ ?_;repeat refine sX ?_
     refine Kd rfl rfl ?_;intro K m;go_simp;refine(Qr (Gp 52 11 64 _ oM oM)).mono ?_;rintro e w6 ⟨rfl,f⟩;have q:Qd w5 w6:=by rw[f];exact((Ac.refl _ _).drew).alloc _
     have c:=q.s u;refine m _ _ ⟨c,q⟩ ?_;clear m K f;have v0:=Q1 c;repeat refine sX ?_
     refine Kd rfl rfl ?_;intro K m;go_simp;refine(Qr (Xk 52 _ oM)).mono ?_;rintro e w7 ⟨rfl,h9⟩;replace h9:=h9.symm;subst h9;refine m _ _ ⟨q.s u,q⟩ ?_;clear m K;repeat refine sX ?_
     refine Kd rfl rfl ?_;intro K m;go_simp;have a0:IntKind.i64.wrap (IntKind.i64.wrap (IntKind.i64.wrap (e-(y:Int))+52)+((Qw 10:Nat):Int))=(X:Int):=by
      have h:=a2.out;have a8:Qw 10=1023:=dM;rw[a8,BW,BW,BW];omega
     rw[a0];refine(Qr (Kh 52 11 64 0 X (F&&&Qw 52) _ (.inr (.inr rfl)) oM oM ae k)).mono ?_;rintro e' w8 ⟨rfl,p⟩;have z:=q.trans p;refine m _ _ ⟨p.s c,z⟩ ?_;clear m K a0;repeat refine sX ?_
     refine Jc ?_;go_wp2;go_ret2;exact⟨by rw[HR.out];rfl,a4.trans z⟩
    |true=>
     go_upto_region 16 with fail;refine(Vd (n:=0)).1 ?_;refine Ja (n:=0) (fun X=>X.heap[w2.heap.size]? =some (.cells #[i6 52,i6 11,i6 64] 215 (0,0))/\Qd w5 X) reads (fun _=>trivial) rfl kM kM ⟨u,(Ac.refl _ _).drew⟩ ?_;repeat refine sX ?_
     refine Kd rfl rfl ?_;intro K m;go_simp;refine(Qr (Gp 52 11 64 _ oM oM)).mono ?_;rintro e w6 ⟨rfl,f⟩;have q:Qd w5 w6:=by rw[f];exact((Ac.refl _ _).drew).alloc _
     have c:=q.s u;refine m _ _ ⟨c,q⟩ ?_;clear m K f;have v0:=Q1 c;repeat refine sX ?_
     refine Kd rfl rfl ?_;intro K m;go_simp;refine(Qr (Xk 52 _ oM)).mono ?_;rintro e w7 ⟨rfl,h9⟩;replace h9:=h9.symm;subst h9;refine m _ _ ⟨q.s u,q⟩ ?_;clear m K;repeat refine sX ?_
     refine Kd rfl rfl ?_;intro K m;go_simp;have a0:IntKind.i64.wrap (IntKind.i64.wrap (IntKind.i64.wrap (e-(y:Int))+52)+((Qw 10:Nat):Int))=(X:Int):=by
      have h:=a2.out;have a8:Qw 10=1023:=dM;rw[a8,BW,BW,BW];omega
     rw[a0];refine(Qr (Kh 52 11 64 1 X (F&&&Qw 52) _ (.inr (.inr rfl)) oM oM ae k)).mono ?_;rintro e' w8 ⟨rfl,p⟩;have z:=q.trans p;refine m _ _ ⟨p.s c,z⟩ ?_;clear m K a0;repeat refine sX ?_
     refine Jc ?_;go_wp2;go_ret2;exact⟨by rw[HR.out];rfl,a4.trans z⟩
def XR{u:Nat}(hu:u<18446744073709551616):(Xw u).size<=20:=by
 rw[<-Q9,H5];exact BM dM (I9 hu dM)
def GP(neg:Bool)(u:Nat)(w:Qm)(hu:u<18446744073709551616)(hp:AD w):
  Calls prog 131 #[.bool neg,.int .u64 (u:Int)] w fun e w'=>e=.returned (FY (Fw neg u))/\Qd w w':=by
 have m:=XR hu
 have q:=fun W=>I4 neg (Xw u) 0 W oM oM
 have v:=fun W t=>Pv u W hu (hp.same (w':=W) t)
 have j:Fw neg u=(Jo neg (Xw u) 0).1:=rfl
 obtain⟨⟨⟨n,d,x⟩,e⟩,f⟩:∃r,Jo neg (Xw u) 0=r:=⟨_,rfl⟩
 rw[f]at q j
 generalize hs:Xw u=s at q v
 replace j:=Qc j
 clear f hs m
 go_in
 go_wp2_with(first
  | (go_at_call 215;refine(v _ Xd).mono ?_;rintro e w1 ⟨rfl,b⟩)
  | (go_at_call 214;refine(q _).mono ?_;rintro e k ⟨rfl,c⟩;have z:=Qb (o:=.cells #[.bool n,.string d,i6 x] 23) (c.same w.heap.size _ (b.same w.heap.size _ (Qt w _) trivial) trivial);have p:=Jd z;have q0:=Q1 z))
 have y:Qd w (k.alloc (.cells #[.bool n,.string d,i6 x] 23)):=Xd
 refine Xs (Dv rfl _ _ w.heap.size 23 _ (0,0) _ rfl (Qk (Qk (Qk z 0 _) 1 _) 2 _) underlying23 rfl kM) rfl ⟨by rw[j.out];rfl,?_⟩
 exact((y.setCell _ fun o _ _ h=>absurd h (J0 _)).setCell _ fun o _ _ h=>absurd h (J0 _)).setCell _ fun o _ _ h=>absurd h (J0 _)
def OJ(h:Q2 d=true):(Rb d).hd.ok:=by
 have q:d.digits.size<=100/\ -100<=d.exp/\d.exp<=100:=by
  by_cases j:d=Ju
  ·subst j;decide
  ·have:=Cr h j;omega
 refine⟨by show(-9223372036854775808:Int)<=3/\(3:Int)<=_;omega,by show _<=d.exp/\d.exp<=_;omega,by show(-9223372036854775808:Int)<=0/\(0:Int)<=_;omega,by show 0<18446744073709551616;omega,by show d.digits.size<=_;omega,by show(⟨#[]⟩:Qo).size<=_;decide⟩
def qI(neg:Bool)(dg:Qo):Prop:=Xb (Qf dg)=true/\(neg=true->0<valOf (Qf dg))
def GQ{P Q:Prop}(h:Q)(f:Wz Q->P:=by
 intro zz;go_at_call 214;refine(hmk _).mono ?_;rintro e w2 ⟨rfl,hk2⟩;have hZ2:=hk2.s hZ0;revert w2 hk2 hZ2;exact zz.o):P:=f ⟨h⟩
def GR(S:Qz)(neg:Bool)(dg:Qo)(w:Qm)(hG:Ah N E w)(hok:qI neg dg)(hS:∀k,w.heap.size<=k->S k):
  Calls prog 132 #[.bool neg,.string dg] w fun e w'=>∃v,e=.returned (Qu (Cm neg dg).hd v)/\Ad S w' (Cm neg dg).l v/\(Cm neg dg).hd.ok/\Qd w w':=by
 obtain⟨hr,af⟩:=hok
 obtain⟨b4,b5,bd⟩:=Jm hr
 have hmk:=fun W=>I4 neg dg 0 W oM oM
 have y:=C7 neg dg 0
 obtain⟨T,hT⟩:=X0 (Cm neg dg)
 have q:T=(if(Jo neg dg 0).2=0/\Q5 (Rb (Jo neg dg 0).1) 2=0 then Rb (Jo neg dg 0).1 else dO (if neg then 3 else 2) (.node {Qh 6 with s:=Xh (Jb 400 (valOf (Qf dg)-if neg then 1 else 0))} [])):=by rw[<-hT];rfl
 rw[hT]
 obtain⟨⟨⟨n,d,x⟩,e⟩,b9⟩:∃r,Jo neg dg 0=r:=⟨_,rfl⟩
 rw[b9]at hmk q y
 have ae:=fun W (hk:Qd w W) (he:e=0)=>G8 2 (Rb ⟨n,d,x⟩) (.slice none 0 0) W (hG.same hk) (by show 1+0<=_;omega) (Ad.nil _ _) (OJ (y he))
 have f:=fun W hk (h:neg=true)=>lV dg W oM hr (af h) (hG.same (w':=W) hk).pow
 have bf:valOf (Qf dg)<256^400:=by
  have h4:=EF _ b4;refine Cf h4 (Qj (Rj dM (by rw[Q9];exact b5)) (by decide:(10:Nat)^400<=256^400))
 have a5:∀W,Qd w W->neg=false->Calls prog 217 #[.string dg] W fun e w'=>e=.returned (Pw (Jb 400 (valOf (Qf dg)-if neg then 1 else 0),0))/\Qd W w':=by
  intro W hk h;have h2:=OH dg W oM;rw[h];unfold WM at h2;rw[hr]at h2;exact h2
 have m:∀W,Qd w W->neg=true->Calls prog 217 #[.string (Xh (dN (valOf (Qf dg)-1)))] W fun e w'=>e=.returned (Pw (Jb 400 (valOf (Qf dg)-if neg then 1 else 0),0))/\Qd W w':=by
  intro W hk h;have b6:=(eS hr (af h)).2.1;have h2:=OH (Xh (dN (valOf (Qf dg)-1))) W (by have:=(Jm (s:=Xh (dN (valOf (Qf dg)-1))) (by rw[BN];exact b6)).2.1;omega);rw[h];unfold WM at h2;rw[BN,b6,M7]at h2;exact h2
 obtain⟨ba,bb,bc,b3⟩:=IT 400 (valOf (Qf dg)-if neg then 1 else 0) (by split<;>omega)
 generalize bg:Jb 400 (valOf (Qf dg)-if neg then 1 else 0)=bs at a5 m q b3
 have b8:({Qh 6 with s:=Xh bs}:Hd).ok:=by
  refine⟨by show(-9223372036854775808:Int)<=6/\(6:Int)<=_;omega,by show(-9223372036854775808:Int)<=0/\(0:Int)<=_;omega,by show(-9223372036854775808:Int)<=0/\(0:Int)<=_;omega,by show 0<18446744073709551616;omega,by show(⟨#[]⟩:Qo).size<=_;decide,by show(Xh bs).size<=_;rw[Jz];omega⟩
 have aa:∀u:Nat,u<=10->({Qh 9 with u:=u}:Hd).ok:=fun u hu=>
  ⟨by show(-9223372036854775808:Int)<=9/\(9:Int)<=_;omega,by show(-9223372036854775808:Int)<=0/\(0:Int)<=_;omega,by show(-9223372036854775808:Int)<=0/\(0:Int)<=_;omega,by show u<18446744073709551616;omega,by show(⟨#[]⟩:Qo).size<=_;decide,by show(⟨#[]⟩:Qo).size<=_;decide⟩
 have a4:=fun(u:Nat) W (hk:Qd w W) (hz:w.heap.size<W.heap.size)=>M3 (fun b=>S b/\b≠w.heap.size) u {Qh 6 with s:=Xh bs} [] (.slice none 0 0) W b8 (Ad.nil _ _) fun k h=>⟨hS k (Qj hk.size h),oM⟩
 obtain⟨s1,b2⟩:∃s,Xh (dN (valOf (Qf dg)-1))=s:=⟨_,rfl⟩
 have f:∀W,Qd w W->neg=true->Calls prog 216 #[.string dg,.string ⟨#[49]⟩] W fun e w'=>e=.returned (.tuple #[.string s1,i6 0])/\Qd W w':=by
  intro W hk h;have h2:=f W hk h;rw[<-b2];exact h2
 rw[b2]at m
 have HR:=Qc q
 clear q ba bb bc b3 bg b2 bf hr af b4 b5 bd b9
 by_cases hA:e=0/\Q5 (Rb ⟨n,d,x⟩) 2=0
 case pos=>
  obtain⟨he,hc⟩:=hA;subst he;have q:T=Rb ⟨n,d,x⟩:=by rw[HR.out,Qe ⟨rfl,hc⟩]
  have hok:=OJ (y rfl);have ab:∀W,Qd w W->Calls prog 20 #[Qu {Qh 3 with d:=⟨n,d,x⟩} (.slice none 0 0),i6 2] W fun e w'=>e=.returned (i6 0)/\Qd W w':=fun W hk=>by
   have h2:=ae W hk rfl;rw[hc]at h2;exact h2
  subst q;clear hc y HR hT ae f a5 m a4;go_in;go_wp2_with(first
   | (go_at_call 214;refine(hmk _).mono ?_;rintro e w2 ⟨rfl,hk2⟩)
   | (go_at_call 20;refine(ab _ Xd).mono ?_;rintro e w3 ⟨rfl,ac⟩;have be:=ac.same (w2.heap.size+1) (.cells #[i6 3,.bool false,.bool n,.string d,i6 x,.int .u64 0,i6 0,.string ⟨#[]⟩,.slice none 0 0] 27 (0,0)) (Ql sM) trivial;have q0:=Qi be;have a7:=ac.same w.heap.size (.cells zR 27 (0,0)) (Qb (Qb (hk2.s (Qt w _)))) trivial;have z0:=Qi a7;have ag:∀j,w3.frozen? (ad w.heap.size j)=false:=Je a7))
  obtain⟨h9,t⟩:=FM a7 (i6 3) (.bool false) (.bool n) (.string d) (i6 x) (.int .u64 0) (i6 0) (.string ⟨#[]⟩) (.slice none 0 0);have b7:Qd w w3:=Xd;refine DS rfl rfl h9 rfl ⟨_,rfl,Ad.nil _ _,hok,?_⟩;exact Ho b7 t fun k o hk=>(Ku hk)
 case neg=>
  have q:T=dO (if neg then 3 else 2) (.node {Qh 6 with s:=Xh bs} []):=by rw[HR.out,Qa hA]
  have hZ0:=Qt w (.cells zR 27);clear HR hT;by_cases he:e=0
  ·subst he;have hc:Q5 (Rb ⟨n,d,x⟩) 2≠0:=fun h=>hA ⟨rfl,h⟩
   obtain⟨c,b0⟩:=X0 (Q5 (Rb ⟨n,d,x⟩) 2);have ab:∀W,Qd w W->Calls prog 20 #[Qu {Qh 3 with d:=⟨n,d,x⟩} (.slice none 0 0),i6 2] W fun e w'=>e=.returned (i6 c)/\Qd W w':=fun W hk=>by
    have h2:=ae W hk rfl;rw[b0]at h2;exact h2
   rw[b0]at hc;have bh:(c==0)=false:=X6.2 hc;clear b0 hc ae hA y;cases neg with
   |false=>
    have a3:∀W,Qd w W->Calls prog 217 #[.string dg] W fun e w'=>e=.returned (Pw (bs,0))/\Qd W w':=fun W hk=>a5 W hk rfl
    have a0:=a4 2;subst q;clear a5 m f a4;go_in;go_wp2_with(first
     | (refine GQ ?_;intro w2 hk2 hZ2)
     | (go_at_call 20;refine(ab _ Xd).mono ?_;rintro e w3 ⟨rfl,ac⟩;have a7:=ac.same w.heap.size _ (Qb (Qb hZ2)) trivial)
     | (go_at_call 217;refine(a3 _ Xd).mono ?_;rintro e w4 ⟨rfl,a8⟩;have a1:=a8.same w.heap.size _ a7 trivial)
     | (go_at_call 127;refine(a0 _ Xd (Qg a1)).mono ?_;rintro e w5 ⟨lv,rfl,p,a6⟩;have z:=a6.same w.heap.size _ a1 trivial;obtain⟨la,lc,rfl⟩:=p.Ab;have z0:=Qi z;have ag:∀j,w5.frozen? (ad w.heap.size j)=false:=Je z))
    obtain⟨h9,t⟩:=FN z 9 2 0 (.slice la 1 lc);have a2:Qd w w5:=Xd;refine DS rfl rfl h9 rfl ⟨_,rfl,((p.Af t fun b hb _ _=>hb.2).mono fun b _ hb=>hb.1),aa 2 dM,?_⟩;exact Ho a2 t fun k o hk=>(Ku hk)
   |true=>
    have a3:∀W,Qd w W->Calls prog 217 #[.string s1] W fun e w'=>e=.returned (Pw (bs,0))/\Qd W w':=fun W hk=>m W hk rfl
    have a9:∀W,Qd w W->Calls prog 216 #[.string dg,.string ⟨#[49]⟩] W fun e w'=>e=.returned (.tuple #[.string s1,i6 0])/\Qd W w':=fun W hk=>f W hk rfl
    have a0:=a4 3;subst q;clear a5 m f a4;go_in;go_wp2_with(first
     | (refine GQ ?_;intro w2 hk2 hZ2)
     | (go_at_call 20;refine(ab _ Xd).mono ?_;rintro e w3 ⟨rfl,ac⟩;have a7:=ac.same w.heap.size _ (Qb (Qb hZ2)) trivial)
     | (go_at_call 216;refine(a9 _ Xd).mono ?_;rintro e w7 ⟨rfl,ah⟩;have b1:=ah.same w.heap.size _ a7 trivial)
     | (go_at_call 217;refine(a3 _ Xd).mono ?_;rintro e w4 ⟨rfl,a8⟩;have a1:=a8.same w.heap.size _ b1 trivial)
     | (go_at_call 127;refine(a0 _ Xd (Qg a1)).mono ?_;rintro e w5 ⟨lv,rfl,p,a6⟩;have z:=a6.same w.heap.size _ a1 trivial;obtain⟨la,lc,rfl⟩:=p.Ab;have z0:=Qi z;have ag:∀j,w5.frozen? (ad w.heap.size j)=false:=Je z))
    obtain⟨h9,t⟩:=FN z 9 3 0 (.slice la 1 lc);have a2:Qd w w5:=Xd;refine DS rfl rfl h9 rfl ⟨_,rfl,((p.Af t fun b hb _ _=>hb.2).mono fun b _ hb=>hb.1),aa 3 dM,?_⟩;exact Ho a2 t fun k o hk=>(Ku hk)
  ·have c0:(e==0)=false:=X6.2 he;clear ae hA y he;cases neg with
   |false=>
    have a3:∀W,Qd w W->Calls prog 217 #[.string dg] W fun e w'=>e=.returned (Pw (bs,0))/\Qd W w':=fun W hk=>a5 W hk rfl
    have a0:=a4 2;subst q;clear a5 m f a4;go_in;go_wp2_with(first
     | (refine GQ ?_;intro w2 hk2 hZ2)
     | (go_at_call 217;refine(a3 _ Xd).mono ?_;rintro e w4 ⟨rfl,a8⟩;have a1:=a8.same w.heap.size _ (Qb hZ2) trivial)
     | (go_at_call 127;refine(a0 _ Xd (Qg a1)).mono ?_;rintro e w5 ⟨lv,rfl,p,a6⟩;have z:=a6.same w.heap.size _ a1 trivial;obtain⟨la,lc,rfl⟩:=p.Ab;have z0:=Qi z;have ag:∀j,w5.frozen? (ad w.heap.size j)=false:=Je z))
    obtain⟨h9,t⟩:=FN z 9 2 0 (.slice la 1 lc);have a2:Qd w w5:=Xd;refine DS rfl rfl h9 rfl ⟨_,rfl,((p.Af t fun b hb _ _=>hb.2).mono fun b _ hb=>hb.1),aa 2 dM,?_⟩;exact Ho a2 t fun k o hk=>(Ku hk)
   |true=>
    have a3:∀W,Qd w W->Calls prog 217 #[.string s1] W fun e w'=>e=.returned (Pw (bs,0))/\Qd W w':=fun W hk=>m W hk rfl
    have a9:∀W,Qd w W->Calls prog 216 #[.string dg,.string ⟨#[49]⟩] W fun e w'=>e=.returned (.tuple #[.string s1,i6 0])/\Qd W w':=fun W hk=>f W hk rfl
    have a0:=a4 3;subst q;clear a5 m f a4;go_in;go_wp2_with(first
     | (refine GQ ?_;intro w2 hk2 hZ2)
     | (go_at_call 216;refine(a9 _ Xd).mono ?_;rintro e w7 ⟨rfl,ah⟩;have b1:=ah.same w.heap.size _ (Qb hZ2) trivial)
     | (go_at_call 217;refine(a3 _ Xd).mono ?_;rintro e w4 ⟨rfl,a8⟩;have a1:=a8.same w.heap.size _ b1 trivial)
     | (go_at_call 127;refine(a0 _ Xd (Qg a1)).mono ?_;rintro e w5 ⟨lv,rfl,p,a6⟩;have z:=a6.same w.heap.size _ a1 trivial;obtain⟨la,lc,rfl⟩:=p.Ab;have z0:=Qi z;have ag:∀j,w5.frozen? (ad w.heap.size j)=false:=Je z))
    obtain⟨h9,t⟩:=FN z 9 3 0 (.slice la 1 lc);have a2:Qd w w5:=Xd;refine DS rfl rfl h9 rfl ⟨_,rfl,((p.Af t fun b hb _ _=>hb.2).mono fun b _ hb=>hb.1),aa 3 dM,?_⟩;exact Ho a2 t fun k o hk=>(Ku hk)
def JL{w:Int}(hb:b<18446744073709551616):(Xx b w).1<18446744073709551616:=by
 obtain⟨⟨u,f⟩,h⟩:∃r,Xx b w=r:=⟨_,rfl⟩;rw[h];show u<_;cases f with
 |false=>
  have y:u=0:=by
   have j:∀fr wd sign exp frac low,X2 fr wd sign exp frac low=(u,false)->u=0:=by
    intro fr wd sign exp frac low h;unfold X2 at h;split at h
    ·exact(IU h).1.symm
    ·exact absurd (IU h).2 dM
   unfold Xx at h;split at h
   ·exact(IU h).1.symm
   ·split at h
    ·exact absurd (IU h).2 dM
    ·simp only at h;split at h
     ·exact j _ _ _ _ _ _ h
     ·split at h
      ·exact j _ _ _ _ _ _ h
      ·split at h
       ·exact j _ _ _ _ _ _ h
       ·split at h
        ·exact j _ _ _ _ _ _ h
        ·exact(IU h).1.symm
  rw[y];decide
 |true=>
  have v:=MS hb h;unfold Kx at v;cases hf:Gf w with
  |none=>rw[hf]at v;exact absurd (IU v).2 dM
  |some q=>
   obtain⟨fr,c,wd⟩:=q;rw[hf]at v;simp only at v;by_cases z:wd<Zl u
   ·rw[Qe z]at v;exact absurd (IU v).2 dM
   ·have n:wd<=64:=by
     unfold Gf at hf;repeat' (split at hf)
     all_goals first| (cases hf;decide)|cases hf
    unfold Zl at z;by_cases y:u=0
    ·rw[y];decide
    ·rw[Qa y]at z;have m:u<2^(Nat.log2 u+1):=Nat.lt_log2_self;exact Cf m (Rj dM oM:_<=2^64)
def mD{e:Int}(h1: -100<=e)(h2:e<=100):(Lib.itoa e).length<=4:=by
 have hd:∀n:Nat,n<=100->(Lib.decDigits n).length<=3:=fun n j=>by
  have:=BM (k:=3) dM (show n<10^3 by omega);rw[eK,Vq]at this;exact this
 unfold Lib.itoa;split
 ·rw[Xf];have:=hd e.natAbs oM;first|omega| (have:=hd (-e).toNat oM;omega)
 ·first| (have:=hd e.natAbs oM;omega)| (have:=hd e.toNat oM;omega)
def JM(h:Q2 d=true):(Z2 d).1.size<=300:=by
 have v:d.digits.size<=100/\ -100<=d.exp/\d.exp<=100:=by
  by_cases j:d=Ju
  ·subst j;decide
  ·have:=Cr h j;omega
 have j:∀n:Int,(I6 n).size=n.toNat:=fun n=>by show(List.replicate n.toNat (48:UInt8)).toArray.size=_;simp
 have z:(G9 d).size<=250:=by
  unfold G9;simp only;have y:Kt d.exp 20=true-> -20<=d.exp/\d.exp<=20:=fun h=>by
   unfold Kt at h;simpa using h
  split
  ·have m:=mD v.2.1 v.2.2;rw[Nw,Nw];show d.digits.size+1+(Lib.itoa d.exp).toArray.size<=250;simp only[Gj];omega
  ·rename_i q
   have:=y (by simpa using q);split
   ·rw[Nw,j];omega
   ·split
    ·rw[Nw,Nw,L7,L7];show _+1+_<=250;omega
    ·rw[Nw,Nw,j];show 2+_+_<=250;omega
 unfold Z2;rw[Qe h];show(_++G9 d:Qo).size<=300;rw[Nw];split
 ·show 1+_<=300;omega
 ·show 0+_<=300;omega
def SX{c rest:Code}(l:Nat)(hf:findLabel c l=some rest)
  (first:c.wp P (Exit.jump l (fun a w=>rest.wp P (Exit.noGoto Q) a w) Q) a w):(Code.scope c).wp P Q a w:=
 Ip l (fun a w=>rest.wp P (Exit.noGoto Q) a w) (fun _ _=>0) hf first fun a w h=>Code.wp_mono (fun e a w j=>by
  cases e<;>first|exact j|exact j.elim) h
def eV(d:Dc)(hd:Q2 d=true):(Kw d).1<18446744073709551616:=by
 unfold Kw;rw[Qa (by simp[hd])];split
 ·decide
 ·rename_i y;split
  ·decide
  ·rename_i n e v;split
   ·decide
   ·rename_i h;obtain⟨m,u,z,b⟩:=OI hd (fun h=>y (by rw[h];rfl)) v;have j:(e-(53-Zl n:Nat)+1075).toNat<2048:=oM;have q:(n<<<(53-Zl n)&&&Qw 52)<4503599627370496:=by rw[C4];exact Hj _ dM
    show Kg 52 64 _ _ _<_;rw[Ij j q];split<;>omega
def Rq(id:Int)(b:Nat):Hd:={Qh 4 with u:=(Xx b (if id=4 then max (Rt b) 32 else Rt b)).1,w:=if id=4 then max (Rt b) 32 else Rt b}
def M8(id:Int)(d:Dc):Yx id d=if Q5 (Rb d) id=0 then Rb d else if(Kw d).2 then .node (Rq id (Kw d).1) []
  else if id=4 then .node {Qh 11 with u:=100,s:=(Z2 d).1} []else dO 4 (.node (Qh 7) [Rb (Fw (decide (d.exp<0)) d.exp.natAbs),Cm d.neg d.digits]):=by
 unfold Yx
 split
 ·rfl
 ·split
  ·unfold Rq;split<;>simp
  ·rfl
structure Bt(W:Qm)(s:Nat)(id:Int)(d:Dc)(n0 n1 n2 n3 n4 n5 n6 n7 n8:Q0):Prop where
 form:W.heap[s]? =some (.cells #[.int .i64 id] 60 (0,0))
 dec:W.heap[s+1]? =some (.cells #[.bool d.neg,.string d.digits,.int .i64 d.exp] 23 (0,0))
 out:W.heap[s+1+1]? =some (.cells #[.int .i64 0,.bool false,.bool false,.string ⟨#[]⟩,.int .i64 0,.int .u64 0,.int .i64 0,.string ⟨#[]⟩,.slice none 0 0] 27 (0,0))
 exp:W.heap[s+1+1+1]? =some (.cells #[.bool false,.string ⟨#[]⟩,.int .i64 0] 23 (0,0))
 node:W.heap[s+1+1+1+1]? =some (.cells #[n0,n1,n2,n3,n4,n5,n6,n7,n8] 27 (0,0))
def Bt.same{s:Nat}{n0 n1 n2 n3 n4 n5 n6 n7 n8:Q0}(h:Bt W s id d n0 n1 n2 n3 n4 n5 n6 n7 n8)(hk:Qd W W'):Bt W' s id d n0 n1 n2 n3 n4 n5 n6 n7 n8:=
 ⟨hk.s h.form,hk.s h.dec,hk.s h.out,hk.s h.exp,hk.s h.node⟩
def Bt.put{s:Nat}{n0 n1 n2 n3 n4 n5 n6 n7 n8 m0 m1 m2 m3 m4 m5 m6 m7 m8:Q0}(h:Bt W s id d n0 n1 n2 n3 n4 n5 n6 n7 n8)(hk:Ac (fun k _=>k≠s+1+1+1+1) W W')
  (h9:W'.heap[s+1+1+1+1]? =some (.cells #[m0,m1,m2,m3,m4,m5,m6,m7,m8] 27 (0,0))):Bt W' s id d m0 m1 m2 m3 m4 m5 m6 m7 m8:=
 ⟨hk.same _ _ h.form oM,hk.same _ _ h.dec oM,hk.same _ _ h.out oM,hk.same _ _ h.exp oM,h9⟩
def Xt(h:Qd w W)(hk:Ac (fun k _=>k≠b) W W')(hb:w.heap.size<=b):Qd w W':=
 ⟨hk.os.trans h.os,hk.tape.trans h.tape,hk.output.trans h.output,Qj h.size hk.size,fun k o j _=>hk.same k o (h.same k o j trivial) (Ku j)⟩
abbrev Qbn(id:Int):Q0:=.agg #[.int .i64 id]
def WQ{P Q:Prop}(h:Q)(f:Wz Q->P:=by
 intro zz;go_at_call 20;refine(hck _ Xd).mono ?_;rintro e w3 ⟨rfl,hk3⟩;have hN3:Bt w3 w.heap.size _ d (i6 3) (.bool false) (.bool d.neg) (.string d.digits) (i6 d.exp) (.int .u64 0) (i6 0) (.string ⟨#[]⟩) (.slice none 0 0):=⟨hk3.s BR,hk3.s BR,hk3.s BR,hk3.s BR,hk3.s (Ql sM)⟩;have hkw3:Qd w w3:=Xd;clear hk3;have cf:=Q4 hN3.form;have d0:=Q1 hN3.dec;have z0:=Qi hN3.out;have x0:=Qi hN3.node;have hfz:∀j,w3.frozen? (ad (w.heap.size+1+1) j)=false:=Je hN3.out;have hfx:∀j,w3.frozen? (ad (w.heap.size+1+1+1+1) j)=false:=Je hN3.node;revert w3 hN3 hkw3 cf d0 z0 x0 hfz hfx;exact zz.o):P:=f ⟨h⟩
def GS{P Q:Prop}(h:Q)(f:Wz Q->P:=by
 intro zz;go_at_call 128;refine(hOF0 _ Xd).mono ?_;rintro e w4 ⟨rfl,hk4⟩;have hN4:=hN3.same hk4;have hkw4:=hkw3.trans hk4;clear hk4;revert w4 hN4 hkw4;exact zz.o):P:=f ⟨h⟩
def mE(S:Qz)(id:Int)(d:Dc)(w:Qm)(hG:Ah N E w)(hid:1<=id/\id<=4)(hd:Q2 d=true)(hS:∀k,w.heap.size<=k->S k):
  Calls prog 78 #[Qbn id,FY d] w fun e w'=>∃v,e=.returned (Qu (Yx id d).hd v)/\Ad S w' (Yx id d).l v/\(Yx id d).hd.ok/\Qd w w':=by
 have da:d.digits.size<=100:=by
  by_cases hz:d=Ju
  ·subst hz;decide
  ·exact(Cr hd hz).2.1
 have hck:∀W,Qd w W->Calls prog 20 #[Qu {Qh 3 with d:=d} (.slice none 0 0),i6 id] W fun e w'=>e=.returned (i6 (Q5 (Rb d) id))/\Qd W w':=fun W hk=>
  G8 id (Rb d) (.slice none 0 0) W (hG.same hk) (by show 1+0<=_;omega) (Ad.nil _ _) (OJ hd)
 generalize hc:Q5 (Rb d) id=c at hck
 have y:=M8 id d
 rw[hc]at y
 have cc:=OJ hd
 by_cases b6:c=0
 case pos=>
  subst b6;rw[Qe rfl]at y;generalize hT:Yx id d=T at y|-;subst y;clear hT hc;go_in;go_wp2;refine IN ?_;go_wp2_with(first
   | (refine WQ ?_;intro w3 hN3 hkw3 cf d0 z0 x0 hfz hfx))
  simp only[Exit.noGoto];obtain⟨x,q⟩:=FM hN3.out (i6 3) (.bool false) (.bool d.neg) (.string d.digits) (i6 d.exp) (.int .u64 0) (i6 0) (.string ⟨#[]⟩) (.slice none 0 0);refine DS rfl rfl x rfl ⟨_,rfl,Ad.nil _ _,cc,?_⟩;exact Ho hkw3 q fun k o hk=>(Ku hk)
 case neg=>
  have d7:(c==0)=false:=X6.2 b6;rw[Qa b6]at y;have af:=fun W (hk:Qd w W)=>uL d W oM (hG.same hk) (hG.same hk).pow
  have a0:=eV d hd;obtain⟨⟨b,ok⟩,hr⟩:∃r,Kw d=r:=⟨_,rfl⟩;rw[hr]at af a0 y;simp only at a0 y;have hOF0:∀W,Qd w W->Calls prog 128 #[FY d] W fun e w'=>e=.returned (.tuple #[.int .u64 (b:Int),.bool ok])/\Qd W w':=af
  cases ok with
  |true=>
   rw[Qe rfl]at y;have ba:=fun W=>Le b W a0
   generalize hL:Rt b=L at ba;have c3:L=16∨L=32∨L=64:=by
    rw[<-hL];unfold Rt;split;· exact .inl rfl
    split
    ·exact .inr (.inl rfl)
    ·exact .inr (.inr rfl)
   by_cases h4:id=4
   ·subst h4;have a1:Rq 4 b={Qh 4 with u:=(Xx b (max L 32)).1,w:=max L 32}:=by unfold Rq;rw[Qe rfl,hL]
    have ag:=fun W=>Fk b (max L 32) W a0
    have ah:=JL (w:=max L 32) a0;obtain⟨⟨u,fl⟩,hu⟩:∃r,Xx b (max L 32)=r:=⟨_,rfl⟩;rw[hu]at ag ah a1;have b2:(Rq 4 b).ok:=by
     rw[a1];exact⟨by show(-9223372036854775808:Int)<=4/\(4:Int)<=_;omega,by show(-9223372036854775808:Int)<=0/\(0:Int)<=_;omega,by show(-9223372036854775808:Int)<=max L 32/\max L 32<=_;omega,ah,by show(⟨#[]⟩:Qo).size<=_;decide,by show(⟨#[]⟩:Qo).size<=_;decide⟩
    generalize hT:Yx 4 d=T at y|-;subst y;generalize hM:max L 32=M at ag a1;have HF:=Qc a1;clear hT hc d7 hu hL c3 a1 hr af;go_in;go_wp2;refine IN ?_;go_wp2_with(first
     | (refine WQ ?_;intro w3 hN3 hkw3 cf d0 z0 x0 hfz hfx)
     | (refine GS ?_;intro w4 hN4 hkw4))
    clear x0 z0 d0 cf hfz hfx;refine(ba _).mono ?_;rintro e w5 ⟨rfl,f⟩;have z:=hN4.same f;have p:=hkw4.trans f;clear f;have u0:=Qi z.node;have a5:∀j,w5.frozen? (ad (w.heap.size+1+1+1+1) j)=false:=Je z.node;go_upto_region 9 with fail;obtain⟨x,q⟩:=FN z.node 4 0 L (.slice none 0 0);generalize b9:World.setCell (World.setCell _ _ _) _ (.slice none 0 0)=w6 at x q|-;clear b9;have b5:=z.put q x;have ac:=Xt p q oM;clear u0 a5 x q;have u0:=Qi b5.node;have a5:∀j,w6.frozen? (ad (w.heap.size+1+1+1+1) j)=false:=Je b5.node;go_upto_region 11 with fail;have x:=Qk b5.node 6 (i6 M);have q:Ac (fun k _=>k≠w.heap.size+1+1+1+1) w6 (w6.setCell (ad (w.heap.size+1+1+1+1) 6) (i6 M)):=(Ac.refl _ w6).setCell _ fun o _ hs _=>hs rfl
    generalize w6.setCell (ad (w.heap.size+1+1+1+1) 6) (i6 M)=w7 at x q|-;have b1:=b5.put q x;have b4:=Xt ac q oM;clear u0 a5 x q;have u0:=Qi b1.node;go_wp2_with fail;refine(ag _).mono ?_;rintro e w8 ⟨rfl,aa⟩;have a3:=b1.same aa;have b0:=b4.trans aa;clear aa u0;have u0:=Qi a3.node;have a5:∀j,w8.frozen? (ad (w.heap.size+1+1+1+1) j)=false:=Je a3.node;go_upto_region 12 with fail;have x:=Qk a3.node 5 (.int .u64 (u:Int));have q:Ac (fun k _=>k≠w.heap.size+1+1+1+1) w8 (w8.setCell (ad (w.heap.size+1+1+1+1) 5) (.int .u64 (u:Int))):=(Ac.refl _ w8).setCell _ fun o _ hs _=>hs rfl
    generalize w8.setCell (ad (w.heap.size+1+1+1+1) 5) (.int .u64 (u:Int))=w9 at x q|-;have a4:=a3.put q x;have b3:=Xt b0 q oM;clear u0 a5 x q;have u0:=Qi a4.node;have z0:=Qi a4.out;have hfz:∀j,w9.frozen? (ad (w.heap.size+1+1) j)=false:=Je a4.out;go_wp2_with fail;simp only[Exit.noGoto];obtain⟨x,q⟩:=FM a4.out (i6 4) (.bool false) (.bool false) (.string ⟨#[]⟩) (i6 0) (.int .u64 (u:Int)) (i6 M) (.string ⟨#[]⟩) (.slice none 0 0);refine DS rfl rfl x rfl ⟨.slice none 0 0,?_,Ad.nil _ _,b2,Xt b3 q oM⟩;show _=Ending.returned (Qu (Rq 4 b) _);rw[HF.out];rfl
   ·have d8:(id==4)=false:=X6.2 h4;have a1:Rq id b={Qh 4 with u:=(Xx b (L)).1,w:=L}:=by unfold Rq;rw[Qa h4,hL]
    have ag:=fun W=>Fk b (L) W a0
    have ah:=JL (w:=L) a0;obtain⟨⟨u,fl⟩,hu⟩:∃r,Xx b (L)=r:=⟨_,rfl⟩;rw[hu]at ag ah a1;have b2:(Rq id b).ok:=by
     rw[a1];exact⟨by show(-9223372036854775808:Int)<=4/\(4:Int)<=_;omega,by show(-9223372036854775808:Int)<=0/\(0:Int)<=_;omega,by show(-9223372036854775808:Int)<=L/\L<=_;omega,ah,by show(⟨#[]⟩:Qo).size<=_;decide,by show(⟨#[]⟩:Qo).size<=_;decide⟩
    generalize hT:Yx id d=T at y|-;subst y;replace a1:=Qc a1;clear hT hc hu hL c3 hr af h4 b6;go_in;go_wp2;refine IN ?_;go_wp2_with(first
     | (refine WQ ?_;intro w3 hN3 hkw3 cf d0 z0 x0 hfz hfx)
     | (refine GS ?_;intro w4 hN4 hkw4))
    clear x0 z0 d0 cf hfz hfx;refine(ba _).mono ?_;rintro e w5 ⟨rfl,f⟩;have z:=hN4.same f;have p:=hkw4.trans f;clear f;have u0:=Qi z.node;have a5:∀j,w5.frozen? (ad (w.heap.size+1+1+1+1) j)=false:=Je z.node;go_upto_region 9 with fail;obtain⟨x,q⟩:=FN z.node 4 0 L (.slice none 0 0);generalize b9:World.setCell (World.setCell _ _ _) _ (.slice none 0 0)=w6 at x q|-;clear b9;have b1:=z.put q x;have b4:=Xt p q oM;clear u0 a5 x q;have u0:=Qi b1.node;go_wp2_with fail;refine(ag _).mono ?_;rintro e w8 ⟨rfl,aa⟩;have a3:=b1.same aa;have b0:=b4.trans aa;clear aa u0;have u0:=Qi a3.node;have a5:∀j,w8.frozen? (ad (w.heap.size+1+1+1+1) j)=false:=Je a3.node;go_upto_region 12 with fail;have x:=Qk a3.node 5 (.int .u64 (u:Int));have q:Ac (fun k _=>k≠w.heap.size+1+1+1+1) w8 (w8.setCell (ad (w.heap.size+1+1+1+1) 5) (.int .u64 (u:Int))):=(Ac.refl _ w8).setCell _ fun o _ hs _=>hs rfl
    generalize w8.setCell (ad (w.heap.size+1+1+1+1) 5) (.int .u64 (u:Int))=w9 at x q|-;have a4:=a3.put q x;have b3:=Xt b0 q oM;clear u0 a5 x q;have u0:=Qi a4.node;have z0:=Qi a4.out;have hfz:∀j,w9.frozen? (ad (w.heap.size+1+1) j)=false:=Je a4.out;go_wp2_with fail;simp only[Exit.noGoto];obtain⟨x,q⟩:=FM a4.out (i6 4) (.bool false) (.bool false) (.string ⟨#[]⟩) (i6 0) (.int .u64 (u:Int)) (i6 L) (.string ⟨#[]⟩) (.slice none 0 0);refine DS rfl rfl x rfl ⟨.slice none 0 0,?_,Ad.nil _ _,b2,Xt b3 q oM⟩;show _=Ending.returned (Qu (Rq id b) _);rw[a1.out];rfl
  |false=>
   rw[Qa sM]at y;by_cases h4:id=4
   ·subst h4;rw[Qe rfl]at y;have c4:=fun W (hk:Qd w W)=>W6 d W (hG.same hk) oM
    have bc:=JM hd;obtain⟨⟨s,er⟩,c1⟩:∃r,Z2 d=r:=⟨_,rfl⟩;rw[c1]at c4 bc y;have bd:({Qh 11 with u:=100,s:=s}:Hd).ok:=
     ⟨by show(-9223372036854775808:Int)<=11/\(11:Int)<=_;omega,by show(-9223372036854775808:Int)<=0/\(0:Int)<=_;omega,by show(-9223372036854775808:Int)<=0/\(0:Int)<=_;omega,by show 100<18446744073709551616;omega,by show(⟨#[]⟩:Qo).size<=_;decide,by show s.size<=_;simp only at bc;omega⟩
    generalize hT:Yx 4 d=T at y|-;subst y;clear hT hc hr af c1 bc;go_in;go_wp2;refine SX (rest:=?rest) 0 ?hf ?_
    case hf=>rfl
    go_wp2_with(first
     | (refine WQ ?_;intro w3 hN3 hkw3 cf d0 z0 x0 hfz hfx)
     | (refine GS ?_;intro w4 hN4 hkw4))
    refine Ni ?_;refine⟨rfl,?_⟩;clear x0 z0 d0 cf hfz hfx;have d0:=Q1 hN4.dec;have z0:=Qi hN4.out;have hfz:∀j,w4.frozen? (ad (w.heap.size+1+1) j)=false:=Je hN4.out;go_wp2_with fail;refine(c4 _ hkw4).mono ?_;rintro e w5 ⟨rfl,f⟩;have z:=hN4.same f;have p:=hkw4.trans f;clear f z0 hfz d0;have z0:=Qi z.out;have hfz:∀j,w5.frozen? (ad (w.heap.size+1+1) j)=false:=Je z.out;go_wp2_with fail;simp only[Exit.noGoto];obtain⟨x,q⟩:=FM z.out (i6 11) (.bool false) (.bool false) (.string ⟨#[]⟩) (i6 0) (.int .u64 100) (i6 0) (.string s) (.slice none 0 0);refine DS rfl rfl x rfl ⟨_,rfl,Ad.nil _ _,bd,Xt p q oM⟩
   ·rw[Qa h4]at y;have d8:(id==4)=false:=X6.2 h4;have ch:d≠Ju:=by
     rintro rfl;have:Kw Ju=(0,true):=by unfold Kw;rw[Qa dM,Qe (show Ju.digits=⟨#[48]⟩ from rfl)]
     rw[this]at hr;exact absurd (IU hr).2 dM
    obtain⟨f1,f2,f3,f4,f5,f6⟩:=Cr hd ch;have bh:qI d.neg d.digits:=⟨f1,fun _=>f5⟩;obtain⟨m,hm⟩:=X0 d.exp.natAbs;have dc:m<=100:=oM;have df:IntKind.i64.wrap (-d.exp)= -d.exp:=by rw[BW];omega
    have dg:max d.exp (-d.exp)=(m:Int):=oM;have dd:IntKind.u64.wrap (m:Int)=(m:Int):=X7 oM oM;have cb:m=0->decide (d.exp<0)=false:=fun h=>Z4 oM
    rw[hm]at y;obtain⟨sg,cd⟩:∃b,decide (d.exp<0)=b:=⟨_,rfl⟩;rw[cd]at y cb;have c8:=fun W (hk:Qd w W)=>GP sg m W oM (hG.same hk).pow
    have ca:=(SV sg (n:=m) oM cb).1;generalize hD:Fw sg m=D at c8 ca y;have c6:=OJ ca;have c9:=fun W (hk:Qd w W) (hz:w.heap.size+5<=W.heap.size)=>GR (fun b=>S b/\w.heap.size+5<=b) d.neg d.digits W (hG.same hk) bh fun k h=>⟨hS k (Qj hk.size h),oM⟩
    obtain⟨wt,d1⟩:∃t,Cm d.neg d.digits=t:=⟨_,rfl⟩;rw[d1]at c9 y;generalize hT:Yx id d=T at y|-;subst y;clear hT hc hr af ch f1 f2 f3 f4 f5 f6 bh hm hD d1 h4;go_in;go_wp2;refine SX (rest:=?rest) 0 ?hf ?_
    case hf=>rfl
    go_wp2_with(first
     | (refine WQ ?_;intro w3 hN3 hkw3 cf d0 z0 x0 hfz hfx)
     | (refine GS ?_;intro w4 hN4 hkw4))
    refine Ni ?_;refine⟨rfl,?_⟩;clear x0 z0 d0 cf hfz hfx;have d0:=Q1 hN4.dec;go_wp2_with fail;refine(c8 _ hkw4).mono ?_;rintro e w5 ⟨rfl,f⟩;have z:=hN4.same f;have p:=hkw4.trans f;clear f d0;have y0:=Q1 z.exp;have d2:∀j,w5.frozen? (ad (w.heap.size+1+1+1) j)=false:=Je z.exp;go_upto_region 17 with fail;have a2:=Qk (Qk (Qk z.exp 0 (.bool D.neg)) 1 (.string D.digits)) 2 (i6 D.exp);have q:Ac (fun k _=>k≠w.heap.size+1+1+1) w5 (((w5.setCell (ad (w.heap.size+1+1+1) 0) (.bool D.neg)).setCell (ad (w.heap.size+1+1+1) 1) (.string D.digits)).setCell (ad (w.heap.size+1+1+1) 2) (i6 D.exp)):=
     (((Ac.refl _ w5).setCell _ fun o _ hs _=>hs rfl).setCell _ fun o _ hs _=>hs rfl).setCell _ fun o _ hs _=>hs rfl
    generalize(((w5.setCell (ad (w.heap.size+1+1+1) 0) (.bool D.neg)).setCell (ad (w.heap.size+1+1+1) 1) (.string D.digits)).setCell (ad (w.heap.size+1+1+1) 2) (i6 D.exp))=w6 at a2 q|-;have a2:w6.heap[w.heap.size+1+1+1]? =some (.cells #[.bool D.neg,.string D.digits,i6 D.exp] 23 (0,0)):=a2;have ae:=q.same _ _ z.dec oM;have d3:=q.same _ _ z.out oM;have bg:=q.same _ _ z.node oM;have c5:w.heap.size+5<=w6.heap.size:=Qg bg;have ac:=Xt p q oM;clear y0 d2 q z hN4 hN3 hkw3 hkw4 p bg;have d0:=Q1 ae;have y0:=Q1 a2;refine(Vd (n:=0)).1 ?_;refine KC (n:=0) (And.intro ae a2) ?_;simp only[Vz];repeat refine sX ?_
    refine Kd rfl rfl ?_;intro K hK;go_simp;refine(Qr (c9 w6.drew (ac.trans ((Ac.refl _ _).drew)) c5)).mono ?_;rintro e w7 ⟨v7,rfl,bf,c0,d4⟩;obtain⟨a7,c7,rfl⟩:=bf.Ab;have a9:Qd w6 w7:=Xd;refine hK _ _ ⟨a9.s ae,a9.s a2⟩ ?_;clear hK K;refine Kd rfl rfl ?_;intro K hK;go_simp;have d5:w.heap.size+5<=w7.heap.size:=Qj c5 a9.size;have cg:Ad (fun b=>S b/\w.heap.size+5<=b) (w7.alloc (.cells (Qn (Rb D).hd (.slice none 0 0)++Qn wt.hd (.slice a7 wt.l.length c7)).toArray 27)) [Rb D,wt] (.slice (some (ad w7.heap.size 0)) 2 2):=
     Qdo (Qt _ _) ⟨hS _ oM,d5⟩ c6 (Ad.nil _ _) c0 (bf.same ((Ac.refl _ _).alloc _))
    have ab:Qd w6 (w7.alloc (.cells (Qn (Rb D).hd (.slice none 0 0)++Qn wt.hd (.slice a7 wt.l.length c7)).toArray 27)):=a9.alloc _;have c2:=hK;refine hK _ (w7.alloc (.cells (Qn (Rb D).hd (.slice none 0 0)++Qn wt.hd (.slice a7 wt.l.length c7)).toArray 27)) ⟨ab.s ae,ab.s a2⟩ ?_;generalize(w7.alloc (.cells (Qn (Rb D).hd (.slice none 0 0)++Qn wt.hd (.slice a7 wt.l.length c7)).toArray 27))=w8 at cg ab|-;clear hK c2 K bf a9 d4;refine Kd rfl rfl ?_;intro K hK;go_simp;refine(Qr (DM 7 _ 2 2 w8)).mono ?_;rintro e w9 ⟨rfl,q⟩;have a8:=ab.trans q;refine hK _ _ ⟨a8.s ae,a8.s a2⟩ ?_;clear hK K;refine Kd rfl rfl ?_;intro K hK;go_simp;refine(Qr (M3 (fun b=>S b/\w.heap.size+5<=b) 4 (Qh 7) [Rb D,wt] _ w9 (K1 7 dM) (cg.same q) fun k hk=>⟨hS k (by have:=a8.size;omega),by have:=a8.size;omega⟩)).mono ?_;rintro e de ⟨db,rfl,b8,ce⟩;obtain⟨d6,d9,rfl⟩:=b8.Ab;have a6:=a8.trans ce;refine hK _ _ ⟨a6.s ae,a6.s a2⟩ ?_;clear hK K;refine BD (G5 rfl ?_);have be:=a6.s d3;have hfz:=Jd be;have m0:=Qi be;go_simp;go_wp2_with fail;simp only[Exit.noGoto];have bb:=ac.trans a6;obtain⟨x,b7⟩:=FN be 9 4 0 (.slice d6 1 d9);refine DS rfl rfl x rfl ⟨_,rfl,?_,?_,Xt bb b7 oM⟩
    ·exact(b8.Af b7 fun b hb _ _=>by have:=hb.2;omega).mono fun b _ hb=>hb.1
    ·exact⟨by show(-9223372036854775808:Int)<=9/\(9:Int)<=_;omega,by show(-9223372036854775808:Int)<=0/\(0:Int)<=_;omega,by show(-9223372036854775808:Int)<=0/\(0:Int)<=_;omega,by show 4<18446744073709551616;omega,by show(⟨#[]⟩:Qo).size<=_;decide,by show(⟨#[]⟩:Qo).size<=_;decide⟩
def OK(id:Int)(t:Aa):Aa × Int:=if Q5 t id≠0 then(.node (Qh 0) [],Q5 t id)else(t,0)
def F1{fn:Func}{p q:Tmp}(hf:fn.results=#[.cell p 27,.tmp q])(T:Array Q0)(W:Qm)(bx:Nat)(h:Hd)(lv u:Q0)(h2:T.getD p undef=.pointer (some ⟨bx,0,none⟩))(h3:T.getD q undef=u)
  (hrow:W.heap[bx]? =some (.cells #[.int .i64 h.kind,.bool h.b,.bool h.d.neg,.string h.d.digits,.int .i64 h.d.exp,.int .u64 (h.u:Int),.int .i64 h.w,.string h.s,lv] 27 (0,0))):(results fn T).run prog W=.ok (.tuple #[Qu h lv,u]) W:=by
 refine lB ?_
 intro hld
 rw[Mf hf,h2,h3]
 exact RD
def Qbo{P:Prop}(h:P:=by
 exact(((hr2.mono fun b hb h=>(⟨h,hb⟩:S b/\b<w.heap.size)).same hkw1).Af hk9 fun b hb _ _=>by have:=hb.2;omega).mono fun b _ hb=>hb.1):P:=h
def WR(S:Qz)(id:Int)(t:Aa)(lv:Q0)(w:Qm)(hG:Ah N E w)(hc:t.depth<=1099511627776)(hr:Ad S w t.l lv)(hok:t.hd.ok):
  Calls prog 50 #[Qbn id,Qu t.hd lv] w (FQ S (OK id t) w):=by
 have q:=fun W (hk:Qd w W)=>G8 id t lv W (hG.same hk) hc ((hr.mono fun _ _ _=>trivial).same hk) hok
 obtain⟨a,y,rfl⟩:=hr.Ab
 have m:OK id t=if Q5 t id≠0 then(.node (Qh 0) [],Q5 t id)else(t,0):=rfl
 generalize d:Q5 t id=c at q m
 generalize x:t.l.length=n at q|-
 have hr2:Ad S w t.l (.slice a n y):=by rw[<-x];exact hr
 clear d hr x hc
 by_cases z:c=0
 ·subst z;rw[Qa sM]at m;rw[m];clear m;go_in;go_wp2_with fail;refine(q _ Xd).mono ?_;rintro e u ⟨rfl,v⟩;have hkw1:Qd w u:=Xd;have f:u.heap[w.heap.size+1]? =some (.cells (nR t.hd (.slice a n y)) 27 (0,0)):=v.s BR;have j:u.heap[w.heap.size+1+1]? =some (.cells zR 27 (0,0)):=v.s BR;have y0:=Qi f;have r:=Qi j;have k:=Jd j;clear v q;go_wp2_with fail;obtain⟨b,hk9⟩:=Yw j t.hd (.slice a n y);refine Xs (F1 rfl _ _ (w.heap.size+1+1) t.hd (.slice a n y) (i6 0) rfl rfl b) rfl ⟨_,rfl,hok,?_,Xt hkw1 hk9 oM⟩;exact Qbo
 ·have p:(c==0)=false:=X6.2 z;rw[Qe z]at m;rw[m];clear m z;go_in;go_wp2_with fail;refine(q _ Xd).mono ?_;rintro e u ⟨rfl,v⟩;have hkw1:Qd w u:=Xd;have j:u.heap[w.heap.size+1+1]? =some (.cells zR 27 (0,0)):=v.s BR;have r:=Qi j;have k:=Jd j;clear v q;go_wp2_with fail;obtain⟨b,hk9⟩:=FN j 0 0 0 (.slice none 0 0);refine Xs (F1 rfl _ _ (w.heap.size+1+1) (Qh 0) (.slice none 0 0) (i6 c) rfl rfl b) rfl ⟨_,rfl,K1 0 dM,Ad.nil _ _,Xt hkw1 hk9 oM⟩
def qJ(S:Qz)(t:Aa)(p:List Aj)(w:Qm)(e:Ending)(w':Qm):Prop:=
 ∃v,e=.returned (.tuple #[Qu ((D8 t p).getD (.node (Qh 0) [])).hd v,.bool (D8 t p).isSome])/\((D8 t p).getD (.node (Qh 0) [])).hd.ok/\Ad S w' ((D8 t p).getD (.node (Qh 0) [])).l v/\Qd w w'
def Qhm{s:Aj}(h:¬qA t s<0):∃i,gS t s=some i/\qA t s=(i:Int):=by
 unfold qA at h|-;cases ha:gS t s with
 |none=>rw[ha]at h;exact absurd (show(-1:Int)<0 by decide) h
 |some i=>exact⟨i,rfl,rfl⟩
def Qe2{s:Aj}(h:qA t s<0):gS t s=none:=by
 unfold qA at h;cases ha:gS t s with
 |none=>rfl
 |some i=>rw[ha]at h;simp only at h;omega
def uM(h:i<l.length):Xp l i=l[i]:=by unfold Xp;rw[K9,Km h];rfl
def Qe3{x:Aj × Nat}(h:Yc t k=some x)(hk:k<t.l.length):x.2<t.l.length:=by
 unfold Yc at h;split at h
 ·rename_i j;cases h;exact j.2.2.1
 ·split at h
  ·cases h;exact hk
  ·cases h
def Lt{s:Aj}:∀k,k<=t.l.length->(s,i)∈Qx t k->i<t.l.length
 |0,_,h=>by cases h
 |k+1,hk,h=>by
  cases hc:Yc t k with
  |none=>rw[Vm hc]at h;exact Lt k oM h
  |some x=>
   by_cases hx:x.1∈(Qx t k).map Prod.fst
   ·rw[Gt hc hx]at h;exact Lt k oM h
   ·rw[Jp hc hx]at h;rcases Kn.1 h with h|h
    ·exact Lt k oM h
    ·obtain rfl:(s,i)=x:=by simpa using h
     exact Qe3 hc oM
def Qbp(S:Qz)(t:Aa)(lv pv:Q0)(p:List Aj)(w:Qm)(hG:Ah N E w)(ho:t.hd.ok)(hr:Ad S w t.l lv)(hS:∀k,w.heap.size<=k->S k)
  (h40:∀x∈t.flat,x.l.length<=40)(hp:At K3 w pv p)(hk:∀s∈p,s.key.size<=1099511627776)(hlen:p.length<=1000000):
  Calls prog 37 #[Qu t.hd lv,pv] w fun e w'=>qJ S t p w e w':=by
 have a9:=fun W (hk2:Qd w W)=>LG K3 p pv W (hG.same hk2) (hp.same hk2) hk hlen
 generalize hR:Xv p=R at a9
 have hM:D8 t p=if R then MI t p else none:=by unfold D8;rw[hR]
 obtain⟨a,ah,rfl⟩:=hr.Ab
 obtain⟨pa,pc,rfl,c7⟩:=hp.Ab
 clear hR
 cases R with
 |false=>
  rw[Qa sM]at hM;have HM:=Qc hM;clear hM;go_in;go_wp2_with fail;refine(a9 _ Xd).mono ?_;rintro e w1 ⟨rfl,a1⟩;have r:Qd w w1:=Xd;have n:w1.heap[w.heap.size+1]? =some (.cells zR 27 (0,0)):=a1.s BR;have z0:=Qi n;have a5:=Jd n;clear a1;go_wp2_with fail;obtain⟨h9,z⟩:=FN n 0 0 0 (.slice none 0 0);refine Xs (F1 rfl _ _ (w.heap.size+1) (Qh 0) (.slice none 0 0) (.bool false) rfl rfl h9) rfl ⟨.slice none 0 0,by rw[HM.out];rfl,by rw[HM.out];exact K1 0 dM,by rw[HM.out];exact Ad.nil _ _,Xt r z oM⟩
 |true=>
  rw[Qe rfl]at hM;replace hM:=Qc hM;have be:Ad (fun b=>S b/\b<w.heap.size) w t.l (.slice a t.l.length ah):=hr.mono fun b hb h=>⟨h,hb⟩
  go_in;go_wp2_with fail;refine(a9 _ Xd).mono ?_;rintro e w1 ⟨rfl,a1⟩;have r:Qd w w1:=Xd;have a3:=a1.same w.heap.size _ (Qb (Qt w _)) trivial;have n:w1.heap[w.heap.size+1]? =some (.cells zR 27 (0,0)):=a1.s BR;clear a1;go_wp2_with fail;go_loopw [15] (fun iv wr=>∃(i:Nat) (x:Aa) (a':Jr) (c':Nat),iv=i6 i/\i<=p.length/\wr.heap[w.heap.size]? =some (.cells (nR x.hd (.slice a' x.l.length c')) 27 (0,0))/\wr.heap[w.heap.size+1]? =some (.cells zR 27 (0,0))/\
    Ad (fun b=>S b/\b<w.heap.size) wr x.l (.slice a' x.l.length c')/\x.hd.ok/\(∀y∈x.flat,y.l.length<=40)/\MI t p=MI x (p.drop i)/\Qd w wr) (fun iv _=>p.length-(RowKit.intOf iv).toNat)
  case atStart=>exact⟨0,t,a,ah,rfl,Xi _,a3,n,be.same r,ho,h40,rfl,r⟩
  case round=>
   obtain⟨i,x,a',c',rfl,hi,a3,n,ab,bg,b6,j,a4⟩:=hrel;by_cases ag:i<p.length
   ·have a8:p.drop i=p[i]::p.drop (i+1):=by rw[Dq ag]
    rw[a8,MI]at j;obtain⟨b,bc,e9,_,c9,af⟩:=At.get (hp.same a4) i ag;have a2:=fun W (hk:Qd wr W)=>Qhd x (.slice a' x.l.length c') p[i] W ((ab.mono fun _ _ _=>trivial).same hk)
    generalize b5:p[i]=st at a2 j af;subst e9;have k0:wr.cell? (ad b (bc+i*2))=some (i6 st.index):=af 0 _ rfl;have k1:wr.cell? (ad b (bc+i*2+1))=some (.string st.key):=af 1 _ rfl;have m0:=Qi (Qb (o:=.cells #[i6 st.index,.string st.key] 62) a3);have c4:(i:Int)< (p.length:Int):=oM;by_cases u:qA x st<0
    ·have b4:=Qe2 u;have f:D8 t p=none:=by rw[hM.out,j,b4]
     have HF:=Qc f;generalize hq:qA x st=q at a2 u;have cb:decide (q<0)=true:=Kp u;clear b4 f j hq a8 u b5;go_wp2_with fail;refine(a2 _ ((Ac.refl _ _).alloc _)).mono ?_;rintro e w3 ⟨rfl,a0⟩;have v:Qd wr w3:=Xd;have d:=a4.trans v;have c:=v.s n;clear m0 a0;have z0:=Qi c;have a5:=Jd c;go_wp2_with fail;obtain⟨h9,z⟩:=FN c 0 0 0 (.slice none 0 0);refine Xs (F1 rfl _ _ (w.heap.size+1) (Qh 0) (.slice none 0 0) (.bool false) rfl rfl h9) rfl ⟨.slice none 0 0,by rw[HF.out];rfl,by rw[HF.out];exact K1 0 dM,by rw[HF.out];exact Ad.nil _ _,Xt d z oM⟩
    ·obtain⟨m,hm,b3⟩:=Qhm u;have ac:m<x.l.length:=Lt _ (Q6 _) (Fq.1 hm);obtain⟨c2,xa,c8,ex,cc,ba⟩:=ab.shape;cases ex;obtain⟨b2,c5,ca,e2,ce,⟨c3,f2,c0⟩,ae,a6,a7⟩:=ba m ac;have b1:Xp x.l m=x.l[m]:=uM ac;rw[hm]at j;simp only at j;rw[b1]at j;have b8:∀y∈(x.l[m]).flat,y.l.length<=40:=fun y hy=>b6 y (by rw[<-Aa.eta x];exact K4 x.hd x.l _ (Zp ac) y hy)
     generalize hy:x.l[m]=y at j b8 ae a6 a7;rw[b3]at a2;subst e2;obtain⟨ya,yc,rfl⟩:=ae.Ab;have bd:=Qc j;have cd:(m:Int)< (x.l.length:Int):=oM;have c6:decide ((m:Int)<0)=false:=Z4 oM;clear j hm b3 u b1 hy a8 b5 ba c2;go_wp2_with fail;refine(a2 _ ((Ac.refl _ _).alloc _)).mono ?_;rintro e w3 ⟨rfl,a0⟩;have v:Qd wr w3:=Xd;have d:=a4.trans v;have c:=v.s n;have aa:=v.s a3;have b9:=Qy v a7;clear m0 a0 a2;have z0:=Rv b9;have m0:=Qi aa;have a5:=Jd aa;go_upto_region 10 with fail;obtain⟨h9,z⟩:=Yw aa y.hd (.slice ya y.l.length yc);generalize World.setCell (World.setCell _ _ _) _ (.slice ya y.l.length yc)=w6 at h9 z|-;have c1:=z.same _ _ c oM;have b0:=Xt d z (Q6 _);have bh:=(ae.same v).Af z fun b hb _ _=>by have:=hb.2;omega
     clear z0 m0 a5;go_wp2_with fail;go_roundw
     case rel=>exact⟨i+1,y,ya,yc,by go_num,oM,h9,c1,bh,a6,b8,bd.out,b0⟩
     case measure=>simp[RowKit.intOf];omega
   ·obtain rfl:i=p.length:=oM;rw[FR,MI]at j;have f:D8 t p=some x:=by rw[hM.out,j]
    have HF:=Qc f;have bf:=R8 x b6;clear f j;have m0:=Qi a3;go_wp2_with fail;refine(bf (fun b=>S b/\b≠w.heap.size+1) (.slice a' x.l.length c') wr bg (ab.mono fun b _ h=>⟨h.1,by have:=h.2;omega⟩) (fun k h=>⟨hS k (Qj a4.size h),Ku n⟩)).mono ?_;rintro e w3 ⟨v3,rfl,bb,b7,a0⟩;obtain⟨ra,rc,rfl⟩:=bb.Ab;have d:=a4.trans a0;have c:=a0.s n;clear m0;have z0:=Qi c;have a5:=Jd c;go_wp2_with fail;obtain⟨h9,z⟩:=Yw c x.hd (.slice ra x.l.length rc);refine Xs (F1 rfl _ _ (w.heap.size+1) x.hd (.slice ra x.l.length rc) (.bool true) rfl rfl h9) rfl ⟨.slice ra x.l.length rc,by rw[HF.out];rfl,by rw[HF.out];exact b7,?_,Xt d z oM⟩;rw[HF.out];exact(bb.Af z fun b hb _ _=>hb.2).mono fun b _ hb=>hb.1
def Ek{t:TypeId}(hgd:o.guard=none)(s x:Operand)
  (ho:o.op=.call {callee:=.builtin .append,args:=#[s,x],argTypes:=#[t,t]})(hs:a.eval s=v)(hx:a.eval x=vx)
  (hrun:(Builtin.append_ #[t,t] o.type #[v,vx]).run prog w=.ok v' w')(h:wpList prog ops Q rest (a.put o.dst v') w'):wpList prog ops Q (o::rest) a w:=Uc hgd s x ho hs hx hrun h
def mF{P:Prop}(h:P:=by
 go_in;go_wp2_with(at_builtin;refine Ek rfl _ _ rfl rfl rfl hrun ?_);go_ret;exact⟨_,rfl,hp',hk⟩):P:=h
def Qhn(S:Qz)(p:List Aj)(s:Aj)(lv:Q0)(b c:Nat)(w:Qm)(hp:At S w lv p)(hlen:p.length<=1000000)(hb:∀j u,(EM s)[j]? =some u->w.cell? ((⟨b,0,none⟩:Addr).add j)=some u):
  Calls prog 120 #[lv,.slice (some ⟨b,0,none⟩) 1 c] w fun e w'=>∃v',e=.returned v'/\At (fun b=>w.heap.size<=b) w' v' (p++[s])/\Qd w w':=by
 obtain⟨a,m,rfl,q⟩:=hp.Ab
 obtain⟨v',w',hrun,hp',hk⟩:=SR 46 s hp hlen hb (c:=c)
 obtain⟨n,y⟩:=X0 p.length
 rw[y]at q hrun
 have f:a=none/\n=0∨∃g off,a=some ⟨g,off,none⟩:=by
  obtain⟨_,_,⟨e,v⟩| ⟨g,off,_,_,_,e,_⟩⟩:=hp
  ·simp only[WO]at e;exact .inl ⟨e.1,oM⟩
  ·simp only[WO]at e;exact .inr ⟨g,off,e.1⟩
 rw[y]
 clear hp y
 rcases f with⟨rfl,rfl⟩| ⟨g,off,rfl⟩
 ·exact mF
 ·by_cases v:n=0
  ·subst v;exact mF
  ·have d:(n=0)=False:=by simp[v]
   have z:(⟨g,off,none⟩:Addr).add 0=⟨g,off,none⟩:=by unfold Addr.add;rfl
   clear v;exact mF
def XS(ps:List (Aa × Aa))(i:Nat)(h:i<ps.length):Qq (ps.take (i+1))=Qq (ps.take i)++[ps[i].1,ps[i].2]:=by
 rw[Gl h,D6];rfl
def DO(S:Qz)(ps:List (Aa × Aa))(lv:Q0)(B:Nat)(w:Qm)(h:Av S w B lv ps)(hlen:ps.length<=1000)(hS:∀b,w.heap.size<=b->S b):
  Calls prog 76 #[lv] w fun e w'=>∃v',e=.returned v'/\Ad S w' (Qq ps) v'/\Qd w w':=by
 obtain⟨la,lc,rfl⟩:=h.Ab
 have a8:=fun i hi=>h.get i hi
 obtain⟨n,hn⟩:=X0 ps.length
 go_in
 rw[hn]
 go_wp2
 go_loopw [3,8] (fun v iv wr=>∃i:Nat,i<=n/\iv=i6 (i:Int)/\Ar (fun b=>S b/\b<w.heap.size) wr w.heap.size v (Qq (ps.take i))/\Qd w wr)
  (fun _ iv _=>n-(RowKit.intOf iv).toNat)
 case atStart=>exact⟨0,oM,rfl,by simpa[Qq] using Ar.nil (fun b=>S b/\b<w.heap.size) w w.heap.size,Ac.refl _ _⟩
 case round=>
  obtain⟨i,hi,rfl,q,y⟩:=hrel;have a4:(Qq (ps.take i)).length=2*i:=by rw[Z6,Ji];omega
  by_cases b6:i<n
  ·have ag:i<ps.length:=oM;obtain⟨g,b7,lk,lx,e,b4,b9,b8,ab,r0,aa,r1,ah⟩:=a8 i ag;cases e;have a2:=XS ps i ag;have hrr:=Qy y ah;obtain⟨⟨⟨p,k⟩,⟨x,r⟩⟩,hm⟩:∃m,ps[i]=m:=⟨_,rfl⟩;rw[hm]at ab r0 aa r1 hrr a2;simp only[Aa.Ae,Aa.Ag]at ab r0 aa r1 hrr;generalize a3:Qq (ps.take i)=tl at a2 q a4;have b2:=Qc a2;obtain⟨a0,ad,hv⟩:=q.Ab;subst hv;obtain⟨ka,kc,rfl⟩:=r0.Ab;obtain⟨xa,xc,rfl⟩:=r1.Ab;have f:∀u∈Qn p (.slice ka k.length kc)++Qn x (.slice xa r.length xc),u.oneCell'=true:=by
    exact Qbf
   have b3:Qn p (.slice ka k.length kc)++Qn x (.slice xa r.length xc)=Qn p (.slice ka k.length kc)++Qn x (.slice xa r.length xc):=rfl;have c:(Qn p (.slice ka k.length kc)++Qn x (.slice xa r.length xc)).length=18:=rfl;generalize ac:Qn p (.slice ka k.length kc)++Qn x (.slice xa r.length xc)=MC at hrr c f;have a7:MC.toArray.all (·.oneCell')=true:=by rw[List.all_toArray];exact Vf.2 f
   have a9:(prog.info? Z5).map (·.size)=some MC.toArray.size:=by rw[Gj,c];kernel_rfl
   have t:(prog.info? Z5).map (·.size)=some MC.length:=by rw[c];kernel_rfl
   have a6:MC.toArray.size=18:=by rw[Gj,c]
   have af:=Qc ac;have b5:tl.length<=2000:=oM;clear a4 ac b3 a2 a3 hm ah;have z:=LW wr (.cells MC.toArray Z5);have b1:(wr.alloc (.cells MC.toArray Z5)).heap.size=wr.heap.size+1:=sM;have a5:(wr.alloc (.cells MC.toArray Z5)).rangeAt wr.heap.size 0 MC:=fun j v hj=>by
    rw[Z3,Vj _ _ j MC.toArray Z5 (0,0) (Qt wr _)];simpa using hj
   generalize ae:wr.alloc (.cells MC.toArray Z5)=W3 at z b1 a5;have hr30:W3.rangeAt wr.heap.size 0 (Qn p (.slice ka k.length kc)):=fun j v hj=>a5 j v (by rw[<-af.out,L3 (DT.1 hj).1];exact hj)
   have hr39:W3.rangeAt wr.heap.size 9 (Qn x (.slice xa r.length xc)):=fun j v hj=>by
    have:=a5 (9+j) v (by rw[<-af.out,MK sM];simpa using hj);rwa [Z3]at this
   have d:=q.same z;clear a5;go_wp2_with(first
    | (refine P6 rfl Z5 _ rfl g (i*18) rfl MC _ hrr underlying99 rfl t ?_)
    | (refine Ud rfl Z5 _ _ rfl wr.heap.size MC.toArray rfl rfl Z5 _ (Ew _ _) a9 (by rw[a6];rfl) a7 ?_;rw[Pn,ae];clear ae a9 t a7 a6 f c)
    | (refine P6 rfl 27 _ rfl wr.heap.size 0 rfl (Qn p (.slice ka k.length kc)) _ hr30 underlying27 rfl kM ?_)
    | (refine P6 rfl 27 _ rfl wr.heap.size 9 rfl (Qn x (.slice xa r.length xc)) _ hr39 underlying27 rfl kM ?_)
    | (at_builtin;refine Jn (v:=.slice a0 tl.length ad) (ts:=[.node p k,.node x r]) (news:=Qn p (.slice ka k.length kc)++Qn x (.slice xa r.length xc)) rfl _ _ rfl rfl rfl (d.same ((Ac.refl _ _).alloc _)) rfl ?d2 ?d3 ?d6 ?d4 ?d5 ?_))
   case d2=>
    rw[Ak];refine⟨Qn p (.slice ka k.length kc),Qn x (.slice xa r.length xc),rfl,?_,Y4 ?_⟩
    ·rw[Kc];exact⟨ab,_,rfl,(((r0.mono (fun b hb h=>(⟨⟨h,hb⟩,q.apart hb⟩:_/\_))).same y).same z).same ((Ac.refl _ _).alloc _)⟩
    ·rw[Kc];exact⟨aa,_,rfl,(((r1.mono (fun b hb h=>(⟨⟨h,hb⟩,q.apart hb⟩:_/\_))).same y).same z).same ((Ac.refl _ _).alloc _)⟩
   case d6=>exact⟨rfl,rfl,rfl,rfl,rfl,rfl,rfl,rfl,rfl,rfl,rfl,rfl,rfl,rfl,rfl,rfl,rfl,rfl⟩
   case d4=>first|omega| (simp only[Xf,Vp];omega)
   case d5=>have:=y.size;simp;omega
   intro v' w3 hown' hg;have hsm1:Qd w w3:=Ds ((y.trans z).alloc _) (Q6 _) (d.same ((Ac.refl _ _).alloc _)) hg;obtain⟨a1,bb,b0⟩:=hown'.Ab;subst b0;rw[<-b2.out]at hown'|-;obtain⟨ba,htl3⟩:∃tl,Qq (ps.take (i+1))=tl:=⟨_,rfl⟩;exact zO
  ·obtain rfl:i=n:=oM;rw[show ps.take i=ps by rw[<-hn,Vc]]at q a4;generalize a3:Qq ps=tl at q a4;have HT:=Qc a3;obtain⟨a0,ad,hv⟩:=q.Ab;subst hv;clear a3 a8;go_wp2;go_ret;exact⟨_,rfl,by rw[HT.out];exact(q.B9 fun b _ h=>h.1).rep hS oM,y⟩
abbrev DP:TypeId:=100
def GT(ps:List (Aa × Aa))(k:Nat):(Qq ps).take (2*k)=Qq (ps.take k):=by
 induction ps generalizing k with
 |nil=>simp[Qq]
 |cons p ps ih=>
  cases k with
  |zero=>simp[Qq]
  |succ k=>rw[Xm,Nc,Xm,show 2*(k+1)=2*k+1+1 by omega,Nc,Nc,ih]
def GU(ps:List (Aa × Aa))(k:Nat):(Qq ps).drop (2*k)=Qq (ps.drop k):=by
 induction ps generalizing k with
 |nil=>simp[Qq]
 |cons p ps ih=>
  cases k with
  |zero=>simp
  |succ k=>rw[Xm,Sn,show 2*(k+1)=2*k+1+1 by omega,Sn,Sn,ih]
def JN(w:Qm)(n c:Nat)(hn:n<=c)(hc:c<=10000):∃z:Array Q0,z.size=c*18/\(Instr.makeSlice DP (.int .i64 (n:Int)) (.int .i64 (c:Int))).run prog w=.ok (.slice (some ⟨w.heap.size,0,none⟩) n c) (w.alloc (.cells z Z5)):=by
 obtain⟨i,v,q⟩:=Hi.1 IQ;simp only[LO]at q;have j:=run_makeSlice (P:=prog) w DP Z5 i _ underlying100 v q.1 .i64 .i64 n c oM oM (by rw[q.2.1];omega) (by rw[q.2.2];omega) oM;exact⟨_,by rw[size_madeCells,q.2.1,Ig],j⟩
def JO{B D k c:Nat}{a:Jr}(ty:TypeId)(z:Array Q0)(hD:W.heap[D]? =some (.cells z Z5 (0,0)))(h:Av S W B (.slice a ps.length cap) ps)(hk:k<=ps.length)(hkc:k<=c)(hc:c<=10000)(hz:z.size=c*18):
  ∃w',(Builtin.copy_ #[DP,DP] ty #[.slice (some ⟨D,0,none⟩) k c,.slice a ps.length cap]).run prog W=.ok (goInt k) w'/\Av S w' D (.slice (some ⟨D,0,none⟩) k c) (ps.take k)/\Ac (fun b _=>b≠D) W w':=by
 obtain⟨q,m,hr⟩:=h
 obtain⟨i,hi,hp⟩:=Hi.1 IQ
 have a2:i.size=18:=congrArg (fun x=>x.2.1) hp
 have ae:q.length=ps.length*18:=m.1
 have n:(ps.take k).length=k:=by rw[Ji];omega
 have a3:min ps.length k=k:=oM
 have a8:∀W2,W2.heap[D]? =some (.cells (q.take (k*18)++z.toList.drop (k*18)).toArray Z5 (0,0))->Ac (fun b _=>b≠D) W W2->Av S W2 D (.slice (some (ad D 0)) k c) (ps.take k):=by
  intro W2 h2 a9;refine⟨q.take (k*18),⟨?_,.inr ⟨D,c,_,by rw[n],Q6 _,h2,oM,by unfold maxLen;omega,?_,?_⟩⟩,?_⟩
  ·rw[Ji,n];omega
  ·simp only[Gj,Zv,Ji,CB,aA];omega
  ·rw[n,List.take_left' (by rw[Ji];omega)]
  ·have a1:Ac (fun _ o=>∃c f,o=.cells c 27 f) W W2:=a9.mono fun b o hb hs e=>by
    subst e;rw[hD]at hb;obtain⟨c,f,e2⟩:=hs;cases hb;cases e2
   have:=(hr.take (2*k)).Af a1 fun _ _ c f=>⟨c,f,rfl⟩
   rw[GT,show 9*(2*k)=k*18 by omega]at this;exact this
 have a0:∀(ad:Addr),(∀j v,(q.take (k*18))[j]? =some v->W.cell? (ad.add j)=some v)->(loadCells ad (k*18)).run prog W=.ok (q.take (k*18)).toArray W:=by
  intro ad hs
  have:=run_loadCells_list (P:=prog) W ad (q.take (k*18)) hs;rwa [Ji,Us oM]at this
 have t:=fun v hv=>Et hr v (LY (i:=k*18) hv)
 have y:=run_storeCells_at prog D 0 Z5 (q.take (k*18)) 0 z W hD (by rw[Ji];omega) t
 simp only[Z3,E2,Ri]at y
 rw[Ji,Us oM]at y
 have p:(Builtin.copy_ #[DP,DP] ty #[.slice (some (ad D 0)) k c,.slice a ps.length cap]).run prog W=.ok (goInt k) (W.setRow D (q.take (k*18)++z.toList.drop (k*18)).toArray):=by
  rcases m.2 with⟨e,h0⟩| ⟨g,ab,a6,e,hg,a7,ac,_,af,aa⟩
  ·simp only[WO]at e;obtain⟨rfl,_,rfl⟩:=e;have a5:k=0:=oM;subst a5;have r:W.setRow D (q.take (0*18)++z.toList.drop (0*18)).toArray=W:=by
    rw[CJ,E2,FU,Ri,Array.toArray_toList];exact setRow_self W D z Z5 (0,0) hD
   rw[r];rw[r]at y;rw[h0];simp[Builtin.copy_,Rh underlying100,Builtin.lenOf,Builtin.firstCells,sizeOf,typeInfo,hi,storeCells]
  ·cases e;have a4:=a0 (ad g 0) (fun j v u=>by
    rw[Ea,Vj _ _ _ a6 Z5 (0,0) a7];rw[List.getElem?_take]at u;split at u
    ·rw[<-aa,List.getElem?_take]at u;split at u
     ·simpa using u
     ·cases u
    ·cases u)
   simp[Builtin.copy_,Rh underlying100,Builtin.lenOf,Builtin.firstCells,sizeOf,typeInfo,hi,a2,a3,a4,y]
 have d:Ac (fun b _=>b≠D) W (W.setRow D (q.take (k*18)++z.toList.drop (k*18)).toArray):=
  ⟨rfl,rfl,rfl,by simp[World.setRow],fun b o ho hs=>by rw[setRow_other _ _ _ _ hs];exact ho⟩
 exact⟨_,p,a8 _ (setRow_heap _ _ _ _ _ _ hD) d,d⟩
def Av.lt(h:Av S w B v ps)(hb:w.heap.size<=b):v.ownBlock≠some b:=by
 obtain⟨m,h,_⟩:=h;rcases h.2 with⟨rfl,_⟩| ⟨g,y,q,rfl,z,j,_⟩
 ·intro e;cases e
 ·intro e;simp only[Value.ownBlock,Fp]at e
  have:=Qg j;omega
def Bn(S:Qz)(w:Qm)(u:Q0)(qs:List (Aa × Aa)):Prop:=
 ∃xs,Ak S w (Qq qs) xs/\((u=.slice none 0 0/\qs=[])∨∃ad c,u=.slice (some ad) qs.length c/\∀j v,xs[j]? =some v->w.cell? (ad.add j)=some v)
def Av.rs0(h:Av S w B (.slice (some ⟨g,0,none⟩) n cap) ps)(k:Nat)(hk:k<=n):Bn S w (.slice (some ⟨g,k*18,none⟩) (n-k) (cap-k)) (ps.drop k):=by
 obtain⟨a2,c2,f⟩:=h.Ab;cases f;obtain⟨t,y,x⟩:=h;rcases y.2 with⟨e,h0⟩| ⟨g,c,m,e,r,u,d,_,p,b⟩
 ·cases e
 ·cases e;refine⟨t.drop (k*18),?_,.inr ⟨(ad g (k*18)),_,by rw[CB],fun j v z=>?_⟩⟩
  ·have:=x.drop (2*k);rwa [GU,show 9*(2*k)=k*18 by omega]at this
  ·have q:((ad g (k*18)):Addr).add j=(ad g (k*18+j)):=by unfold Addr.add;split<;>simp_all
   rw[q,Vj _ _ _ m Z5 (0,0) u];rw[T6,<-b,List.getElem?_take]at z;split at z
   ·simpa using z
   ·cases z
def Bn.none(S:Qz)(w:Qm):Bn S w (.slice none 0 0) []:=⟨[],by rw[show Qq []=[] from rfl,Ak],.inl ⟨rfl,rfl⟩⟩
def Bn.zero(S:Qz)(w:Qm)(ad:Addr)(c:Nat):Bn S w (.slice (some ad) 0 c) []:=⟨[],by rw[show Qq []=[] from rfl,Ak],.inr ⟨ad,c,rfl,fun j v h=>by simp at h⟩⟩
def FJ{ps qs:List (Aa × Aa)}(ty:TypeId)(hown:Av S w B v ps)(hu:Bn S w u qs)(hlen:ps.length+qs.length<=17179869184)(hB:B<=w.heap.size):
  ∃v' w',(Builtin.append_ #[DP,DP] ty #[v,u]).run prog w=.ok v' w'/\Av S w' B v' (ps++qs)/\Ac (fun b _=>v.ownBlock≠some b) w w':=by
 obtain⟨y,hrow,hr⟩:=hown
 obtain⟨i,n,z⟩:=Hi.1 IQ
 simp only[LO]at z
 obtain⟨d,j,⟨rfl,rfl⟩| ⟨k,c,rfl,p⟩⟩:=hu
 ·exact⟨v,w,run_append_owned_none w B DP ty Z5 i 18 underlying100 n v _ y hrow,by rw[Hy];exact⟨y,hrow,hr⟩,Ac.refl _ _⟩
 ·have m:=j.length;rw[Z6]at m;obtain⟨v',w',q,x,h3,_⟩:=OV (P:=prog) w B DP ty Z5 i _ 18 208 underlying100 n z.1 z.2.1 z.2.2 rfl dM v ps.length y hrow k qs.length c d oM p (Et j) (by unfold maxLen;omega) oM hB;refine GG ?_;intro hKe;have t:Ac (fun _ o=>∃c f,o=.cells c 27 f) w w':=hKe.mono fun b o hb hs e=>by
   exact lO
  refine⟨v',w',q,⟨y++d,?_,?_⟩,hKe⟩
  ·rw[Zv];exact x
  ·rw[D6];exact SQ _ _ _ _ (hr.Af t fun _ _ c f=>⟨c,f,rfl⟩) (j.Af t fun _ _ c f=>⟨c,f,rfl⟩)
section
variable{F:Fence}{n:Nat}{P:Program}{ops:Array Oper}{Q:Exit->Act->Qm->Prop}{S:Qm->Prop}{X:Oper->Bool}
def eW{o:Oper}{rest:List Oper}{a:Act}{w:Qm}(hg:o.guard=none)(hx:X o=true)(ty:TypeId)(x:Operand)(ho:o.op=.load ty x)(b off:Nat)(hxv:a.eval x=.pointer (some ⟨b,off,none⟩))(cs:Kb)(d:TypeDesc)
  (hS:∀w',S w'->w'.rangeAt b off cs)(hSw:S w)(hu:P.underlying ty=some d)(hd:d.isRow=true)(hi:(P.info? ty).map (·.size)=some cs.length)
  (h:AL (Dh F n P ops Q S X rest (a.put o.dst (.agg cs.toArray)) w)):AL (Dh F n P ops Q S X (o::rest) a w):=by
 have j:∀w',S w'->(execOp a.eval o).run P w'=.ok (.value (.agg cs.toArray)) w':=fun w' q=>by
  unfold execOp;simp only[ho,hxv,Instr.loadAt,Instr.sureAddr,Vv,N4,Yd,run_loadVar_mid w' b off ty cs d (hS w' q) hu hd hi]
 exact K6 hg hx fun K v w' y=>⟨_,j w' y,j w hSw,v _ _ h⟩
def GV{o:Oper}{rest:List Oper}{a:Act}{w:Qm}(hg:o.guard=none)(hx:X o=true)(v:Q0)(hrun:∀w',(execOp a.eval o).run P w'=.ok (.value v) w')
  (h:AL (Dh F n P ops Q S X rest (a.put o.dst v) w)):AL (Dh F n P ops Q S X (o::rest) a w):=
 K6 hg hx fun K j w' q=>⟨_,hrun w',hrun w,j _ _ h⟩
end
def eX(a:Jr)(n cap k:Nat):Q0:=.slice (if cap=k then a else a.map (·.add (k*18))) (n-k) (cap-k)
def WS(W:Qm)(a:Jr)(n cap k:Nat)(hkn:k<=n)(hnc:n<=cap):(Instr.slice DP (.slice a n cap) (some (.int .i64 (k:Int))) none none).run prog W=.ok (eX a n cap k) W:=by
 obtain⟨i,v,q⟩:=Hi.1 IQ;have j:i.size=18:=congrArg (fun x=>x.2.1) q;unfold Instr.slice;simp only[Vv,Rh underlying100,Yd,Instr.sliceBounds,N4,run_sliceBound W .i64 (k:Int) n BoundsCode.sliceB (Int.natCast_nonneg k) (Int.ofNat_le.2 hkn),sizeOf,typeInfo];simp[v,j,eX,run_sliceBound W .i64 (k:Int) n BoundsCode.sliceB (Int.natCast_nonneg k) (Int.ofNat_le.2 hkn)]
def FK{a:Act}{o:Oper}(x l:Operand)(ho:o.op=.slice DP x (some l) none none)(b:Jr)(n cap k:Nat)(hx:a.eval x=.slice b n cap)(hl:a.eval l=.int .i64 (k:Int))(hkn:k<=n)(hnc:n<=cap)(W:Qm):
  (execOp a.eval o).run prog W=.ok (.value (eX b n cap k)) W:=by
 unfold execOp
 simp only[ho,hx,hl,OU,Option.map_none,Vv,run_sliceAt_slice W DP _ _ _ _ (show prog.underlying DP=some (.slice (prog.elem DP)) by kernel_rfl),WS W b n cap k hkn hnc,Yd,N4]
def Av.cut{S:Qz}{w:Qm}{B n cap k:Nat}{a:Jr}{ps:List (Aa × Aa)}(h:Av S w B (.slice a n cap) ps)(hk:k<=n):Bn S w (eX a n cap k) (ps.drop k)/\n<=cap:=by
 obtain⟨a2,c2,u⟩:=h.Ab;have r:n=ps.length:=by cases u;rfl
 have f:=h;obtain⟨t,j,p⟩:=h;rcases j.2 with⟨e,d⟩| ⟨g,y,b,e,x,c,z,_⟩
 ·cases e;have:ps=[]:=CW.1 d;subst this;refine⟨?_,Q6 _⟩;unfold eX;have v:k=0:=oM;subst v;simp only[Qe];exact Bn.none _ _
 ·cases e;refine⟨?_,oM⟩;unfold eX;by_cases m:cap=k
  ·rw[Qe m];have q:k=_:=Nat.le_antisymm hk oM;have hd:ps.drop k=[]:=nB oM;rw[hd,q,I0];exact Bn.zero _ _ _ _
  ·rw[Qa m]
   have:=f.rs0 k hk;simp only[OU,Ea,Z3];exact this
def qK{p:Aa × Aa}{ps:List (Aa × Aa)}{k:Nat}(h1:k<=ps.length)(h2:∀i (hi:i<ps.length),k<=i->Ny p.1 ps[i].1=true)(h3:k=0∨∃h:k-1<ps.length,Ny p.1 ps[k-1].1=false):
  BG p ps=ps.take k++p::ps.drop k:=by
 have e:(ps.reverse.takeWhile fun q=>Ny p.1 q.1).length=ps.length-k:=by
  have m:ps.reverse=(ps.drop k).reverse++(ps.take k).reverse:=by rw[<-VU,FW]
  rw[m,List.takeWhile_append_of_pos]
  ·have y:((ps.take k).reverse.takeWhile fun q=>Ny p.1 q.1)=[]:=by
    rcases h3 with rfl| ⟨h,h3⟩
    ·simp
    ·by_cases z:k=0
     ·subst z;simp
     ·obtain⟨j,rfl⟩:∃j,k=j+1:=⟨k-1,oM⟩;have v:j<ps.length:=oM;rw[Gl v,VU,List.reverse_singleton,List.singleton_append,List.takeWhile_cons,Qa];simpa using h3
   rw[y,Hy,MT,CB]
  ·intro q n;obtain⟨i,hi,rfl⟩:=GF.1 (UM.1 n);rw[List.getElem_drop];exact h2 _ _ oM
 unfold BG
 simp only
 rw[e,show ps.length-(ps.length-k)=k by omega]
def CY(l:Qp)(i:Nat):List (Aa × Aa):=((Xa l).take i).foldl (fun o p=>BG p o) []
def N0:∀l:Qp,(Xa l).length=l.length/2
 |k::x::l=>by rw[Xa,Xf,N0 l];simp only[Xf];omega
 | []=>by simp[Xa]
 | [_]=>by simp[Xa]
def SY:∀(l:Qp) (i:Nat) (h1:2*i+1<l.length) (h:i< (Xa l).length),(Xa l)[i]=(l[2*i],l[2*i+1])
 |k::x::l,0,_,_=>by simp[Xa]
 |k::x::l,i+1,h0,h=>SY l i (by simp only[Xf]at h0;omega) (by simpa[Xa] using h)
 | [],i,h0,h=>by simp[Xa]at h
 | [_],i,h0,h=>by simp[Xa]at h
def M9(l:Qp):CY l 0=[]:=by unfold CY;rw[E2];rfl
def MA(l:Qp)(i:Nat)(h:2*i+1<l.length):CY l (i+1)=BG (l[2*i],l[2*i+1]) (CY l i):=by
 have j:i< (Xa l).length:=by rw[N0];omega
 unfold CY;rw[Gl j,O5,SY l i h j];rfl
def Qbq(p:Aa × Aa)(ps:List (Aa × Aa)):(BG p ps).length=ps.length+1:=by
 unfold BG;simp only;rw[Zv,Xf,Ji,CB];omega
def EP(l:Qp):∀i,i<=l.length/2->(CY l i).length=i
 |0,_=>by rw[M9];rfl
 |i+1,h=>by rw[MA l i oM,Qbq,EP l i oM]
def uN(l:Qp):CY l (l.length/2)=(Xa l).foldl (fun o p=>BG p o) []:=by
 unfold CY;rw[Nd (by rw[N0];exact Q6 _)]
def Qbr{P:Prop}(h:P:=by
 unfold BG at h;simp only at h;rcases Kn.1 h with h|h
 ·exact .inr (LY h)
 ·rcases Xg.1 h with h|h
  ·exact .inl h
  ·exact .inr (List.mem_of_mem_drop h)):P:=h
def Qbs{p q:Aa × Aa}{ps:List (Aa × Aa)}(h:q∈BG p ps):q=p∨q∈ps:=by
 exact Qbr
def JP(l:Qp):∀i,i<=l.length/2->∀q∈CY l i,q.1∈l/\q.2∈l
 |0,_,q,h=>by rw[M9]at h;cases h
 |i+1,hi,q,h=>by
  rw[MA l i oM]at h;rcases Qbs h with rfl|h
  ·exact⟨Zp _,Zp _⟩
  ·exact JP l i oM q h
def uO{h:Hd}(ho:h.ok):({Qh 9 with u:=h.u}:Hd).ok:=⟨by show(-9223372036854775808:Int)<=9/\(9:Int)<=9223372036854775807;decide,by show-9223372036854775808<=(0:Int)/\(0:Int)<=9223372036854775807;decide,by show(-9223372036854775808:Int)<=0/\(0:Int)<=9223372036854775807;decide,ho.2.2.2.1,by show(0:Nat)<=1099511627776;decide,by show(0:Nat)<=1099511627776;decide⟩
def C0{N:Nat}{E:Am}(y:Aa):∀(t:Aa) (S:Qz) (lv yv:Q0) (w:Qm),Ah N E w->N<=w.heap.size->t.hd.ok->Ad S w t.l lv->(∀x∈t.flat,Xc x=true)->y.hd.ok->Ad S w y.l yv->(∀k,w.heap.size<=k->S k)->
  Calls prog 74 #[Qu t.hd lv,Qu y.hd yv] w (J1 S (Xo y t) w):=by
 refine Aa.ind fun h l ih=>?_
 intro S lv yv w hG hN ho hr hs ag a7 hS
 obtain⟨a,be,rfl⟩:=hr.Ab
 obtain⟨ya,yc,rfl⟩:=a7.Ab
 have f:=fun W (hk:Qd w W)=>WD S (.node h l) _ W (hG.same hk) (Qj hN hk.size) ho (hr.same hk) fun y hy=>Ot (hs y hy)
 have ae:=fun hq=>eI (x:=.node h l) hq hs
 obtain⟨yh,a8⟩:∃q,y.hd=q:=⟨_,rfl⟩
 obtain⟨yn,b4⟩:∃q,y.l.length=q:=⟨_,rfl⟩
 obtain⟨n,hn⟩:∃q,l.length=q:=⟨_,rfl⟩
 simp only[Aa.Ae,Aa.Ag]at f hr ho|-
 rw[hn]at f
 rw[a8,b4,hn]
 rw[b4]at a7
 have b3:Ad (fun b=>S b/\b<w.heap.size) w y.l (.slice ya yn yc):=a7.mono fun b hb h=>⟨h,hb⟩
 have bg:∀x y z,Qd w (((w.alloc x).alloc y).alloc z):=fun x y z=>(((Ac.refl _ _).alloc _).alloc _).alloc _
 generalize hT:Ze (.node h l)=T at f ae
 cases T with
 |false=>
  have he:Xo y (.node h l)=y:=Z7 hT;rw[he];unfold J1;rw[a8];rw[a8]at ag;go_in;go_wp2_with fail;refine(f _ Xd).mono ?_;rintro e w1 ⟨rfl,m⟩;have j:Qd w w1:=Xd;have p:w1.heap[w.heap.size+1]? =some (.cells (nR yh (.slice ya yn yc)) 27 (0,0)):=m.s (Qb (Ql sM));have r:w1.heap[w.heap.size+1+1]? =some (.cells zR 27 (0,0)):=m.s (Ql sM);have n0:=Qi p;have m0:=Qi r;have b9:=Jd r;clear m f;go_wp2_with fail;obtain⟨h9,a6⟩:=Yw r yh (.slice ya yn yc);refine DS rfl rfl h9 rfl ⟨_,rfl,?_,ag,?_⟩
  ·exact((b3.same j).Af a6 fun b hb _ _=>by have:=hb.2;omega).mono fun b _ hb=>hb.1
  ·exact Ho j a6 fun k o hk=>(Ku hk)
 |true=>
  obtain⟨x,hx⟩:=ae rfl;have hh:h={Qh 9 with u:=h.u}:=by injection hx
  have hl:l=[x]:=by injection hx
  subst hl;have b8:=Gs hs;obtain⟨B,hB⟩:=X0 (Xo y x);have b0:∀(W:Qm) (hk:Qd w W) (hz:w.heap.size+3<=W.heap.size) lx,x.hd.ok->Ad S w x.l lx->Calls prog 74 #[Qu x.hd lx,Qu yh (.slice ya yn yc)] W (J1 (fun b=>S b/\(b<w.heap.size∨w.heap.size+3<=b)) B W):=fun W hk hz lx hx hr=>by
   have:=ih x (Zm.2 rfl) (fun b=>S b/\(b<w.heap.size∨w.heap.size+3<=b)) lx (.slice ya yn yc) W (hG.same hk) (Qj hN hk.size) hx ((hr.mono fun b hb h=>⟨h,.inl hb⟩).same hk) b8 ag ((a7.mono fun b hb h=>⟨h,.inl hb⟩).same hk) fun k h=>⟨hS k (Qj hk.size h),.inr (Qj hz h)⟩
   rw[a8,hB]at this;exact this
  have he:Xo y (.node h [x])=.node {Qh 9 with u:=h.u} [Xo y x]:=V4 hT;rw[he,hB];clear hx hh ae ih he hT hB;obtain rfl:1=n:=hn;obtain⟨bb,a2,c2,e2,bd,hi⟩:=hr.shape;obtain⟨b,c6,bh,e3,bf,⟨c1,fz,ab⟩,ad,ac,a0⟩:=hi 0 sM;simp only[Iv,CJ,Yf]at ad ac a0;subst e3;cases e2;obtain⟨a3,c3,rfl⟩:=ad.Ab;have ba:=Qg ab;unfold J1;simp only[Aa.Ae,Aa.Ag];go_in;go_wp2_with fail;refine(f _ Xd).mono ?_;rintro e w1 ⟨rfl,m⟩;have j:Qd w w1:=Xd;have a9:=m.same w.heap.size _ (Qb (Qb (Qt w _))) trivial;have p:w1.heap[w.heap.size+1]? =some (.cells (nR yh (.slice ya yn yc)) 27 (0,0)):=m.s (Qb (Ql sM));have r:w1.heap[w.heap.size+1+1]? =some (.cells zR 27 (0,0)):=m.s (Ql sM);clear m f;have aa:=Qy j a0;unfold J1 at b0;have b2:w.heap.size+3<=w1.heap.size:=Qg r;have a1:=fun W (hk:Qd w1 W)=>b0 W (j.trans hk) (Qj b2 hk.size) _ ac ad
  have bc:=j.size;clear b0 hi hr ab a0;go_wp2_with fail;refine(Vd (n:=0)).1 ?_;refine KC (n:=0) (And.intro a9 (And.intro p aa)) ?_;simp only[Vz];have t0:=Qi a9;have y0:=Qi p;have z0:=Rv aa;repeat refine sX ?_
  refine Kd rfl rfl ?_;intro K hK;go_simp;refine(Qr (a1 _ Xd)).mono ?_;rintro e w2 ⟨v2,rfl,b6,b5,c0⟩;have v:Qd w1 w2:=Xd;obtain⟨a4,c4,rfl⟩:=b6.Ab;refine hK _ _ ⟨v.s a9,v.s p,Qy v aa⟩ ?_;clear hK K a1;refine Kd rfl rfl ?_;intro K hK;go_simp;refine(Qr (M3 (fun b=>S b/\(b<w.heap.size∨w.heap.size+3<=b)) h.u B.hd B.l _ _ b5 b6 fun k hk=>⟨hS k (Qj (j.trans v).size hk),.inr (Qj b2 (Qj v.size hk))⟩)).mono ?_;rintro e w3 ⟨v3,rfl,ah,b7⟩;have c:=v.trans b7;obtain⟨a5,c5,rfl⟩:=ah.Ab;refine hK _ _ ⟨c.s a9,c.s p,Qy c aa⟩ ?_;clear hK K;refine BD (G5 rfl ?_);have af:=c.s r;have b9:=Jd af;have m0:=Qi af;go_simp;go_wp2_with fail;have b1:=j.trans c;obtain⟨h9,a6⟩:=FM af (i6 (Qh 9).kind) (.bool (Qh 9).b) (.bool (Qh 9).d.neg) (.string (Qh 9).d.digits) (i6 (Qh 9).d.exp) (.int .u64 (h.u:Int)) (i6 (Qh 9).w) (.string (Qh 9).s) (.slice a5 1 c5);refine DS rfl rfl h9 rfl ⟨_,rfl,?_,uO ho,?_⟩
  ·rw[Aa.eta]at ah;exact(ah.Af a6 fun b hb _ _=>by rcases hb.2 with h|h<;>omega).mono fun b _ hb=>hb.1
  ·exact Ho b1 a6 fun k o hk=>(Ku hk)
def Qbt{P Q:Prop}(h:Q)(f:Wz Q->P:=by
 intro zz;have hBA:=fun W (hk:Qd w W)=>CE S t lv W (hG.same hk) (Qj hN hk.size) ho (hr.same hk) hs
 have hIL:=fun a n c W=>Np (Q3 t).hd a n c W
 rw[hL]at hIL;revert hBA hIL;exact zz.o):P:=f ⟨h⟩
def eY{P Q:Prop}(h:Q)(f:Wz Q->P:=by
 intro zz;have hkw1:Qd w w1:=Xd;have hb1:=hk1.same w.heap.size _ (Qb (Qt w _)) trivial;have hb2:w1.heap[w.heap.size+1]? =some (.cells zR 27 (0,0)):=hk1.s BR;revert hkw1 hb1 hb2;exact zz.o):P:=f ⟨h⟩
def uP{N:Nat}{E:Am}(S:Qz)(t:Aa)(lv:Q0)(w:Qm)(hG:Ah N E w)(hN:N<=w.heap.size)(ho:t.hd.ok)(hr:Ad S w t.l lv)(hs:∀x∈t.flat,Xc x=true)(hS:∀k,w.heap.size<=k->S k)
  (hL:Xn (Q3 t).hd=false):Calls prog 38 #[Qu t.hd lv] w (J1 S (Xu t) w):=by
 have j:Xu t=t:=by unfold Xu;rw[hL];rfl
 refine Qbt ?_
 intro hBA hIL
 generalize hB:Q3 t=B at hBA hIL
 rw[j]
 obtain⟨a,z,rfl⟩:=hr.Ab
 generalize p:t.l.length=n at hBA|-
 have d:Ad S w t.l (.slice a n z):=by rw[<-p];exact hr
 clear j hB hL hr p
 go_in
 go_wp2_with fail
 refine(hBA _ Xd).mono ?_
 rintro e w1 ⟨v1,rfl,f,a0,hk1⟩
 obtain⟨ba,bc,rfl⟩:=f.Ab
 refine eY ?_
 intro hkw1 hb1 hb2
 clear hk1
 go_wp2_with fail
 refine(hIL _ _ _ _).mono ?_
 rintro e w2 ⟨rfl,v⟩
 have q:Qd w w2:=Xd
 have c:=v.s (Qb hb1)
 have y:=v.s (Qb hb2)
 have n0:=Qi c
 have z0:=Qi y
 have a1:=Jd y
 clear v
 go_wp2_with fail
 obtain⟨r,u⟩:=Yw y t.hd (.slice a n z)
 refine DS rfl rfl r rfl ⟨_,rfl,?_,ho,Xt q u oM⟩
 exact(((d.mono fun b m h=>(⟨h,m⟩:S b/\b<w.heap.size)).same q).Af u fun b m _ _=>by have:=m.2;omega).mono fun b _ m=>m.1
def Qbu{P Q:Prop}(h:Q)(f:Wz Q->P:=by
 intro zz;have hkw2:Qd w w2:=Xd;have hc1:=hk2.s (Qb hb1);have hc2:=hk2.s (Qb hb2);have hc3:=hk2.same w1.heap.size _ (Qt w1 _) trivial;have hz1:=hkw1.size;have hz12:w1.heap.size<w2.heap.size:=Qg hc3;obtain⟨n0,n1,n2,n3,n4,n5,n6,n7,n8⟩:=Qi hc3;revert hkw2 hc1 hc2 hc3 hz1 hz12 n0 n1 n2 n3 n4 n5 n6 n7 n8;exact zz.o):P:=f ⟨h⟩
def uQ{N:Nat}{E:Am}(S:Qz)(t:Aa)(lv:Q0)(w:Qm)(hG:Ah N E w)(hN:N<=w.heap.size)(ho:t.hd.ok)(hr:Ad S w t.l lv)(hs:∀x∈t.flat,Xc x=true)(hS:∀k,w.heap.size<=k->S k)
  (h7:(Q3 t).hd.kind=7):Calls prog 38 #[Qu t.hd lv] w (J1 S (Xu t) w):=by
 have hL:Xn (Q3 t).hd=true:=by unfold Xn;rw[h7];rfl
 have u:Xu t=Xo (.node (Qh (Q3 t).hd.kind) []) t:=by
  unfold Xu Zk BY;rw[hL,Qe rfl,Qa oM]
 refine Qbt ?_
 intro hBA hIL
 generalize hB:Q3 t=B at hBA hIL h7 u
 rw[u]
 obtain⟨a,a4,rfl⟩:=hr.Ab
 have p:=fun W (hk:Qd w W) yv (hy:Ad (fun b=>S b/\b≠w.heap.size+1) W [] yv)=>C0 (.node (Qh B.hd.kind) []) t (fun b=>S b/\b≠w.heap.size+1) (.slice a t.l.length a4) yv W (hG.same hk) (Qj hN hk.size) ho ((hr.mono fun b hb h=>(⟨h,oM⟩:S b/\b≠w.heap.size+1)).same hk) hs (K1 B.hd.kind oM) hy
 generalize hR:Xo (.node (Qh B.hd.kind) []) t=R at p|-
 generalize hn:t.l.length=n at hBA p|-
 replace h7:=Qc h7
 clear u hB hL hn hR
 go_in
 go_wp2_with fail
 refine(hBA _ Xd).mono ?_
 rintro e w1 ⟨v1,rfl,a6,ab,hk1⟩
 obtain⟨ba,bc,rfl⟩:=a6.Ab
 refine eY ?_
 intro hkw1 hb1 hb2
 clear hk1
 go_wp2_with fail
 refine(hIL _ _ _ _).mono ?_
 rintro e w2 ⟨rfl,hk2⟩
 refine Qbu ?_
 intro hkw2 hc1 hc2 hc3 hz1 hz12 n0 n1 n2 n3 n4 n5 n6 n7 n8
 clear hk2
 have ac:(B.hd.kind==8)=false:=by rw[h7.out];rfl
 have e0:∀x,(w2.alloc x).cell? (ad w1.heap.size 0)=some (i6 B.hd.kind):=fun x=>X9 n0 x
 go_upto_region 9 with fail
 have q:=LW w2 (.cells #[.slice none 0 0] 100)
 have m:=Qt w2 (.cells #[.slice none 0 0] 100)
 generalize w2.alloc (.cells #[.slice none 0 0] 100)=w4 at q m|-
 have d:=q.s hc1
 have r:=q.s hc2
 have c:=q.s hc3
 have z:=hkw2.trans q
 clear n0 n1 n2 n3 n4 n5 n6 n7 n8 e0 hc1 hc2 hc3 hb1 hb2
 obtain⟨n0,n1,n2,n3,n4,n5,n6,n7,n8⟩:=Qi d
 have m0:=Qi c
 have l0:=Q4 m
 refine EA ?_
 refine KC (n:=0) (And.intro d (And.intro c m)) ?_
 simp only[Vz]
 repeat refine sX ?_
 refine Vr ?_
 intro K hK
 refine(Qr (DO (fun b=>S b/\b≠w.heap.size+1) [] (.slice none 0 0) 0 w4.drew (Av.nil _ _ _) dM fun k hk=>⟨hS k (by have:=z.size;exact Qj this hk),by have:=Qg r;have ae:w4.heap.size<=k:=hk;omega⟩)).mono ?_
 rintro e w5 ⟨v5,rfl,a2,aa⟩
 obtain⟨a5,c5,rfl⟩:=a2.Ab
 have y:Qd w4 w5:=Xd
 refine hK _ _ ⟨y.s d,y.s c,y.s m⟩ ?_
 clear hK K
 refine Vr ?_
 intro K hK
 refine(Qr (DM B.hd.kind _ _ _ w5)).mono ?_
 rintro e w6 ⟨rfl,a1⟩
 have j:=y.trans a1
 refine hK _ _ ⟨j.s d,j.s c,j.s m⟩ ?_
 clear hK K
 refine Vr ?_
 intro K hK
 refine(Qr (p w6 (z.trans j) _ (a2.same a1) fun k hk=>⟨hS k (Qj (z.trans j).size hk),by have:=Qg (j.s r);omega⟩)).mono ?_
 rintro e w7 ⟨v7,rfl,a3,a8,a9⟩
 obtain⟨a7,c7,rfl⟩:=a3.Ab
 have v:=j.trans a9
 refine hK _ _ ⟨v.s d,v.s c,v.s m⟩ ?_
 clear hK K
 refine DA ?_
 have a0:=v.s r
 have af:=Jd a0
 have q0:=Qi a0
 go_simp
 go_wp2_with fail
 obtain⟨h9,f⟩:=Yw a0 R.hd (.slice a7 R.l.length c7)
 refine DS rfl rfl h9 rfl ⟨_,rfl,?_,a8,Xt (z.trans v) f oM⟩
 exact(a3.Af f fun b hb _ _=>hb.2).mono fun b _ hb=>hb.1
def Qbv{P:Prop}(h:P:=by
 refine LZ hg fun K hK'=>?_
 unfold Oper.wpIn;refine⟨?_,?_⟩
 ·simp[Oper.about,hop,resolve,Target.leads,N4]
 ·rw[VW F _ _ (by rw[hop];intro c hc';cases hc')];simp[execOp,hop,resolve,invoke,builtin,hs,hx,hrun,Result.andThen];exact hK' _ _ hK):P:=h
def Hv{F:Fence}{n:Nat}{P:Program}(w:Qm){ops:Array Oper}{rest:List Oper}{o:Oper}{a:Act}{Q:Exit->Act->Qm->Prop}
  (hg:o.guard=none)(s x:Operand)(t:TypeId)(hop:o.op=Op.call {callee:=Callee.builtin Builtin.append,args:=#[s,x],argTypes:=#[t,t]})
  (v u:Q0)(hs:a.eval s=v)(hx:a.eval x=u)(v':Q0)(w':Qm)(hrun:(Builtin.append_ #[t,t] o.type #[v,u]).run P w=.ok v' w')(hK:wpListIn F n P ops Q rest (a.put o.dst v') w'):
  wpListIn F n P ops Q (o::rest) a w:=by
 exact Qbv
def Av.blk{S:Qz}{w:Qm}{B:Nat}{v:Q0}{ps:List (Aa × Aa)}(h:Av S w B v ps){b:Nat}{o:Obj}(hb:w.heap[b]? =some o)(hv:v.ownBlock=some b):B<=b/\∃c f,o=.cells c Z5 f:=by
 obtain⟨m,h,_⟩:=h;rcases h.2 with⟨rfl,_⟩| ⟨g,z,q,rfl,y,j,_⟩
 ·cases hv
 ·simp only[Value.ownBlock,Fp]at hv;subst hv;rw[j]at hb;cases hb;exact⟨y,_,_,rfl⟩
def BO{K:Nat->Obj->Prop}{S:Qz}{A A5:Qm}{z:Obj}{B:Nat}{v:Q0}{ps:List (Aa × Aa)}(h:Av S A B v ps)(hk:Ac (fun b _=>v.ownBlock≠some b) (A.alloc z) A5)(hK:∀b c f,B<=b->¬K b (.cells c Z5 f)):Ac K A A5:=
 ⟨hk.os,hk.tape,hk.output,Qj sM hk.size,fun b o q j=>hk.same b o (Qb q) fun e=>by
  obtain⟨y,c,f,rfl⟩:=h.blk q e;exact hK b c f y j⟩
def Vo:Qp->List (Aa × Aa)
 |k::_::l=>(k,Ya)::Vo l
 |_=>[]
def JQ:∀l:Qp,Qq (Vo l)=Zs l
 |k::_::l=>by
  rw[Zs,<-JQ l,Vo,Xm]
 | []=>rfl
 | [_]=>rfl
def DQ:∀l:Qp,(Vo l).length=l.length/2
 |k::_::l=>by rw[Vo,Xf,DQ l];simp only[Xf];omega
 | []=>by simp[Vo]
 | [_]=>by simp[Vo]
def WT:∀(l:Qp) (i:Nat) (h0:2*i<l.length) (h:i< (Vo l).length),(Vo l)[i]=(l[2*i],Ya)
 |k::_::l,0,_,_=>by simp[Vo]
 |k::x::l,i+1,h0,h=>WT l i (by simp only[Xf]at h0;omega) (by simpa[Vo] using h)
 | [],i,h0,h=>by simp[Vo]at h
 | [_],i,h0,h=>by simp[Vo]at h
def eZ(l:Qp)(i:Nat)(h0:2*i+1<l.length):(Vo l).take (i+1)=(Vo l).take i++[(l[2*i]'(by omega),Ya)]:=by
 have h:i< (Vo l).length:=by rw[DQ];omega
 rw[Gl h,WT l i oM h]
def Yq(a:Jr)(n cap:Nat)(w:Qm):
  Calls prog 69 #[.slice a n cap] w fun e w'=>e=.returned (.func (.func 122) #[] #[.pointer (some ⟨w.heap.size,0,none⟩)])/\w'=w.alloc (.cells #[.slice a n cap] 25):=by
 go_in
 exact Nv
def mG{P:Prop}(h:P:=by
 subst hSbd;intro b o hb ho;constructor
 ·intro h c f e;rw[e]at ho;cases ho
 ·intro h c f e;rw[e]at ho;cases ho):P:=h
def Qf4{P:Prop}(h:P:=by
 rintro i A B2 ⟨lv2,h1,h2,h3⟩ hk;exact⟨lv2,hk.same _ _ h1 ⟨.inr rfl,trivial⟩,h2.Af hk (fun _ _ _ _=>⟨.inr rfl,trivial⟩) (fun _ _ _ _=>⟨.inr rfl,trivial⟩),⟨hk.os.trans h3.os,hk.tape.trans h3.tape,hk.output.trans h3.output,Qj h3.size hk.size,fun k o hko hS2=>hk.same k o (h3.same k o hko hS2) ⟨.inl hS2.1,trivial⟩⟩⟩):P:=h
def WU{P:Prop}(h:P:=by
 rintro i v A B2 ⟨h0,h1,lv,mv,e,r0,r1,o0,o1⟩ hk;exact⟨h0,h1,lv,mv,e,r0.Af hk fun _ _ _ _=>.inr rfl,r1.Af hk fun _ _ _ _=>.inr rfl,o0,o1⟩):P:=h
def GW{P:Prop}(h:P:=by
 rintro i v a' A B2 ⟨b2,cs,e,h1,h2,h3⟩ hk;exact⟨b2,cs,e,hk.same _ _ h1 (.inr rfl),h2,h3⟩):P:=h
def mH{P Q:Prop}(h:Q)(f:Wz Q->P:=by
 intro zz;refine wpIn_region_lit ?_;refine LZ rfl fun K2 hK2=>?_
 go_simp;refine hK2 _ _ ?_;clear hK2 K2;refine Du rfl Z5 _ _ rfl A.heap.size (Ol k0 g0 (.slice ka kn kc) (.slice ga gn gc)).toArray rfl rfl Z5 _ (Ew _ _) kM rfl (KG _ _ _ _ _ _ _ _) ?_;rw[Pn];refine wpListIn_nil ?_;exact zz.o):P:=f ⟨h⟩
def Qbw{P:Prop}(h:P:=by
 have:=congrArg (fun v:Array Q0=>v[0]?) hv;simp only[MJ]at this;injection (Dw this)):P:=h
def Qbx{P:Prop}(h:P:=by
 rw[Z3,Vj _ _ j _ _ _ hb3];have hj9:j<9:=(DT.1 hj).1;simp only[MJ];rw[L3 (by simpa using hj9)];exact hj):P:=h
def Qby{P:Prop}(h:P:=by
 cases ho2;rcases hs2 with⟨c,f,e⟩| ⟨c,f,e⟩<;>(injection e with _ e _;exact absurd e dM)):P:=h
def Qbz{P:Prop}(h:P:=by
 exact hown5.Af hk9 (fun _ _ c f=>.inl ⟨c,f,rfl⟩) fun _ _ c f=>.inr ⟨c,f,rfl⟩):P:=h
def GX{P Q:Prop}(h:Q)(f:Wz Q->P:=by
 intro zz;refine⟨sM,.inl ⟨_,_,rfl,Vx (w:=w9) hDB9,?_⟩⟩;exact zz.o):P:=f ⟨h⟩
def uR{N:Nat}{E:Am}(S:Qz)(t:Aa)(lv:Q0)(w:Qm)(hG:Ah N E w)(hN:N<=w.heap.size)(ho:t.hd.ok)(hr:Ad S w t.l lv)(hs:∀x∈t.flat,Xc x=true)(hS:∀k,w.heap.size<=k->S k)
  (h7:(Q3 t).hd.kind=8)(hlen:(Q3 t).l.length<=2000):Calls prog 38 #[Qu t.hd lv] w (J1 S (Xu t) w):=by
 have hL:Xn (Q3 t).hd=true:=by unfold Xn;rw[h7];rfl
 have ab:Xu t=Xo (.node (Qh (Q3 t).hd.kind) (Zs (Q3 t).l)) t:=by
  unfold Xu Zk BY;rw[hL,Qe rfl,Qe h7]
 have bh:=fun W (hk:Qd w W)=>CE (fun b=>S b/\b≠w.heap.size+1) t lv W (hG.same hk) (Qj hN hk.size) ho ((hr.mono fun b hb h=>(⟨h,oM⟩:S b/\b≠w.heap.size+1)).same hk) hs
 have bd:=fun a n c W=>Np (Q3 t).hd a n c W
 rw[hL]at bd
 generalize hB:Q3 t=B at bh bd h7 ab hlen
 rw[ab]
 obtain⟨a,b7,rfl⟩:=hr.Ab
 have b8:=fun W (hk:Qd w W) yv (hy:Ad (fun b=>S b/\b≠w.heap.size+1) W (Zs B.l) yv)=>C0 (.node (Qh B.hd.kind) (Zs B.l)) t (fun b=>S b/\b≠w.heap.size+1) (.slice a t.l.length b7) yv W (hG.same hk) (Qj hN hk.size) ho ((hr.mono fun b hb h=>(⟨h,oM⟩:S b/\b≠w.heap.size+1)).same hk) hs (K1 B.hd.kind oM) hy
 generalize hR:Xo (.node (Qh B.hd.kind) (Zs B.l)) t=R at b8|-
 generalize hn:t.l.length=n at bh b8|-
 replace h7:=Qc h7
 clear ab hB hL hn hR
 refine(J5 (n:=0)).1 (Vy func38 rfl trivial ?_ rfl)
 simp only[ntmps38]
 refine Ie ?_
 gi_wp2_with fail
 refine(Qr (bh _ Xd)).mono ?_
 rintro e w1 ⟨v1,rfl,ca,f4,hk1⟩
 obtain⟨ba,bc,rfl⟩:=ca.Ab
 refine eY ?_
 intro hkw1 hb1 hb2
 clear hk1
 gi_wp2_with fail
 refine(Qr (bd _ _ _ _)).mono ?_
 rintro e w2 ⟨rfl,hk2⟩
 have cf:Qd w1 w2:=Xd
 refine Qbu ?_
 intro hkw2 hc1 hc2 hc3 hz1 hz12 n0 n1 n2 n3 n4 n5 n6 n7 n8
 clear hk2
 have f9:(B.hd.kind==8)=true:=by rw[h7.out];rfl
 have e0:∀x,(w2.alloc x).cell? (ad w1.heap.size 0)=some (i6 B.hd.kind):=fun x=>X9 n0 x
 have e8:∀x,(w2.alloc x).cell? (ad w1.heap.size 8)=some (.slice ba B.l.length bc):=fun x=>X9 n8 x
 gi_wp2_with(gi_at_call 69;refine(Qr (Yq _ _ _ _)).mono ?_;rintro e w' ⟨rfl,rfl⟩)
 generalize ac:World.alloc (World.alloc w2 _) (.cells #[.slice ba B.l.length bc] 25)=W1
 have f3:W1.heap.size=w2.heap.size+2:=by rw[<-ac];simp
 have m:Qd w2 W1:=by rw[<-ac];exact((Ac.refl _ w2).alloc _).alloc _
 have b1:W1.heap[w2.heap.size]? =some (.cells #[.slice none 0 0] 100 (0,0)):=by rw[<-ac];exact Qb (Qt w2 _)
 have b2:Boxed W1 (w2.heap.size+1) 25 (.slice ba B.l.length bc):=by rw[<-ac];exact Ql sM
 clear ac n0 n1 n2 n3 n4 n5 n6 n7 n8 e0 e8
 have z:=hkw2.trans m
 have d1:=m.s hc1
 have d2:=m.s hc2
 have d3:=m.s hc3
 have b6:Ad (fun b=>S b/\b≠w.heap.size+1) W1 B.l (.slice ba B.l.length bc):=ca.same (cf.trans m)
 obtain⟨Sb,hSbd⟩:∃Sb:Nat->Obj->Prop,Sb=fun b o=>(b=w2.heap.size->∀c f,o≠ .cells c 100 f)/\(W1.heap.size<=b->∀c f,o≠ .cells c Z5 f):=⟨_,rfl⟩
 refine Jt (gf:=122) (lb:=#[pt (w2.heap.size+1)])
  rfl (X3 func122 kM rfl) (B.l.length/2) (DB (fun b=>S b/\b≠w.heap.size+1) B.l) Sb (fun _ _=>True)
  (fun _=>True) (fun _ _=>True) ?hit ?hSb (fun _ _ _ _ _=>trivial)
  (fun i A=>∃lv2,A.heap[w2.heap.size]? =some (.cells #[lv2] 100 (0,0))/\Av (fun b=>S b/\b≠w.heap.size+1) A W1.heap.size lv2 ((Vo B.l).take i)/\Ac (fun b _=>b<W1.heap.size/\b≠w2.heap.size) W1 A)
  (fun _ _ _=>False) ?hI (fun _ _ _ _ h _=>h) ?hE (fun _ _ _ _=>trivial) (fun _ _ _ _ _=>trivial) ?hEs ⟨_,b1,Av.nil _ _ _,Ac.refl _ _⟩
  (fun i v a' A=>∃(bx:Nat) (cs:Array Q0),v=#[.agg cs]/\A.heap[bx]? =some (.cells cs Z5 (0,0))/\W1.heap.size<=bx/\a'={tmps:=#[Qu t.hd (.slice a n b7),pt w.heap.size,pt (w.heap.size+1),pt w1.heap.size,pt w2.heap.size,pt bx,Qu t.hd (.slice a n b7),Qu B.hd (.slice ba B.l.length bc),Qu B.hd (.slice ba B.l.length bc),.bool true,.bool false,undef,pt w1.heap.size,i6 B.hd.kind,.bool true,.pointer (some (ad w1.heap.size 8)),.slice ba B.l.length bc,.func (.func 122) #[] #[pt (w2.heap.size+1)],.agg cs,undef,undef,undef,undef,undef,undef,undef,undef,undef,undef,undef,undef,undef,undef],defers:=[]}) ?hAx ?hassign ?hbody ?hdone (fun _ _ _ _ _ _ h=>h.elim)
 case hit=>
  intro W2 hk2 f7;subst hSbd;exact R9 _ B.l _ _ _ _ W2 (b6.same hk2) (hk2.boxed b2 trivial) (fun c f=>⟨fun h=>oM,fun h=>oM⟩) (fun b c f _=>⟨fun _ c2 f2 e=>by injection e with _ e _;exact absurd e dM,fun _ c2 f2 e=>by injection e with _ e _;exact absurd e dM⟩)
 case hSb=>
  exact mG
 case hI=>
  exact Qf4
 case hE=>
  exact WU
 case hEs=>
  exact Fs
 case hAx=>
  exact GW
 case hassign=>
  rintro lp i v A K hi ⟨lv2,aa,a0,a8⟩ d5 hK;have hE2:=d5;obtain⟨h0,h1,df,c9,rfl,r0,r1,o0,o1⟩:=d5;obtain⟨k0,cd⟩:=X0 ((B.l[2*i]).hd);obtain⟨g0,cc⟩:=X0 ((B.l[2*i+1]).hd);obtain⟨ka,kc,rfl⟩:=r0.Ab;obtain⟨ga,gc,rfl⟩:=r1.Ab;rw[cd,cc]at hK hE2|-;obtain⟨kn,b5⟩:∃n,(B.l[2*i]).l.length=n:=⟨_,rfl⟩;obtain⟨gn,cb⟩:∃n,(B.l[2*i+1]).l.length=n:=⟨_,rfl⟩;rw[b5,cb]at hK hE2|-;clear r0 r1 o0 o1 cd cc b5 cb h0 h1 b6;refine mH ?_;refine hK _ _ ((Ac.refl _ _).alloc _) ⟨lv2,Qb aa,a0.same ((Ac.refl _ _).alloc _),a8.alloc _⟩ ?_ ⟨A.heap.size,_,rfl,Qt A _,a8.size,rfl⟩;exact O0
 case hbody=>
  rintro lp i v a' A fc ⟨rr,f5⟩ f6 ⟨lv2,aa,a0,a8⟩ ⟨h0,h1,df,c9,hv,r0,r1,o0,o1⟩ ⟨b3,cs,rfl,hb3,cg,rfl⟩;have ah:=eZ B.l i h1;obtain⟨r,d7⟩:∃t,B.l[2*i]=t:=⟨_,rfl⟩;rw[d7]at ah r0 o0 hv;obtain⟨ka,kc,rfl⟩:=r0.Ab;obtain⟨gh,da⟩:∃t,(B.l[2*i+1]).hd=t:=⟨_,rfl⟩;rw[da]at hv;have de:cs=(Qn r.hd (.slice ka r.l.length kc)++Qn gh c9).toArray:=by
   exact Qbw
  subst de;obtain⟨kn,b5⟩:∃n,r.l.length=n:=⟨_,rfl⟩;have bg:((Vo B.l).take i).length+1<=17179869184:=by rw[Ji,DQ];omega
  obtain⟨la,lc,rfl⟩:=a0.Ab;have dg:=Ra (b:=A.heap.size) (w:=A.alloc (.cells (Qn r.hd (.slice ka r.l.length kc)++Qn Ya.hd (.slice none 0 0)).toArray Z5)) (f:=(0,0)) 100 r Ya (a0.same ((Ac.refl _ _).alloc _)) (Qt A _) o0 (r0.same ((Ac.refl _ _).alloc _)) (K1 1 dM) (Ad.nil _ _) bg (by have:=a8.size;simp;omega);obtain⟨v5,A5,p,hown5,b4⟩:=dg;rw[<-ah]at hown5;obtain⟨b9,bf,rfl⟩:=hown5.Ab;obtain⟨be,c6⟩:∃n,((Vo B.l).take (i+1)).length=n:=⟨_,rfl⟩;rw[c6]at p hown5;obtain⟨pn,c4⟩:∃n,((Vo B.l).take i).length=n:=⟨_,rfl⟩;rw[c4]at p b4 aa a0;rw[b5]at p hb3;have c1:(Builtin.append_ #[100,100] 100 #[.slice la pn lc,.slice (some (ad A.heap.size 0)) 1 1]).run prog (A.alloc (.cells #[i6 r.hd.kind,.bool r.hd.b,.bool r.hd.d.neg,.string r.hd.d.digits,i6 r.hd.d.exp,.int .u64 (r.hd.u:Int),i6 r.hd.w,.string r.hd.s,.slice ka kn kc,i6 1,.bool false,.bool false,.string ⟨#[]⟩,i6 0,.int .u64 0,i6 0,.string ⟨#[]⟩,.slice none 0 0] Z5))=.ok (.slice b9 be bf) A5:=p;have dh:A.rangeAt b3 0 (Qn r.hd (.slice ka kn kc)):=fun j v hj=>by
   exact Qbx
  obtain⟨k0,k1,k2,k3,k4,k5,k6,k7,k8⟩:=Z0 dh;have c0:=Q4 aa;have ae:Ac (fun b _=>b<W1.heap.size) A A5:=BO a0 b4 fun b c f h1 h2=>oM
  have d8:Ac Sb A A5:=BO a0 b4 fun b c f h1 h2=>by subst hSbd;exact h2.2 h1 c f rfl
  have ag:A5.heap[w2.heap.size]? =some (.cells #[.slice la pn lc] 100 (0,0)):=ae.same _ _ aa oM;have fa:=Jd ag;have c5:=Q4 ag;clear hv p hb3 b6 cg r0 r1;gi_wp2_with(gi_at_builtin;refine Hv _ rfl _ _ 100 rfl _ _ rfl rfl _ _ c1 ?_);have f1:W1.heap.size<=A5.heap.size:=Qj a8.size ae.size;refine⟨d8.setCell _ fun o ho hs2 _=>?_,.slice b9 be bf,Qk ag 0 _,?_,?_⟩
  ·subst hSbd;have ho2:A5.heap[w2.heap.size]? =some o:=ho;rw[ag]at ho2;cases ho2;exact hs2.1 rfl _ _ rfl
  ·have hk9:Ac (fun b o=>(∃c f,o=.cells c 27 f)∨∃c f,o=.cells c Z5 f) A5 (A5.setCell (ad w2.heap.size 0) (.slice b9 be bf)):=(Ac.refl _ A5).setCell _ fun o ho hs2 _=>by
    have ho2:A5.heap[w2.heap.size]? =some o:=ho;rw[ag]at ho2;exact Qby
   exact Qbz
  ·refine(a8.trans (ae.mono fun b o _ h=>h.1)).setCell _ fun o _ hs2 _=>hs2.2 rfl
 case hdone=>
  rintro D w4 hD ⟨lv2,a6,a4,a9⟩ _ hk dd;rw[show(Vo B.l).take (B.l.length/2)=Vo B.l by rw[<-DQ,Vc]]at a4;obtain⟨la,lc,rfl⟩:=a4.Ab;obtain⟨pn,c4⟩:∃n,(Vo B.l).length=n:=⟨_,rfl⟩;rw[c4]at a4 a6;have b0:=a9.same _ _ d1 ⟨Ku d1,Ku hc1⟩;have bb:=a9.same _ _ d2 ⟨Ku d2,Ku hc2⟩;have af:=a9.same _ _ d3 ⟨Ku d3,Ku hc3⟩;have a3:Qd w w4:=Ho z a9 fun b o hb=>⟨by have:=Qg hb;have:=z.size;omega,by have:=Qg hb;have:=hkw2.size;omega⟩
  clear b6 hk a9 d1 d2 d3 b1 b2;gi_wp2;obtain⟨n0,n1,n2,n3,n4,n5,n6,n7,n8⟩:=Qi b0;have m0:=Qi af;have l0:=Q4 a6;refine KC (And.intro b0 (And.intro af a6)) ?_;simp only[Vz];repeat refine sX ?_
  refine Vr ?_;intro K hK;refine(Qr (DO (fun b=>S b/\b≠w.heap.size+1) (Vo B.l) (.slice la pn lc) W1.heap.size w4.drew (a4.same ((Ac.refl _ _).drew)) (by rw[DQ];omega) fun k hk=>⟨hS k (by have:=a3.size;exact Qj this hk),by have:=Qg bb;have fb:w4.heap.size<=k:=hk;omega⟩)).mono ?_;rintro e w5 ⟨v5,rfl,ce,b4⟩;obtain⟨a5,c5,rfl⟩:=ce.Ab;have a2:Qd w4 w5:=Xd;refine hK _ _ ⟨a2.s b0,a2.s af,a2.s a6⟩ ?_;clear hK K;refine Vr ?_;intro K hK;refine(Qr (DM B.hd.kind _ _ _ w5)).mono ?_;rintro e w6 ⟨rfl,c8⟩;have q:=a2.trans c8;refine hK _ _ ⟨q.s b0,q.s af,q.s a6⟩ ?_;clear hK K;refine Vr ?_;intro K hK;refine(Qr (b8 w6 (a3.trans q) _ (by rw[<-JQ];exact ce.same c8) fun k hk=>⟨hS k (Qj (a3.trans q).size hk),by have:=Qg (q.s bb);omega⟩)).mono ?_;rintro e w7 ⟨v7,rfl,d9,db,dc⟩;obtain⟨a7,c7,rfl⟩:=d9.Ab;have y:=q.trans dc;refine hK _ _ ⟨y.s b0,y.s af,y.s a6⟩ ?_;clear hK K;refine DA ?_;have c3:=y.s bb;have fd:=Jd c3;have q0:=Qi c3;go_simp;have d4:=y.s dd;have d0:=a3.trans y;have fe:W1.heap.size<=D:=hD;obtain⟨h9,a1⟩:=Yw c3 R.hd (.slice a7 R.l.length c7);generalize World.setCell (World.setCell _ _ _) _ (.slice a7 R.l.length c7)=w9 at h9 a1|-;have hDB9:=a1.same _ _ d4 (by have:=z.size;have:=Qg hc2;omega);have ch:=Xt d0 a1 oM;have f0:=(d9.Af a1 fun b hb _ _=>hb.2).mono (S':=S) fun b _ hb=>hb.1
  gi_wp2;refine GX ?_;have d6:Ac (fun _ o=>o.isCells=true) w9 (w9.putObj D (.deferred none)):=(Ac.refl _ w9).putObj _ fun o ho hs _=>by
   rw[hDB9]at ho;cases ho;cases hs
  refine⟨_,rcK rfl rfl (d6.same _ _ h9 rfl),_,rfl,f0.Af d6 fun _ _ _ _=>rfl,db,ch.putObj _ fun o _ _ h=>by have:=z.size;omega⟩
def F2{N:Nat}{E:Am}(S:Qz)(t:Aa)(lv:Q0)(w:Qm)(hG:Ah N E w)(hN:N<=w.heap.size)(ho:t.hd.ok)(hr:Ad S w t.l lv)(hs:∀x∈t.flat,Xc x=true)(hS:∀k,w.heap.size<=k->S k)
  (hlen:(Q3 t).l.length<=2000):Calls prog 38 #[Qu t.hd lv] w (J1 S (Xu t) w):=by
 by_cases j:(Q3 t).hd.kind=7
 ·exact uQ S t lv w hG hN ho hr hs hS j
 ·by_cases q:(Q3 t).hd.kind=8
  ·exact uR S t lv w hG hN ho hr hs hS q hlen
  ·exact uP S t lv w hG hN ho hr hs hS (by unfold Xn;simp[j,q])
def BP(b:Nat):Array MapEntry:=#[{key:=.int .i64 1,val:=.func (.func 375) #[.pointer (some ⟨b,0,none⟩)] #[],born:=0},{key:=.int .i64 2,val:=.func (.func 376) #[.pointer (some ⟨b,0,none⟩)] #[],born:=1},{key:=.int .i64 3,val:=.func (.func 377) #[.pointer (some ⟨b,0,none⟩)] #[],born:=2},{key:=.int .i64 4,val:=.func (.func 378) #[.pointer (some ⟨b,0,none⟩)] #[],born:=3},{key:=.int .i64 5,val:=.func (.func 379) #[.pointer (some ⟨b,0,none⟩)] #[],born:=4},{key:=.int .i64 6,val:=.func (.func 380) #[.pointer (some ⟨b,0,none⟩)] #[],born:=5},{key:=.int .i64 7,val:=.func (.func 381) #[.pointer (some ⟨b,0,none⟩)] #[],born:=6},{key:=.int .i64 8,val:=.func (.func 382) #[.pointer (some ⟨b,0,none⟩)] #[],born:=7},{key:=.int .i64 9,val:=.func (.func 383) #[.pointer (some ⟨b,0,none⟩)] #[],born:=8},{key:=.int .i64 10,val:=.func (.func 384) #[.pointer (some ⟨b,0,none⟩)] #[],born:=9}]
def MB(b:Nat)(k:Int):Q0:=if k=1 then .func (.func 375) #[.pointer (some ⟨b,0,none⟩)] #[]else if k=2 then .func (.func 376) #[.pointer (some ⟨b,0,none⟩)] #[]else if k=3 then .func (.func 377) #[.pointer (some ⟨b,0,none⟩)] #[]else if k=4 then .func (.func 378) #[.pointer (some ⟨b,0,none⟩)] #[]else if k=5 then .func (.func 379) #[.pointer (some ⟨b,0,none⟩)] #[]else if k=6 then .func (.func 380) #[.pointer (some ⟨b,0,none⟩)] #[]else if k=7 then .func (.func 381) #[.pointer (some ⟨b,0,none⟩)] #[]else if k=8 then .func (.func 382) #[.pointer (some ⟨b,0,none⟩)] #[]else if k=9 then .func (.func 383) #[.pointer (some ⟨b,0,none⟩)] #[]else if k=10 then .func (.func 384) #[.pointer (some ⟨b,0,none⟩)] #[]else .nilFunc
def mI(b:Nat)(w:Qm):Calls prog 353 #[.pointer (some ⟨b,0,none⟩)] w fun e w'=>∃m,e=.returned (.map (some m))/\w'.heap[m]? =some (.map (BP b) 10)/\Qd w w':=by
 go_in;go_wp2;refine YN ?_;intro X hX;have hs:Qd w X:=by rw[<-hX];exact Xd
 have hm:X.heap[w.heap.size]? =some (.map ((BP b).extract 0 0) 0):=by rw[<-hX];exact Qt w _
 rw[hX];clear hX;go_wp2;rw[Qs (d:=.int .i64) (i6 1) (.func (.func 375) #[pt b] #[]) underlying361 underlying3 rfl hm (by rfl)];generalize hX:World.putObj _ _ _=X;obtain⟨hs,hm⟩:=L6 (o':=.map ((BP b).extract 0 1) 1) hX hs hm;clear hX;go_wp2;rw[Qs (d:=.int .i64) (i6 2) (.func (.func 376) #[pt b] #[]) underlying361 underlying3 rfl hm (by rfl)];generalize hX:World.putObj _ _ _=X;obtain⟨hs,hm⟩:=L6 (o':=.map ((BP b).extract 0 2) 2) hX hs hm;clear hX;go_wp2;rw[Qs (d:=.int .i64) (i6 3) (.func (.func 377) #[pt b] #[]) underlying361 underlying3 rfl hm (by rfl)];generalize hX:World.putObj _ _ _=X;obtain⟨hs,hm⟩:=L6 (o':=.map ((BP b).extract 0 3) 3) hX hs hm;clear hX;go_wp2;rw[Qs (d:=.int .i64) (i6 4) (.func (.func 378) #[pt b] #[]) underlying361 underlying3 rfl hm (by rfl)];generalize hX:World.putObj _ _ _=X;obtain⟨hs,hm⟩:=L6 (o':=.map ((BP b).extract 0 4) 4) hX hs hm;clear hX;go_wp2;rw[Qs (d:=.int .i64) (i6 5) (.func (.func 379) #[pt b] #[]) underlying361 underlying3 rfl hm (by rfl)];generalize hX:World.putObj _ _ _=X;obtain⟨hs,hm⟩:=L6 (o':=.map ((BP b).extract 0 5) 5) hX hs hm;clear hX;go_wp2;rw[Qs (d:=.int .i64) (i6 6) (.func (.func 380) #[pt b] #[]) underlying361 underlying3 rfl hm (by rfl)];generalize hX:World.putObj _ _ _=X;obtain⟨hs,hm⟩:=L6 (o':=.map ((BP b).extract 0 6) 6) hX hs hm;clear hX;go_wp2;rw[Qs (d:=.int .i64) (i6 7) (.func (.func 381) #[pt b] #[]) underlying361 underlying3 rfl hm (by rfl)];generalize hX:World.putObj _ _ _=X;obtain⟨hs,hm⟩:=L6 (o':=.map ((BP b).extract 0 7) 7) hX hs hm;clear hX;go_wp2;rw[Qs (d:=.int .i64) (i6 8) (.func (.func 382) #[pt b] #[]) underlying361 underlying3 rfl hm (by rfl)];generalize hX:World.putObj _ _ _=X;obtain⟨hs,hm⟩:=L6 (o':=.map ((BP b).extract 0 8) 8) hX hs hm;clear hX;go_wp2;rw[Qs (d:=.int .i64) (i6 9) (.func (.func 383) #[pt b] #[]) underlying361 underlying3 rfl hm (by rfl)];generalize hX:World.putObj _ _ _=X;obtain⟨hs,hm⟩:=L6 (o':=.map ((BP b).extract 0 9) 9) hX hs hm;clear hX;go_wp2;rw[Qs (d:=.int .i64) (i6 10) (.func (.func 384) #[pt b] #[]) underlying361 underlying3 rfl hm (by rfl)];generalize hX:World.putObj _ _ _=X;replace hs:Qd w X:=by rw[<-hX];exact hs.putObj _ fun o _ _ h=>oM
 replace hm:X.heap[w.heap.size]? =some (.map ((BP b).extract 0 10) 10):=by rw[<-hX];exact CI (Qg hm)
 exact YO
def XT(A:Qm)(b mb:Nat)(k:Int)(hm:A.heap[mb]? =some (.map (BP b) 10))(hk:k=1∨k=2∨k=3∨k=5∨k=6):
  (Instr.lookup 361 (.map (some mb)) (.int .i64 k) true).run prog A=.ok (.tuple #[MB b k,.bool true]) A:=by
 rcases hk with rfl|rfl|rfl|rfl|rfl
 ·exact Xj (d:=.int .i64) (i:=0) (v:=MB b 1) (i6 1) underlying361 underlying3 rfl hm (by rfl) true
 ·exact Xj (d:=.int .i64) (i:=1) (v:=MB b 2) (i6 2) underlying361 underlying3 rfl hm (by rfl) true
 ·exact Xj (d:=.int .i64) (i:=2) (v:=MB b 3) (i6 3) underlying361 underlying3 rfl hm (by rfl) true
 ·exact Xj (d:=.int .i64) (i:=4) (v:=MB b 5) (i6 5) underlying361 underlying3 rfl hm (by rfl) true
 ·exact Xj (d:=.int .i64) (i:=5) (v:=MB b 6) (i6 6) underlying361 underlying3 rfl hm (by rfl) true
def mJ(p:Q0)(a:Jr)(n cap:Nat)(w:Qm):
  Calls prog 354 #[p,.slice a n cap] w fun e w'=>e=.returned (.func (.func 385) #[] #[.pointer (some ⟨w.heap.size,0,none⟩)])/\w'=w.alloc (.cells #[.slice a n cap] 25):=by
 go_in
 exact Nv
def Qb0(S:Qz)(l:Qp)(i:Nat)(v:Array Q0)(A:Qm):Prop:=∃(h0:i<l.length) (lv:Q0),v=#[Qu (l[i]).hd lv]/\Ad S A (l[i]).l lv/\(l[i]).hd.ok
def GY(S:Qz)(l:Qp)(lv:Q0)(bx:Nat)(Sb Si:Nat->Obj->Prop)(W:Qm)(hr:Ad S W l lv)(hbx:Boxed W bx 25 lv)(hSb1:∀c f,Sb bx (.cells c 25 f))(hSb2:∀b c f,Sb b (.cells c 27 f)):
  Hk prog 385 #[.pointer (some ⟨bx,0,none⟩)] l.length (Qb0 S l) Sb Si (fun _=>True) (fun _ _=>True) W:=by
 rintro lp J Jx hlp hJ a4 hY h0
 refine NS ?_
 intro r hl hne
 obtain⟨a8,a,ac,rfl,ab,hi⟩:=hr.shape
 have a7:=hbx.cell
 refine Nf func385 rfl trivial ?_ rfl
 simp only[ntmps385]
 refine Ie ?_
 gi_wp2
 gi_loopw [7] (fun i wr=>∃k:Nat,k<=l.length/\i=i6 (k:Int)/\J k wr/\Ac (fun b o=>∃c f,o=.cells c 27 f) W wr) (fun i _=>l.length-(RowKit.intOf i).toNat)
 case atStart=>exact⟨0,Xi _,rfl,h0,Ac.refl _ _⟩
 case round=>
  obtain⟨k,hk,rfl,hj,z⟩:=hrel;obtain⟨r1,a1⟩:=hlp k wr hj;clear a7;by_cases hlt:k<l.length
  ·obtain⟨b,ae,ad,rfl,ag,a6,m,d,x⟩:=hi k hlt;obtain⟨af,fz,a5⟩:=a6;have n:=Zd z (fun o ho=>by rw[a5]at ho;cases ho;exact⟨_,_,rfl⟩) x;have v:=m.Af z fun _ _ c f=>⟨c,f,rfl⟩
   obtain⟨a0,p,rfl⟩:=m.Ab;have j:=LW wr (.cells (Qn (l[k]).hd (.slice a0 (l[k]).l.length p)).toArray 27);obtain⟨fn,aa,a2,a9,hy,hR⟩:=hY k _ _ hlt (hJ _ _ _ hj (Ac.of_same j)) ⟨hlt,_,rfl,v.same j,d⟩;generalize(l[k]).hd=hd0 at n hy j hR;generalize(l[k]).l.length=n0 at n hy j hR;have c0:=Rv n;have t:=Qt wr (.cells (Qn hd0 (.slice a0 n0 p)).toArray 27);obtain⟨n0,n1,n2,n3,n4,n5,n6,n7,n8⟩:=Qi t;clear hi hr hbx m v hJ a4 hY;gi_wp2;refine hR.mono ?_;rintro e W3 ⟨q,y⟩;have a3:Ac (fun b o=>∃c f,o=.cells c 27 f) W W3:=by
    refine z.trans ⟨q.os.trans j.os,q.tape.trans j.tape,q.output.trans j.output,Qj j.size q.size,?_⟩;rintro k2 o u ⟨c,f,rfl⟩;refine q.same k2 _ (j.s u) ⟨?_,hSb2 _ _ _⟩;rintro rfl;rw[u]at a1;cases a1
   clear n0 n1 n2 n3 n4 n5 n6 n7 n8 t c0 hy j q;rcases y with⟨rfl,hj3⟩| ⟨rfl,hj3⟩
   ·gi_wp2;exact⟨⟨k+1,oM,by push_cast;rfl,hj3,a3⟩,by simp[RowKit.intOf];omega⟩
   ·exact nE
  ·obtain rfl:k=l.length:=oM;exact Ul
def JR{K:Nat->Obj->Prop}{T:TypeId}{B b:Nat}{xs:Qv}{w w':Qm}(h:P2 T B b xs w)(hk:Ac K w w')(hK:∀k c t f,K k (.cells c t f)):P2 T B b xs w':=by
 have key:∀p,Lib.BuilderAt T 5 B b p (Xl xs) w->Lib.BuilderAt T 5 B b p (Xl xs) w':=by
  rintro p ⟨d,v,x,j,n⟩;refine⟨d,v,hk.same _ _ x (hK _ _ _ _),⟨j.1,?_⟩,n⟩;rcases j.2 with h| ⟨g,m,y,r,u,z,q⟩
  ·exact .inl h
  ·exact .inr ⟨g,m,y,r,u,hk.same _ _ z (hK _ _ _ _),q⟩
 exact iZ
def JS{T:TypeId}{B b:Nat}{xs:Qv}{w:Qm}(h:P2 T B b xs w):∃c,w.heap[b]? =some (.cells c T (0,0)):=by
 rcases h with⟨_,v,j,_⟩| ⟨_,v,j,_⟩<;>exact⟨_,j⟩
def uS(k:Int):Prop:=k=1∨k=2∨k=3∨k=5∨k=6
def uT{N:Nat}{E:Am}(B b:Nat)(h:Hd)(hk:uS h.kind)(hs:h.s.size<=400)(hd:h.d.digits.size<=1099511627776)(hNB:N<=B):
  ∃g,MB b h.kind=.func (.func g) #[.pointer (some ⟨b,0,none⟩)] #[]/\(∀args w,(callFunc g args).run prog w=.ok (.enter g args) w)/\
  ∀(a:Jr) (n cap:Nat) (W:Qm),Ah N E W->Wr B b [] W->B<=W.heap.size->Calls prog g #[.pointer (some ⟨b,0,none⟩),Qu h (.slice a n cap)] W fun e w'=>(∃v,e=.returned v)/\Wr B b (Rm h) w'/\Ac (N2 B b) W w':=by
 obtain⟨k,j⟩:=X0 h.kind
 rw[j]at hk
 rcases hk with rfl|rfl|rfl|rfl|rfl
 ·refine⟨_,by rw[j];rfl,X3 func375 kM rfl,fun a n cap W z y q=>?_⟩
  have:=kI B b h a n cap [] W y sM q;rwa [show Rm h=[]++[246] by unfold Rm;rw[j];rfl]
 ·refine⟨_,by rw[j];rfl,X3 func376 kM rfl,fun a n cap W z y q=>?_⟩
  have:=cR B b h a n cap [] W y sM q;rwa [show Rm h=[]++(if h.b then[245]else[244]) by unfold Rm;rw[j];rfl]
 ·refine⟨_,by rw[j];rfl,X3 func377 kM rfl,fun a n cap W z y q=>?_⟩
  have:=sP B b h a n cap [] W z hd y sM q;rwa [show Rm h=[]++(if(Z9 h.d).1 then Yo 1 (((Z9 h.d).2.1+18446744073709551615) % 18446744073709551616)else Yo 0 (Z9 h.d).2.1) by unfold Rm;rw[j];rfl]
 ·refine⟨_,by rw[j];rfl,X3 func379 kM rfl,fun a n cap W z y q=>?_⟩
  have:=kH B b h a n cap [] W y hs sM q;rwa [show Rm h=[]++Yo 3 h.s.size++Qf h.s by unfold Rm;rw[j];rfl]
 ·refine⟨_,by rw[j];rfl,X3 func380 kM rfl,fun a n cap W z y q=>?_⟩
  have:=sN B b h a n cap [] W y hs sM q;rwa [show Rm h=[]++Yo 2 h.s.size++Qf h.s by unfold Rm;rw[j];rfl]
def SbW(B b:Nat):Nat->Obj->Prop:=fun k o=>(∃c f,o=.cells c 27 f)∨N2 B b k o
def uU{N:Nat}{E:Am}(B b:Nat)(S:Qz)(h:Hd)(tl:Qp)(lv:Q0)(w:Qm)(hG:Ah N E w)(hNB:N<=B)(hb:Wr B b [] w)(hr:Ad S w [Aa.node h tl] lv)(hk:uS h.kind)(hs:h.s.size<=400)(hd:h.d.digits.size<=1099511627776)(hBw:B<=w.heap.size):
  Calls prog 309 #[.pointer (some ⟨b,0,none⟩),lv] w fun e w'=>(∃v,e=.returned v)/\Wr B b (Rm h) w'/\Ac (N2 B b) w w':=by
 obtain⟨g,hg,eg,aa⟩:=uT (N:=N) (E:=E) B b h hk hs hd hNB
 obtain⟨a,r,rfl⟩:=hr.Ab
 have b7:=Ow hb
 refine(J5 (n:=0)).1 (Vy func309 rfl trivial ?_ rfl)
 simp only[ntmps309]
 refine Ie ?_
 gi_wp2
 refine Jy ?_
 gi_wp2_with(gi_at_call 353;refine(Qr (mI b _)).mono ?_;rintro e t ⟨mb,rfl,a8,a6⟩)
 refine Ez ?_
 gi_wp2_with(gi_at_call 354;refine(Qr (mJ _ _ _ _ _)).mono ?_;rintro e w2 ⟨rfl,h9⟩;replace h9:=h9.symm;subst h9)
 generalize u:World.alloc _ (.cells #[.slice a 1 r] 25)=W1
 have bd:W1.heap.size=t.heap.size+2:=by rw[<-u];simp
 have a9:Qd t W1:=by rw[<-u];exact Xd
 have q:Qd w W1:=a6.trans a9
 have b1:Boxed W1 t.heap.size 361 (.map (some mb)):=by rw[<-u];exact Qb (Qt t _)
 have b2:Boxed W1 (t.heap.size+1) 25 (.slice a 1 r):=by rw[<-u];exact Ql sM
 have ab:=a9.s a8
 have af:=Qg ab
 have a5:=hr.same q
 have a4:Wr B b [] W1:=Rz hb q
 have bb:=a6.size
 have ae:=q.size
 clear u a8 hb hr
 refine Jt (gf:=385) (lb:=#[.pointer (some ⟨t.heap.size+1,0,none⟩)])
  rfl (X3 func385 kM rfl) 1 (Qb0 S [Aa.node h tl])
  (SbW B b) (fun _ _=>True) (fun _=>True) (fun _ _=>True) ?hit ?hSb (fun _ _ _ _ _=>trivial)
  (fun i A=>Wr B b (if i=0 then[]else Rm h) A/\Ah N E A/\Boxed A t.heap.size 361 (.map (some mb))/\A.heap[mb]? =some (.map (BP b) 10)/\W1.heap.size<=A.heap.size) (fun _ _ _=>False) ?hI ?hIx ?hE (fun _ _ _ _=>trivial) (fun _ _ _ _ _=>trivial) ?hEs ⟨a4,hG.same q,b1,ab,Q6 _⟩
  (fun i v a' A=>∃b2 lv,v=#[Qu h lv]/\A.heap[b2]? =some (.cells (Qn h lv).toArray 27 (0,0))/\a'={tmps:=#[.pointer (some ⟨b,0,none⟩),.slice a 1 r,undef,undef,.pointer (some ⟨t.heap.size,0,none⟩),.pointer (some ⟨b2,0,none⟩),undef,undef,.pointer (some ⟨b,0,none⟩),.map (some mb),.pointer (some ⟨b,0,none⟩),.slice a 1 r,.func (.func 385) #[] #[.pointer (some ⟨t.heap.size+1,0,none⟩)],Qu h lv,undef,undef,undef,undef,undef,undef,undef,undef,undef,undef,undef,undef],defers:=[]}) ?hAx ?hassign ?hbody ?hdone ?hstop
 case hit=>
  intro W2 a7 ae;exact GY S _ _ _ _ _ W2 (a5.same a7) (a7.boxed b2 trivial) (fun c f=>.inr ⟨oM,.inr fun c f e=>by cases e⟩) (fun k c f=>.inl ⟨c,f,rfl⟩)
 case hSb=>exact fun k o hk ho=>.inr ⟨oM,.inr fun c f e=>by subst e;cases ho⟩
 case hI=>
  rintro i A B2 ⟨z,h2,h3,h4,h5⟩ hk;refine⟨JR z hk fun _ _ _ _=>⟨.inr rfl,trivial⟩,h2.Af hk fun k ad o=>⟨.inl oM,trivial⟩,hk.same _ _ h3 ⟨.inr rfl,trivial⟩,hk.same _ _ h4 ⟨.inl af,trivial⟩,Qj h5 hk.size⟩
 case hIx=>rintro _ _ _ _ h;exact h.elim
 case hE=>
  rintro i v A B2 ⟨h0,lv,e,p,o0⟩ hk;exact⟨h0,lv,e,p.Af hk fun _ _ _ _=>.inr rfl,o0⟩
 case hEs=>
  rintro i v A ⟨h0,lv,e,_⟩;rw[e];rfl
 case hAx=>
  rintro i v a' A B2 ⟨b2,lv,e,z,h2⟩ hk;exact⟨b2,lv,e,hk.same _ _ z (.inr rfl),h2⟩
 case hassign=>
  rintro lp i v A K hi ⟨z,h2,h3,h4,h5⟩ a1 hK;have a3:=a1;obtain⟨h0,lv,rfl,p,o0⟩:=a1;obtain rfl:i=0:=oM;obtain⟨a0,c0,rfl⟩:=p.Ab;simp only[Iv,Aa.Ae,Aa.Ag]at hK a3 p|-;obtain⟨n0,b4⟩:∃n,tl.length=n:=⟨_,rfl⟩;rw[b4]at hK a3|-;gi_wp2;refine hK _ _ ((Ac.refl _ _).alloc _) ?_ ?_ ⟨A.heap.size,_,rfl,Qt A _,rfl⟩
  ·have hs:Qd A _:=(Ac.refl All A).alloc (.cells (Qn h (.slice a0 n0 c0)).toArray 27);exact⟨Rz z hs,h2.same hs,hs.boxed h3 trivial,hs.s h4,Qj h5 hs.size⟩
  ·obtain⟨h0,lv,e,p,o0⟩:=a3;exact⟨h0,lv,e,p.same ((Ac.refl _ _).alloc _),o0⟩
 case hbody=>
  rintro lp i v a' A be ⟨rr,b8⟩ ba ⟨z,h2,h3,h4,h5⟩ a1 ⟨b2,lv,rfl,ah,rfl⟩;obtain rfl:i=0:=oM;obtain⟨h0,b9,e,p,o0⟩:=a1;obtain⟨a0,c0,rfl⟩:=p.Ab;simp only[Iv,Aa.Ae,Aa.Ag]at e p;have b3:∃n,lv=.slice a0 n c0:=by
   have h9:=congrArg (fun(x:Array Q0)=>match x[0]? with|some (.agg cs)=>cs[8]? |_=>none) e;simp[Qu]at h9;exact⟨_,h9⟩
  obtain⟨n,rfl⟩:=b3;rw[Qe rfl]at z;have L:=XT A b mb h.kind h4 hk;rw[hg]at L;have m:=aa a0 n c0 A h2 z oM;have k0:=h3.cell;obtain⟨n0,n1,n2,n3,n4,n5,n6,n7,n8⟩:=Qi ah;clear e p o0 aa a5 b1 a4;gi_wp2;refine(Qr m).mono ?_;rintro e w2 ⟨⟨v,rfl⟩,b0,j⟩;have bc:=j.size;clear n0 n1 n2 n3 n4 n5 n6 n7 n8 k0 L m;gi_wp2;have a2:=JS z;have ag:Ac (SbW B b) A w2:=⟨j.os,j.tape,j.output,j.size,fun k o ho hs=>j.same k o ho (by
   rcases hs with⟨c,f,rfl⟩|hs
   ·refine⟨?_,.inr fun c f e=>by cases e⟩;rintro rfl;obtain⟨c2,y⟩:=a2;rw[ho]at y;cases y
   ·exact hs)⟩
  refine⟨ag,b0,h2.Af j fun k ad o=>⟨oM,.inl oM⟩,?_,?_,oM⟩
  ·exact j.same _ _ h3 ⟨(by rintro rfl;obtain⟨c2,y⟩:=a2;rw[show A.heap[t.heap.size]? =_ from h3]at y;cases y),.inr fun c f e=>by cases e⟩
  ·exact j.same _ _ h4 ⟨(by rintro rfl;obtain⟨c2,y⟩:=a2;rw[h4]at y;cases y),.inr fun c f e=>by cases e⟩
 case hdone=>
  rintro D A hD ⟨z,h2,h3,h4,h5⟩ _ hk hDB;rw[Qa dM]at z;have b6:Ac (N2 B b) w A:=⟨hk.os.trans q.os,hk.tape.trans q.tape,hk.output.trans q.output,Qj q.size hk.size,fun k o ho hs=>hk.same k o (q.same k o ho trivial) ⟨.inr hs,trivial⟩⟩;gi_wp2;refine Sm ?_;have b5:Ac (fun _ o=>o.isCells=true) A (A.putObj D (.deferred none)):=(Ac.refl _ A).putObj _ fun o ho hs h=>by rw[hDB]at ho;cases ho;cases hs
  have ac:Ac (N2 B b) w (A.putObj D (.deferred none)):=b6.putObj _ fun o _ _ h=>oM
  exact⟨_,Dr rfl _ _ _,⟨_,rfl⟩,JR z b5 (fun _ _ _ _=>rfl),ac⟩
 case hstop=>
  rintro D i c A hD hi h;exact h.elim
def OM(h:Hd):∀x∈Rm h,x<256:=by
 intro x hx;unfold Rm at hx;repeat' split at hx
 all_goals first
  |exact UF dM x hx
  |exact(Kn.1 hx).elim (UF dM x) (Yj _ x)
  | (simp at hx;done)
  | (simp at hx;omega)
def Qe4(h:Hd)(hk:uS h.kind):Rm h≠[]:=by
 unfold Rm Yo;generalize j:h.kind=k at hk|-;rcases hk with rfl|rfl|rfl|rfl|rfl;all_goals(repeat' split)<;>simp_all
def fA{N:Nat}{E:Am}(S:Qz)(h:Hd)(tl:Qp)(lv:Q0)(w:Qm)(hG:Ah N E w)(hNw:N<=w.heap.size)(hr:Ad S w [Aa.node h tl] lv)(hk:uS h.kind)(hs:h.s.size<=400)(hd:h.d.digits.size<=1099511627776):
  Calls prog 256 #[lv] w fun e w'=>e=.returned (.string (Xh (Rm h)))/\Qd w w':=by
 obtain⟨a,x,rfl⟩:=hr.Ab
 have f:=Qe4 h hk
 have hx:=OM h
 generalize c:Rm h=ks at f hx|-
 have j:=LW w (.cells #[.pointer none,.slice none 0 0] 323)
 have u:Wr w.heap.size w.heap.size [] (w.alloc (.cells #[.pointer none,.slice none 0 0] 323)):=.inl ⟨Q6 _,.slice none 0 0,Qt _ _,Yz _ _ _ _,by simp[Value.ownBlock]⟩
 have z:=uU w.heap.size w.heap.size S h tl _ _ (hG.same j) hNw u (hr.same j) hk hs hd j.size
 rw[c]at z
 clear hr u
 go_in
 go_wp2_with fail
 refine z.mono ?_
 rintro e w1 ⟨⟨v,rfl⟩,n,q⟩
 obtain⟨cs,a0⟩:=JS n
 have b:=UE _ _ _ ks w1 n hx f
 clear z
 go_wp2_with fail
 refine b.mono ?_
 rintro e w2 ⟨rfl,y⟩
 have a1:=q.size
 have p:=y.size
 have r:=j.size
 go_wp2
 go_ret
 refine⟨rfl,y.os.trans (q.os.trans j.os),y.tape.trans (q.tape.trans j.tape),y.output.trans (q.output.trans j.output),oM,fun k o t _=>?_⟩
 have m:=Qg t
 exact y.same _ _ (q.same _ _ (j.s t) ⟨oM,.inl m⟩) (.inl m)
def Qb1{t:Aa}(h:Jv 2 t=true):uS t.hd.kind:=by
 unfold Jv at h;unfold uS;split at h
 ·omega
 ·rw[Qa dM]at h;split at h
  ·omega
  ·simp only[Y2,Zz]at h;omega
def Rr(t:Aa):Qo × Int:=if Q5 (Kl t) 2=0 then(Xh (Rm t.hd),0)else(⟨#[]⟩,61)
def Qif{P Q:Prop}(h:Q)(f:Wz Q->P:=by
 intro zz;have hrow1:∀W b,Qd w W->W.heap[b]? =some (.cells (Qn t.hd (.slice a t.l.length cap)).toArray 27 (0,0))->Ad K3 W [.node t.hd t.l] (.slice (some ⟨b,0,none⟩) 1 1):=by
  intro W b hs hb;refine Ou (l:=[.node t.hd t.l]) hb trivial ?_ sM sM;show Ak K3 W [.node t.hd t.l] (Qn t.hd (.slice a t.l.length cap));refine Y4 ?_;rw[Kc];exact⟨ho,_,rfl,hr.same hs⟩
 have hck:=fun W (hs:Qd w W) hg hrr=>G8 (N:=N) (E:=E) 2 (Kl t) (.slice (some ⟨w.heap.size+1,0,none⟩) 2 2) W hg oM hrr (K1 8 dM)
 have hown:=@cH t;have hs4:=@Ot t;revert hrow1 hck hown hs4;exact zz.o):P:=f ⟨h⟩
def Qho{P:Prop}(h:P:=by
 rintro x w1 ⟨rfl,hk1⟩;have hk1w:Qd w w1:=Xd;clear hck hrow;go_wp2;refine Ni ?_;exact⟨rfl,rfl,rfl,hk1w⟩):P:=h
def GZ{N:Nat}{E:Am}(t:Aa)(lv:Q0)(w:Qm)(hG:Ah N E w)(hNw:N<=w.heap.size)(ho:t.hd.ok)(hr:Ad K3 w t.l lv)(hd:t.depth<=1000000):
  Calls prog 196 #[Qu t.hd lv] w fun e w'=>e=.returned (.tuple #[.string (Rr t).1,.int .i64 (Rr t).2])/\Qd w w':=by
 have n:=S7 t
 obtain⟨a,cap,rfl⟩:=hr.Ab
 refine Qft ?_
 intro hrow
 refine Qif ?_
 intro hrow1 hck hown hs4
 obtain⟨R,q⟩:=X0 (Rr t)
 rw[q]
 unfold Rr at q
 obtain⟨c,f⟩:=X0 (Q5 (Kl t) 2)
 rw[f]at hck hown q
 replace q:=Qc q
 have j:=@Qb1 t
 obtain⟨h,l⟩:=t
 simp only[Aa.Ae,Aa.Ag]at*
 clear f n hr
 go_in
 go_wp2
 by_cases z:c=0
 ·subst z;obtain⟨v,m⟩:=hown rfl;have u:=hs4 v;have y:=j m;refine IN ?_;go_wp2_with fail;refine kD ?_;rintro x w1 ⟨rfl,hk1⟩;refine zB ?_;intro hbn hk1w;have k:=hk1w.size;have d:=fun(hs:h.s.size<=400)=>fA (N:=N) (E:=E) K3 h l (.slice (some ⟨w1.heap.size,0,none⟩) 1 1) (w1.alloc (.cells (Qn h (.slice a l.length cap)).toArray 27)) (hG.same (hk1w.trans ((Ac.refl _ _).alloc _))) (by simp;omega) (hrow1 _ _ (hk1w.trans ((Ac.refl _ _).alloc _)) (Qt _ _)) y hs ho.2.2.2.2.1
  clear hk1 hck hrow hown hs4 j hrow1;have n0:=Qi hbn;go_wp2_with fail;refine(d u).mono ?_;rintro x w2 ⟨rfl,b⟩;go_wp2
  (try simp only[Exit.noGoto]);go_ret2;exact⟨by rw[<-q.out];rfl,hk1w.trans (((Ac.refl _ _).alloc _).trans b)⟩
 ·clear hown hs4 j hrow1;have p:(c==0)=false:=by rw[X6];exact z
  refine Ip (rest:=?rest) 0 (fun a w'=>a.tmps.size=15/\a.defers=[]/\Qd w w') (fun _ _=>0) ?hf ?_ ?_
  case hf=>rfl
  ·go_wp2_with fail;refine kD ?_;exact Qho
  ·rintro a1 w1 ⟨h1,h2,r⟩;go_wp2;simp only[Exit.jump];go_ret2;refine⟨?_,r⟩;rw[<-q.out,Qa z];simp[Array.getD,h1]
def PU(e:Int)(w:Qm):Calls prog 114 #[.int .i64 e] w fun r w'=>r=.returned (.bool (!decide (e=0)))/\w'=w:=by
 by_cases h:e=0
 ·subst h;go_in;exact Nv
 ·have j:(e==0)=false:=X6.2 h;have hd:decide (e=0)=false:=Z4 h;have v:=Qc hd;have q:=Qc j;clear hd h j;go_in;go_wp2;go_ret;exact⟨by rw[v.out];show Ending.returned (.bool (!(e==0)))=_;rw[q.out],rfl⟩
def qL{P:Prop}(h:P:=by
 go_wp2_with(go_at_call 114;refine(ho1 _).mono ?_;rintro r w' ⟨rfl,h9⟩;replace h9:=h9.symm;subst h9);exact ZP):P:=h
def fB(e1 e2:Int)(b c:Nat)(w:Qm)(h1:w.cell? ⟨b,0,none⟩=some (.int .i64 e1))(h2:w.cell? ⟨b,1,none⟩=some (.int .i64 e2)):
  Calls prog 194 #[.slice (some ⟨b,0,none⟩) 2 c,.func (.func 114) #[] #[]] w fun r w'=>r=.returned (.int .i64 (if e1=0 then(if e2=0 then-1 else 1)else 0))/\w'=w:=by
 have ho1:=fun W=>PU e1 W
 have j:=fun W=>PU e2 W
 by_cases q:e1=0
 ·by_cases v:e2=0
  ·subst q;subst v;go_in;go_wp2;refine Uu ?_;go_wp2_with(go_at_call 114;refine(ho1 _).mono ?_;rintro r w' ⟨rfl,h9⟩;replace h9:=h9.symm;subst h9);rw[Yg];go_wp2_with(go_at_call 114;refine(j _).mono ?_;rintro r w' ⟨rfl,h9⟩;replace h9:=h9.symm;subst h9);rw[Yg];exact Nv
  ·have hd:decide (e2=0)=false:=Z4 v;subst q;rw[hd]at j;rw[Qe rfl,Qa v];clear hd v;go_in;go_wp2;refine Uu ?_;go_wp2_with(go_at_call 114;refine(ho1 _).mono ?_;rintro r w' ⟨rfl,h9⟩;replace h9:=h9.symm;subst h9);rw[Yg];go_wp2_with(go_at_call 114;refine(j _).mono ?_;rintro r w' ⟨rfl,h9⟩;replace h9:=h9.symm;subst h9);exact ZP
 ·have hd:decide (e1=0)=false:=Z4 q;rw[hd]at ho1;rw[Qa q];clear hd q;go_in;go_wp2;refine Uu ?_;exact qL
def fC(e1:Int)(b c:Nat)(w:Qm)(h1:w.cell? ⟨b,0,none⟩=some (.int .i64 e1)):
  Calls prog 194 #[.slice (some ⟨b,0,none⟩) 1 c,.func (.func 114) #[] #[]] w fun r w'=>r=.returned (.int .i64 (if e1=0 then-1 else 0))/\w'=w:=by
 have ho1:=fun W=>PU e1 W
 by_cases j:e1=0
 ·subst j;go_in;go_wp2;refine Ik 2 ?_;rw[Yg];go_wp2_with(go_at_call 114;refine(ho1 _).mono ?_;rintro r w' ⟨rfl,h9⟩;replace h9:=h9.symm;subst h9);rw[Yg];exact Nv
 ·have hd:decide (e1=0)=false:=Z4 j;rw[hd]at ho1;rw[Qa j];clear hd j;go_in;go_wp2;refine Ik 2 ?_;rw[Yg];exact qL
def mK(v:Q0)(k:Int)(w:Qm)(h:Calls prog 194 #[v,.func (.func 114) #[] #[]] w fun r w'=>r=.returned (.int .i64 k)/\w'=w):
  Calls prog 113 #[v,.func (.func 114) #[] #[]] w fun r w'=>r=.returned (.bool (decide (0<=k)))/\w'=w:=by
 go_in
 go_wp2_with(go_at_call 194;refine h.mono ?_;rintro r w' ⟨rfl,j⟩;replace j:=j.symm;subst j)
 exact ZP
def qM(v:Q0)(k:Int)(w:Qm)(h:Calls prog 194 #[v,.func (.func 114) #[] #[]] w fun r w'=>r=.returned (.int .i64 k)/\w'=w):
  Calls prog 64 #[v] w fun r w'=>r=.returned (.bool (!decide (0<=k)))/\w'=w:=by
 have q:=mK v k w h
 go_in
 go_wp2_with(go_at_call 113;refine q.mono ?_;rintro r w' ⟨rfl,j⟩;replace j:=j.symm;subst j)
 exact ZP
def Qb2(e1 e2:Int)(b c:Nat)(w:Qm)(h1:w.cell? ⟨b,0,none⟩=some (.int .i64 e1))(h2:w.cell? ⟨b,1,none⟩=some (.int .i64 e2)):
  Calls prog 64 #[.slice (some ⟨b,0,none⟩) 2 c] w fun r w'=>r=.returned (.bool (decide (e1=0)&&decide (e2=0)))/\w'=w:=by
 refine(qM _ _ w (fB e1 e2 b c w h1 h2)).mono ?_
 rintro r w' ⟨rfl,rfl⟩
 refine⟨?_,rfl⟩
 by_cases q:e1=0<;>by_cases j:e2=0<;>simp[q,j]
def Qb3(e1:Int)(b c:Nat)(w:Qm)(h1:w.cell? ⟨b,0,none⟩=some (.int .i64 e1)):
  Calls prog 64 #[.slice (some ⟨b,0,none⟩) 1 c] w fun r w'=>r=.returned (.bool (decide (e1=0)))/\w'=w:=by
 refine(qM _ _ w (fC e1 b c w h1)).mono ?_
 rintro r w' ⟨rfl,rfl⟩
 refine⟨?_,rfl⟩
 by_cases j:e1=0<;>simp[j]
def Qb4{x y:Nat}(hx:x<256)(hy:y<256):(decide (UInt8.ofNat x<UInt8.ofNat y))=decide (x<y):=by
 simp only[UInt8.lt_iff_toNat_lt,CN];rw[Ye hx,Ye hy]
def Qb5{x y:Nat}(hx:x<256)(hy:y<256):(UInt8.ofNat x==UInt8.ofNat y)=decide (x=y):=by
 rw[Sr];simp only[beq_iff_eq,Zz];constructor
 ·intro h
  have:=congrArg UInt8.toNat h;rwa [CN,CN,Ye hx,Ye hy]at this
 ·rintro rfl;rfl
def fE:∀(a b:Qv),(∀x∈a,x<256)->(∀x∈b,x<256)->Op.bytesLess (a.map UInt8.ofNat) (b.map UInt8.ofNat)=decide (a<b)
 |_,[],_,_=>by
  rename_i a _ _;cases a<;>simp[Op.bytesLess]
 | [],y::b,_,_=>by simp[Op.bytesLess]
 |x::a,y::b,ha,hb=>by
  rw[Zy,Zy,Op.bytesLess,fE a b (fun z hz=>ha z (Kk _ hz)) (fun z hz=>hb z (Kk _ hz)),Qb4 (ha x sM) (hb y sM),Qb5 (ha x sM) (hb y sM)];simp only[List.cons_lt_cons_iff,Bool.decide_or,Bool.decide_and]
def JT{a b:Qv}(ha:∀x∈a,x<256)(hb:∀x∈b,x<256):Op.bytesLess (Xh a).toList (Xh b).toList=decide (a<b):=by
 rw[SO,SO];exact fE a b ha hb
def Qb6{N:Nat}{E:Am}(x y:Aa)(lx ly:Q0)(w:Qm)(hG:Ah N E w)(hN:N<=w.heap.size)(hox:x.hd.ok)(hoy:y.hd.ok)(hrx:Ad K3 w x.l lx)(hry:Ad K3 w y.l ly)(hdx:x.depth<=1000000)(hdy:y.depth<=1000000):
  Calls prog 133 #[Qu x.hd lx,Qu y.hd ly] w fun e w'=>e=.returned (.bool (Ny x y))/\Qd w w':=by
 have c:=fun W (hk:Qd w W)=>GZ x lx W (hG.same hk) (Qj hN hk.size) hox (hrx.same hk) hdx
 have z:=fun W (hk:Qd w W)=>GZ y ly W (hG.same hk) (Qj hN hk.size) hoy (hry.same hk) hdy
 have v:Ny x y=(decide ((Rr x).2=0)&&decide ((Rr y).2=0)&&Op.bytesLess (Rr x).1.toList (Rr y).1.toList):=by
  unfold Ny Qap Rr;by_cases h1:Q5 (Kl x) 2=0
  ·by_cases h2:Q5 (Kl y) 2=0
   ·rw[Qe h1,Qe h2,JT (OM _) (OM _)];simp[h1,h2]
   ·rw[Qa h2];simp[h2]
  ·rw[Qa h1];simp[h1]
 obtain⟨a,cx,rfl⟩:=hrx.Ab
 obtain⟨b,cy,rfl⟩:=hry.Ab
 obtain⟨⟨s,e1⟩,h1⟩:∃r,Rr x=r:=⟨_,rfl⟩
 obtain⟨⟨t,e2⟩,h2⟩:∃r,Rr y=r:=⟨_,rfl⟩
 rw[h1]at c v
 rw[h2]at z v
 generalize hR:Ny x y=R at v|-
 simp only at v
 have HR:=Qc v
 obtain⟨n,hn⟩:=X0 x.l.length
 obtain⟨m,hm⟩:=X0 y.l.length
 obtain⟨⟨k,bb,dd,u,wd,st⟩,a2⟩:∃h,x.hd=h:=⟨_,rfl⟩
 obtain⟨⟨k2,a8,d,u2,a6,a7⟩,a4⟩:∃h,y.hd=h:=⟨_,rfl⟩
 rw[hn,a2]at c
 rw[hm,a4]at z
 rw[hn,hm,a2,a4]
 clear v hR h1 h2 a2 a4 hn hm hox hoy hrx hry hdx hdy
 have a3:=fun B C W h1 h2=>Qb2 e1 e2 B C W h1 h2
 obtain⟨q,hq⟩:=X0 (decide (e1=0)&&decide (e2=0))
 rw[hq]at a3
 have a1:R=(q&&Op.bytesLess s.toList t.toList):=by rw[<-hq];exact HR.out
 replace a1:=Qc a1
 clear HR hq
 cases q with
 |true=>
  go_in;go_wp2_with fail;refine(c _ Xd).mono ?_;rintro e w1 ⟨rfl,p⟩;have j:Qd w w1:=Xd;have f:w1.heap[w.heap.size+1]? =some (.cells #[i6 k2,.bool a8,.bool d.neg,.string d.digits,i6 d.exp,.int .u64 (u2:Int),i6 a6,.string a7,.slice b m cy] 27 (0,0)):=p.s BR;have y0:=Qi f;clear p;go_wp2_with fail;refine(z _ j).mono ?_;rintro e w2 ⟨rfl,a0⟩;have a5:=j.trans a0;clear y0 f c z j a0;go_wp2_with(go_at_call 64;refine(a3 _ _ _ sM sM).mono ?_;rintro e w' ⟨rfl,h9⟩;replace h9:=h9.symm;subst h9);go_ret;exact⟨by rw[a1.out];rfl,Xd⟩
 |false=>
  go_in;go_wp2_with fail;refine(c _ Xd).mono ?_;rintro e w1 ⟨rfl,p⟩;have j:Qd w w1:=Xd;have f:w1.heap[w.heap.size+1]? =some (.cells #[i6 k2,.bool a8,.bool d.neg,.string d.digits,i6 d.exp,.int .u64 (u2:Int),i6 a6,.string a7,.slice b m cy] 27 (0,0)):=p.s BR;have y0:=Qi f;clear p;go_wp2_with fail;refine(z _ j).mono ?_;rintro e w2 ⟨rfl,a0⟩;have a5:=j.trans a0;clear y0 f c z j a0;go_wp2_with(go_at_call 64;refine(a3 _ _ _ sM sM).mono ?_;rintro e w' ⟨rfl,h9⟩;replace h9:=h9.symm;subst h9);go_ret;exact⟨by rw[a1.out];rfl,Xd⟩
def Dg{w:Qm}{b o:Nat}{xs ys:Kb}(h:w.rangeAt b o (xs++ys)):w.rangeAt b o xs:=fun j v q=>h j v (by rw[L3 (DT.1 q).1];exact q)
def LI{w:Qm}{b:Nat}{h:Hd}{lv:Q0}{ys:Kb}(H:w.rangeAt b 0 (Qn h lv++ys)):w.rangeAt b 9 ys:=fun j v q=>by
 have:=H (9+j) v (by rw[MK sM];simpa using q);rwa [Z3]at this
def SZ{w:Qm}{b:Nat}{xs:Kb}{t:TypeId}{f:Nat × Nat}(h:w.heap[b]? =some (.cells xs.toArray t f)):w.rangeAt b 0 xs:=fun j v q=>by
 rw[Z3,Vj _ _ j _ _ _ h];simpa using q
def C1{K:Nat->Obj->Prop}{w W W':Qm}(h:Qd w W)(hk:Ac K W W')(hK:∀b o,b<w.heap.size->K b o):Qd w W':=Ho h hk fun b o j=>(hK b o (Qg j))
def Av.AC{S:Qz}{w:Qm}{B:Nat}{v:Q0}{ps:List (Aa × Aa)}(h:Av S w B v ps){b:Nat}(hv:v.ownBlock=some b):B<=b/\b<w.heap.size:=by
 obtain⟨m,h,_⟩:=h;rcases h.2 with⟨rfl,_⟩| ⟨g,z,q,rfl,y,j,_⟩
 ·cases hv
 ·simp only[Value.ownBlock,Fp]at hv;subst hv;exact⟨y,Qg j⟩
def El{F:Fence}{n:Nat}{P:Program}(w:Qm){ops:Array Oper}{rest:List Oper}{o:Oper}{a:Act}{Q:Exit->Act->Qm->Prop}
  (hg:o.guard=none)(s x:Operand)(t:TypeId)(hop:o.op=Op.call {callee:=Callee.builtin Builtin.copy,args:=#[s,x],argTypes:=#[t,t]})
  (v u:Q0)(hs:a.eval s=v)(hx:a.eval x=u)(v':Q0)(w':Qm)(hrun:(Builtin.copy_ #[t,t] o.type #[v,u]).run P w=.ok v' w')(hK:wpListIn F n P ops Q rest (a.put o.dst v') w'):
  wpListIn F n P ops Q (o::rest) a w:=by
 exact Qbv
def Qf5{P:Prop}(h:P:=by
 have n0:=Qi hbn;have z0:=Qi hbr;have hfz:=Jd hbr;go_wp2;obtain⟨h9,hk9⟩:=Yw hbr t.hd (.slice a n cap);refine DS rfl rfl h9 rfl ⟨_,rfl,?_,ho,Xt hk0 hk9 oM⟩;exact(((hr2.mono fun b hb h=>(⟨h,hb⟩:S b/\b<w.heap.size)).same hk0).Af hk9 fun b hb _ _=>by have:=hb.2;omega).mono fun b _ hb=>hb.1):P:=h
def WV(S:Qz)(id:Int)(t:Aa)(lv:Q0)(w:Qm)(ho:t.hd.ok)(hr:Ad S w t.l lv)(h:¬(id=3/\t.hd.kind=8)):
  Calls prog 81 #[.agg #[.int .i64 id],Qu t.hd lv] w (J1 S t w):=by
 obtain⟨a,cap,rfl⟩:=hr.Ab
 obtain⟨n,q⟩:=X0 t.l.length
 have hr2:Ad S w t.l (.slice a n cap):=by rw[<-q];exact hr
 rw[q]
 clear hr q
 have hbr:(((w.alloc (.cells #[i6 id] 60)).alloc (.cells (nR t.hd (.slice a n cap)) 27)).alloc (.cells zR 27)).heap[w.heap.size+1+1]? =some (.cells zR 27 (0,0)):=Ql sM
 have hbn:(((w.alloc (.cells #[i6 id] 60)).alloc (.cells (nR t.hd (.slice a n cap)) 27)).alloc (.cells zR 27)).heap[w.heap.size+1]? =some (.cells (nR t.hd (.slice a n cap)) 27 (0,0)):=Qb (Ql sM)
 have hk0:Qd w (((w.alloc (.cells #[i6 id] 60)).alloc (.cells (nR t.hd (.slice a n cap)) 27)).alloc (.cells zR 27)):=Xd
 by_cases j:id=3
 ·have v:¬t.hd.kind=8:=fun e=>h ⟨j,e⟩
  subst j;have y:(t.hd.kind==8)=false:=by simpa using v
  clear h v;go_in;go_upto_region 2 with fail;generalize(((w.alloc (.cells #[i6 3] 60)).alloc (.cells (nR t.hd (.slice a n cap)) 27)).alloc (.cells zR 27))=W0 at hbn hbr hk0|-;exact Qf5
 ·have z:(id==3)=false:=by simpa using j
  clear h j;go_in;go_upto_region 2 with fail;generalize(((w.alloc (.cells #[i6 id] 60)).alloc (.cells (nR t.hd (.slice a n cap)) 27)).alloc (.cells zR 27))=W0 at hbn hbr hk0|-;exact Qf5
def Qb7{P Q:Prop}(h:Q)(f:Wz Q->P:=by
 intro zz;obtain⟨Sb,hSbd⟩:∃Sb:Nat->Obj->Prop,Sb=fun b o=>(b=w.heap.size+1+1+1->∀c f,o≠ .cells c 100 f)/\(W1.heap.size<=b->∀c f,o≠ .cells c Z5 f):=⟨_,rfl⟩
 revert Sb hSbd;exact zz.o):P:=f ⟨h⟩
def Qb8{P:Prop}(h:P:=by
 intro W2 hk2 hz3;subst hSbd;exact R9 _ L _ _ _ _ W2 (hrB.same hk2) (hk2.boxed b4 trivial) (fun c f=>⟨fun h=>oM,fun h=>oM⟩) (fun b c f _=>⟨fun _ c2 f2 e=>by injection e with _ e _;exact absurd e dM,fun _ c2 f2 e=>by injection e with _ e _;exact absurd e dM⟩)):P:=h
def Qb9{P:Prop}(h:P:=by
 rintro i v a' A B2 ⟨b2,cs,e,h1,h2,⟨lv2,h3,h4⟩,h5⟩ hk;exact⟨b2,cs,e,hk.same _ _ h1 (.inr rfl),h2,⟨lv2,hk.same _ _ h3 (.inr rfl),h4⟩,h5⟩):P:=h
def mL{P Q:Prop}(h:Q)(f:Wz Q->P:=by
 intro zz;obtain⟨kn,hkn⟩:∃n,(L[2*i]).l.length=n:=⟨_,rfl⟩;obtain⟨gn,hgn⟩:∃n,(L[2*i+1]).l.length=n:=⟨_,rfl⟩;revert kn hkn gn hgn;exact zz.o):P:=f ⟨h⟩
def ON{P Q:Prop}(h:Q)(f:Wz Q->P:=by
 intro zz;have hcs:cs=(Qn kt.hd (.slice ka kt.l.length kc)++Qn gt.hd (.slice ga gt.l.length gc)).toArray:=by
  exact Qbw
 revert hcs;exact zz.o):P:=f ⟨h⟩
def Qca{P Q:Prop}(h:Q)(f:Wz Q->P:=by
 intro zz;have hra:A.rangeAt b3 0 (Qn kt.hd (.slice ka kt.l.length kc)++Qn gt.hd (.slice ga gt.l.length gc)):=fun j v hj=>by
  rw[Z3,Vj _ _ j _ _ _ hb3];simpa using hj
 revert hra;exact zz.o):P:=f ⟨h⟩
def WW{N:Nat}{E:Am}(S:Qz)(t:Aa)(lv:Q0)(w:Qm)(hG:Ah N E w)(hN:N<=w.heap.size)(ho:t.hd.ok)(hr:Ad S w t.l lv)(hd:∀x∈t.l,x.depth<=1000000)(hS:∀k,w.heap.size<=k->S k)
  (h8:t.hd.kind=8)(hlen:t.l.length<=2000):Calls prog 81 #[.agg #[.int .i64 3],Qu t.hd lv] w (J1 S (.node t.hd (Qq (CY t.l (t.l.length/2)))) w):=by
 obtain⟨a,bd,rfl⟩:=hr.Ab
 obtain⟨L,hL⟩:=X0 t.l
 have H8:=Qc h8
 rw[hL]at hr hd hlen|-
 have g6:Ad (fun b=>S b/\b≠w.heap.size+1/\b≠w.heap.size+2) w L (.slice a L.length bd):=hr.mono fun b hb h=>⟨h,oM,oM⟩
 clear hr hL h8
 refine(J5 (n:=0)).1 (Vy func81 rfl trivial ?_ rfl)
 simp only[ntmps81]
 refine Ie ?_
 have je:(t.hd.kind==8)=true:=by rw[H8.out];rfl
 gi_wp2_with(gi_at_call 69;refine(Qr (Yq _ _ _ _)).mono ?_;rintro e w' ⟨rfl,rfl⟩)
 generalize bh:World.alloc _ (.cells #[.slice a L.length bd] 25)=W1
 have jg:W1.heap.size=w.heap.size+5:=by rw[<-bh];simp
 have ch:Qd w W1:=by rw[<-bh];exact Xd
 have bn:W1.heap[w.heap.size+1]? =some (.cells (nR t.hd (.slice a L.length bd)) 27 (0,0)):=by rw[<-bh];exact CH
 have br:W1.heap[w.heap.size+1+1]? =some (.cells zR 27 (0,0)):=by rw[<-bh];exact CH
 have b3:W1.heap[w.heap.size+1+1+1]? =some (.cells #[.slice none 0 0] 100 (0,0)):=by rw[<-bh];exact CH
 have b4:Boxed W1 (w.heap.size+1+1+1+1) 25 (.slice a L.length bd):=by rw[<-bh];exact Ql sM
 clear bh
 have hrB:Ad (fun b=>S b/\b≠w.heap.size+1/\b≠w.heap.size+2) W1 L (.slice a L.length bd):=g6.same ch
 refine Qb7 ?_
 intro Sb hSbd
 refine Jt (gf:=122) (lb:=#[pt (w.heap.size+1+1+1+1)])
  rfl (X3 func122 kM rfl) (L.length/2) (DB (fun b=>S b/\b≠w.heap.size+1/\b≠w.heap.size+2) L) Sb (fun _ _=>True)
  (fun _=>True) (fun _ _=>True) ?hit ?hSb (fun _ _ _ _ _=>trivial)
  (fun i A=>∃lv2,A.heap[w.heap.size+1+1+1]? =some (.cells #[lv2] 100 (0,0))/\Av (fun b=>S b/\b≠w.heap.size+1/\b≠w.heap.size+2) A W1.heap.size lv2 (CY L i)/\Ac (fun b _=>b<W1.heap.size/\b≠w.heap.size+1+1+1) W1 A/\(i=0->lv2=.slice none 0 0))
  (fun _ _ _=>False) ?hI (fun _ _ _ _ h _=>h) ?hE (fun _ _ _ _=>trivial) (fun _ _ _ _ _=>trivial) ?hEs ⟨_,b3,by rw[M9];exact Av.nil _ _ _,Ac.refl _ _,fun _=>rfl⟩
  (fun i v a' A=>∃(bx:Nat) (cs:Array Q0),v=#[.agg cs]/\A.heap[bx]? =some (.cells cs Z5 (0,0))/\W1.heap.size<=bx/\(∃lv2,A.heap[w.heap.size+1+1+1]? =some (.cells #[lv2] 100 (0,0))/\lv2.ownBlock≠some bx)/\a'={tmps:=#[.agg #[i6 3],Qu t.hd (.slice a L.length bd),pt w.heap.size,pt (w.heap.size+1),pt (w.heap.size+1+1),pt (w.heap.size+1+1+1),pt bx,undef,undef,pt w.heap.size,i6 3,.bool false,.bool false,pt (w.heap.size+1),i6 t.hd.kind,.bool false,.bool false,undef,.pointer (some (ad (w.heap.size+1) 8)),.slice a L.length bd,.func (.func 122) #[] #[pt (w.heap.size+1+1+1+1)],.agg cs,undef,undef,undef,undef,undef,undef,undef,undef,undef,undef,undef,undef,undef,undef,undef,undef,undef,undef,undef,undef,undef,undef,undef,undef,undef,undef,undef,undef,undef,undef,undef,undef,undef,undef,undef,undef,undef],defers:=[]}) ?hAx ?hassign ?hbody ?hdone (fun _ _ _ _ _ _ h=>h.elim)
 case hit=>
  exact Qb8
 case hSb=>
  exact mG
 case hI=>
  rintro i A B2 ⟨lv2,h1,h2,h3,h4⟩ hk;exact⟨lv2,hk.same _ _ h1 ⟨.inr rfl,trivial⟩,h2.Af hk (fun _ _ _ _=>⟨.inr rfl,trivial⟩) (fun _ _ _ _=>⟨.inr rfl,trivial⟩),⟨hk.os.trans h3.os,hk.tape.trans h3.tape,hk.output.trans h3.output,Qj h3.size hk.size,fun k o g8 g3=>hk.same k o (h3.same k o g8 g3) ⟨.inl g3.1,trivial⟩⟩,h4⟩
 case hE=>
  exact WU
 case hEs=>
  exact Fs
 case hAx=>
  exact Qb9
 case hassign=>
  rintro lp i v A K hi ⟨lv2,u,b1,b7,d8⟩ fa hK;have hE2:=fa;obtain⟨h0,h1,j2,g4,rfl,r0,r1,o0,o1⟩:=fa;obtain⟨k0,be⟩:=X0 ((L[2*i]).hd);obtain⟨g0,f6⟩:=X0 ((L[2*i+1]).hd);obtain⟨ka,kc,rfl⟩:=r0.Ab;obtain⟨ga,gc,rfl⟩:=r1.Ab;rw[be,f6]at hK hE2|-;refine mL ?_;intro kn hkn gn hgn;rw[hkn,hgn]at hK hE2|-;clear r0 r1 o0 o1 be f6 hkn hgn h0 h1 hrB;refine mH ?_;refine hK _ _ ((Ac.refl _ _).alloc _) ⟨lv2,Qb u,b1.same ((Ac.refl _ _).alloc _),b7.alloc _,d8⟩ ?_ ⟨A.heap.size,_,rfl,Qt A _,b7.size,⟨lv2,Qb u,b1.lt (Q6 _)⟩,rfl⟩;exact O0
 case hbody=>
  rintro lp i v a' A k9 ⟨rr,ja⟩ jf ⟨lv2,u,b1,b7,d8⟩ ⟨h0,h1,j2,g4,hv,r0,r1,o0,o1⟩ ⟨b3,cs,rfl,hb3,j9,⟨g7,ce,j0⟩,rfl⟩;obtain rfl:g7=lv2:=by rw[u]at ce;cases ce;rfl
  have fh:Qd w A:=Ho ch b7 fun b o hb=>⟨Ku hb,Ku hb⟩
  have ah:=MA L i h1;have b2:=EP L i oM;have d5:=JP L i oM;have ff:(L[2*i]).depth<=1000000:=hd _ (Zp _);generalize hO:CY L i=O at ah b2 b1 d5;obtain⟨kt,g2⟩:∃t,L[2*i]=t:=⟨_,rfl⟩;rw[g2]at ah r0 o0 hv ff;obtain⟨gt,f4⟩:∃t,L[2*i+1]=t:=⟨_,rfl⟩;rw[f4]at ah r1 o1 hv;obtain⟨ka,kc,rfl⟩:=r0.Ab;obtain⟨ga,gc,rfl⟩:=r1.Ab;refine ON ?_;intro hcs;subst hcs;refine Qca ?_;intro hra;have de:=fun W (hk:Qd w W) nd ly (hy:nd.hd.ok) (hr9:Ad K3 W nd.l ly) (hkr:Ad K3 W kt.l (.slice ka kt.l.length kc)) (hdn:nd.depth<=1000000)=>Qb6 kt nd (.slice ka kt.l.length kc) ly W (hG.same hk) (Qj hN hk.size) o0 hy hkr hr9 ff hdn
  obtain⟨la,lc,rfl⟩:=b1.Ab;rw[b2]at u j0 d8;have c0:=Q4 u;have a7:=hb3;clear hv g2 f4 hb3 hrB hO b4 bn br ce;gi_wp2_with fail;gi_loopw [7] (fun v wr=>∃k:Nat,k<=i/\v=i6 (k:Int)/\(∀j (hj:j<O.length),k<=j->Ny kt O[j].1=true)/\Qd A wr) (fun v _=>(RowKit.intOf v).toNat)
  case atStart=>exact⟨i,Q6 _,rfl,fun j hj h=>oM,Ac.refl _ _⟩
  case round=>
   obtain⟨k,f5,rfl,cc,c1⟩:=hrel;have b9:=c1.s u;have fg:=Qy c1 hra;have d9:=Dg fg;have d0:=Q4 b9;obtain⟨k0,k1,k2,k3,k4,k5,k6,k7,k8⟩:=Z0 d9;by_cases be:k=0
   ·have gg:decide (0<k)=false:=by simp[be]
    have ab:=qK (p:=(kt,gt)) (ps:=O) (k:=k) oM cc (.inl be);have g1:=Qc ab;clear be ab cc;gi_wp2_with fail;refine gR b9 ?_;repeat refine sX ?_
    iterate 9 refine sK ?_
    repeat refine sX ?_
    refine Jc ?_;have aa:Qd A wr.drew:=c1.drew;gi_wp2_with fail;generalize wr.drew=W8 at aa|-;obtain⟨z,hz,bf⟩:=JN W8 k (i+1) oM oM;push_cast at bf;have bb:=(b1.same aa).same ((Ac.refl _ W8).alloc (.cells z Z5));have hD:=Qt W8 (.cells z Z5);obtain⟨W9,c2,a2,a9⟩:=JO (k:=k) 3 z hD bb oM oM oM hz;rw[b2]at c2;rw[bf];have cd:=aa.s u;have e0:=Q4 (Qb (o:=.cells z Z5) cd);gi_wp2_with(gi_at_builtin;refine El _ rfl _ _ 100 rfl _ _ rfl rfl _ _ c2 ?_);have gd:=aa.size;have a4:Qd A W9:=C1 (aa.trans ((Ac.refl _ W8).alloc (.cells z Z5))) a9 (fun b _ hb=>oM);have bc:=a4.s u;have ba:=a4.s a7;clear a9 c2 bf bb hD e0;refine Gh (fun Z=>Z.heap[w.heap.size+1+1+1]? =some (.cells #[.slice la i lc] 100 (0,0))/\Z.heap[b3]? =some (.cells (Qn kt.hd (.slice ka kt.l.length kc)++Qn gt.hd (.slice ga gt.l.length gc)).toArray Z5 (0,0))) reads (fun _=>trivial) rfl kM rfl kM kM ⟨bc,ba⟩ ?_;simp only[Vz];refine K6 rfl rfl ?_;intro K hK w' hs;go_simp;refine hK _ _ ?_;clear hK K hs w';refine eW rfl rfl Z5 _ rfl b3 0 rfl (Qn kt.hd (.slice ka kt.l.length kc)++Qn gt.hd (.slice ga gt.l.length gc)) _ (fun w' hs=>SZ hs.2) ⟨bc,ba⟩ underlying99 rfl kM ?_;refine Kd rfl rfl ?_;intro K hK;go_simp;show K _ (W9.drew.alloc (.cells (Qn kt.hd (.slice ka kt.l.length kc)++Qn gt.hd (.slice ga gt.l.length gc)).toArray Z5));have a0:Qd W9 (W9.drew.alloc (.cells (Qn kt.hd (.slice ka kt.l.length kc)++Qn gt.hd (.slice ga gt.l.length gc)).toArray Z5)):=((Ac.refl _ W9).drew).alloc _;have b6:=Qt W9.drew (.cells (Qn kt.hd (.slice ka kt.l.length kc)++Qn gt.hd (.slice ga gt.l.length gc)).toArray Z5);generalize W9.drew.alloc (.cells (Qn kt.hd (.slice ka kt.l.length kc)++Qn gt.hd (.slice ga gt.l.length gc)).toArray Z5)=W10 at a0 b6|-;have q:=a4.trans a0;refine hK _ _ ⟨q.s u,q.s a7⟩ ?_;clear hK K;obtain⟨v5,A5,af,a3,a8⟩:=Ra (S:=(fun b=>S b/\b≠w.heap.size+1/\b≠w.heap.size+2)) (b:=W9.heap.size) 100 kt gt (a2.same a0) b6 o0 (r0.same q) o1 (r1.same q) (by rw[Ji];omega) (by have:=a0.size;have:=a4.size;have:=(a2.AC (b:=W8.heap.size) rfl).2;omega);have ca:=a8.size;have d:Qd A A5:=C1 q a8 (fun b _ hb e=>(by simp only[Value.ownBlock,Fp]at e;omega));refine Kd rfl rfl ?_;intro K hK;refine Rn _ _ rfl rfl rfl af ?_;have ac:=d.s u;refine hK _ _ ⟨ac,d.s a7⟩ ?_;clear hK K af a8;have c5:=Q4 ac;refine K6 rfl rfl ?_;intro K hK w' hs;have q0:=Q4 hs.1;go_simp;refine hK _ _ ?_;clear hK K q0 hs w';refine K6 rfl rfl ?_;intro K hK w' hs;go_simp;refine hK _ _ ?_;clear hK K hs w';have hcut:=(b1.same d).cut (k:=k) oM;rw[b2]at hcut;refine GV rfl rfl (eX la i lc k) (fun W=>FK _ _ rfl la i lc k rfl rfl f5 hcut.2 W) ?_;obtain⟨v6,A6,ae,a1,b5⟩:=FJ 100 a3 hcut.1 (by rw[Zv,Ji,CB];simp only[Xf,Vp];omega) (by have:=ca;have:=(a2.AC (b:=W8.heap.size) rfl).2;have:=a0.size;omega);have a6:Qd A A6:=C1 d b5 (fun b _ hb e=>(by have:=a3.AC e;omega));refine Kd rfl rfl ?_;intro K hK;refine Rn _ _ rfl rfl rfl ae ?_;have y:=a6.s u;refine hK _ _ ⟨y,a6.s a7⟩ ?_;clear hK K ae b5 hcut a3 ac d c5;rw[Y1,show O.take k++([(kt,gt)]++O.drop k)=CY L (i+1) by rw[ah,g1.out];rfl]at a1;obtain⟨cg,d2,cf⟩:=a1.Ab;rw[EP L (i+1) oM]at cf;subst cf;refine BD (G5 rfl ?_);have c5:=Q4 y;have j4:=Jd y;go_simp;refine⟨(Ac.of_same a6).setCell _ fun o ho b0 _=>by subst hSbd;have ag:A6.heap[w.heap.size+1+1+1]? =some o:=ho;rw[y]at ag;cases ag;exact b0.1 rfl _ _ rfl,.slice cg (i+1) d2,Qk y 0 _,?_,?_,fun h=>oM⟩;{have a9:Ac (fun b o=>(∃c f,o=.cells c 27 f)∨∃c f,o=.cells c Z5 f) A6 (A6.setCell (ad (w.heap.size+1+1+1) 0) (.slice cg (i+1) d2)):=(Ac.refl _ A6).setCell _ fun o ho b0 _=>by{have ag:A6.heap[w.heap.size+1+1+1]? =some o:=ho;rw[y]at ag;cases ag;rcases b0 with⟨c,f,e⟩| ⟨c,f,e⟩<;>(injection e with _ e _;exact absurd e dM)};exact(a1.base (by have:=b7.size;omega)).Af a9 (fun _ _ c f=>.inl ⟨c,f,rfl⟩) fun _ _ c f=>.inr ⟨c,f,rfl⟩};{exact(b7.trans (Ac.of_same a6)).setCell _ fun o _ b0 _=>b0.2 rfl}
   ·obtain⟨c,dc⟩:∃c,k=c+1:=⟨k-1,oM⟩;have gg:decide (0<k)=true:=by simp;omega
    have df:c<O.length:=oM;obtain⟨g,j8,lk,lx,e9,dd,jd,jc,f9,rn,fe,j6,cb⟩:=(b1.same c1).get c df;have hdn:=hd _ (d5 _ (Zp df)).1;have gh:la=some (ad g 0):=by injection e9
    subst gh;clear e9 dd fe j6;have c6:Ny kt O[c].1=true->∀j (hj:j<O.length),c<=j->Ny kt O[j].1=true:=fun hr j hj jb=>by
     by_cases e:c=j
     ·subst e;exact hr
     ·exact cc j hj oM
    have ab:Ny kt O[c].1=false->BG (kt,gt) O=O.take k++(kt,gt)::O.drop k:=fun hr=>qK (p:=(kt,gt)) (ps:=O) (k:=k) oM cc (.inr ⟨oM,by simp only[dc,YT];exact hr⟩)
    obtain⟨nd,fd⟩:∃x,O[c].1=x:=⟨_,rfl⟩;rw[fd]at f9 rn cb hdn c6 ab;obtain⟨na,nc,rfl⟩:=rn.Ab;have d4:=Dg cb;have bg:=fun W (hs:Qd wr W)=>de W ((fh.trans c1).trans hs) nd (.slice na nd.l.length nc) f9 ((rn.mono fun _ _ _=>trivial).same hs) (((r0.mono fun _ _ _=>trivial).same c1).same hs) hdn
    generalize hr:Ny kt nd=r at bg c6 ab;obtain⟨nn,da⟩:∃n,nd.l.length=n:=⟨_,rfl⟩;rw[da]at bg;rw[da]at d4;have d7:=Qc c6;have c4:=Qc ab;have ch:(k:Int)-1=(c:Int):=oM;have j5:(c:Int)< (i:Int):=oM;have g9:IntKind.i64.wrap (c:Int)=(c:Int):=by rw[BW];omega
    have f0:=Qc dc;have m0:=Rv d4;clear be cc c6 ab cb fd hr da dc df;gi_wp2_with fail;refine gR (And.intro b9 (And.intro d9 d4)) ?_;repeat refine sX ?_
    iterate 8 refine sG ?_
    refine Sv ?_;intro K hK;refine(Qr (bg _ ((Ac.refl _ wr).drew))).mono ?_;rintro e w2 ⟨rfl,hk2⟩;have b8:Qd wr w2:=((Ac.refl _ wr).drew).trans hk2;refine hK _ _ ⟨b8.s b9,Qy b8 d9,Qy b8 d4⟩ ?_;clear hK K k0 k1 k2 k3 k4 k5 k6 k7 k8 m0 d0;repeat refine sX ?_
    refine Jc ?_;have aa:Qd A w2:=c1.trans b8;cases r with
    |true=>
     have c9:=d7.out rfl;replace c9:=Qc c9;clear d7 c4;gi_wp2;exact⟨⟨c,by have:=f0.out;omega,by first|rfl| (congr 1),c9.out,aa⟩,by have:=f0.out;simp[RowKit.intOf];omega⟩
    |false=>
     have c3:=c4.out rfl;replace c3:=Qc c3;clear d7 c4 g9 ch j5;have d0:=Q4 (b8.s b9);gi_wp2_with fail;generalize w2=W8 at aa|-;obtain⟨z,hz,bf⟩:=JN W8 k (i+1) oM oM;push_cast at bf;have bb:=(b1.same aa).same ((Ac.refl _ W8).alloc (.cells z Z5));have hD:=Qt W8 (.cells z Z5);obtain⟨W9,c2,a2,a9⟩:=JO (k:=k) 3 z hD bb oM oM oM hz;rw[b2]at c2;rw[bf];have cd:=aa.s u;have e0:=Q4 (Qb (o:=.cells z Z5) cd);gi_wp2_with(gi_at_builtin;refine El _ rfl _ _ 100 rfl _ _ rfl rfl _ _ c2 ?_);have gd:=aa.size;have a4:Qd A W9:=C1 (aa.trans ((Ac.refl _ W8).alloc (.cells z Z5))) a9 (fun b _ hb=>oM);have bc:=a4.s u;have ba:=a4.s a7;clear a9 c2 bf bb hD e0;refine Gh (fun Z=>Z.heap[w.heap.size+1+1+1]? =some (.cells #[.slice (some (ad g 0)) i lc] 100 (0,0))/\Z.heap[b3]? =some (.cells (Qn kt.hd (.slice ka kt.l.length kc)++Qn gt.hd (.slice ga gt.l.length gc)).toArray Z5 (0,0))) reads (fun _=>trivial) rfl kM rfl kM kM ⟨bc,ba⟩ ?_;simp only[Vz];refine K6 rfl rfl ?_;intro K hK w' hs;go_simp;refine hK _ _ ?_;clear hK K hs w';refine eW rfl rfl Z5 _ rfl b3 0 rfl (Qn kt.hd (.slice ka kt.l.length kc)++Qn gt.hd (.slice ga gt.l.length gc)) _ (fun w' hs=>SZ hs.2) ⟨bc,ba⟩ underlying99 rfl kM ?_;refine Kd rfl rfl ?_;intro K hK;go_simp;show K _ (W9.drew.alloc (.cells (Qn kt.hd (.slice ka kt.l.length kc)++Qn gt.hd (.slice ga gt.l.length gc)).toArray Z5));have a0:Qd W9 (W9.drew.alloc (.cells (Qn kt.hd (.slice ka kt.l.length kc)++Qn gt.hd (.slice ga gt.l.length gc)).toArray Z5)):=((Ac.refl _ W9).drew).alloc _;have b6:=Qt W9.drew (.cells (Qn kt.hd (.slice ka kt.l.length kc)++Qn gt.hd (.slice ga gt.l.length gc)).toArray Z5);generalize W9.drew.alloc (.cells (Qn kt.hd (.slice ka kt.l.length kc)++Qn gt.hd (.slice ga gt.l.length gc)).toArray Z5)=W10 at a0 b6|-;have q:=a4.trans a0;refine hK _ _ ⟨q.s u,q.s a7⟩ ?_;clear hK K;obtain⟨v5,A5,af,a3,a8⟩:=Ra (S:=(fun b=>S b/\b≠w.heap.size+1/\b≠w.heap.size+2)) (b:=W9.heap.size) 100 kt gt (a2.same a0) b6 o0 (r0.same q) o1 (r1.same q) (by rw[Ji];omega) (by have:=a0.size;have:=a4.size;have:=(a2.AC (b:=W8.heap.size) rfl).2;omega);have ca:=a8.size;have d:Qd A A5:=C1 q a8 (fun b _ hb e=>(by simp only[Value.ownBlock,Fp]at e;omega));refine Kd rfl rfl ?_;intro K hK;refine Rn _ _ rfl rfl rfl af ?_;have ac:=d.s u;refine hK _ _ ⟨ac,d.s a7⟩ ?_;clear hK K af a8;have c5:=Q4 ac;refine K6 rfl rfl ?_;intro K hK w' hs;have q0:=Q4 hs.1;go_simp;refine hK _ _ ?_;clear hK K q0 hs w';refine K6 rfl rfl ?_;intro K hK w' hs;go_simp;refine hK _ _ ?_;clear hK K hs w';have hcut:=(b1.same d).cut (k:=k) oM;rw[b2]at hcut;refine GV rfl rfl (eX (some (ad g 0)) i lc k) (fun W=>FK _ _ rfl (some (ad g 0)) i lc k rfl rfl f5 hcut.2 W) ?_;obtain⟨v6,A6,ae,a1,b5⟩:=FJ 100 a3 hcut.1 (by rw[Zv,Ji,CB];simp only[Xf,Vp];omega) (by have:=ca;have:=(a2.AC (b:=W8.heap.size) rfl).2;have:=a0.size;omega);have a6:Qd A A6:=C1 d b5 (fun b _ hb e=>(by have:=a3.AC e;omega));refine Kd rfl rfl ?_;intro K hK;refine Rn _ _ rfl rfl rfl ae ?_;have y:=a6.s u;refine hK _ _ ⟨y,a6.s a7⟩ ?_;clear hK K ae b5 hcut a3 ac d c5;rw[Y1,show O.take k++([(kt,gt)]++O.drop k)=CY L (i+1) by rw[ah,c3.out];rfl]at a1;obtain⟨cg,d2,cf⟩:=a1.Ab;rw[EP L (i+1) oM]at cf;subst cf;refine BD (G5 rfl ?_);have c5:=Q4 y;have j4:=Jd y;go_simp;refine⟨(Ac.of_same a6).setCell _ fun o ho b0 _=>by subst hSbd;have ag:A6.heap[w.heap.size+1+1+1]? =some o:=ho;rw[y]at ag;cases ag;exact b0.1 rfl _ _ rfl,.slice cg (i+1) d2,Qk y 0 _,?_,?_,fun h=>oM⟩;{have a9:Ac (fun b o=>(∃c f,o=.cells c 27 f)∨∃c f,o=.cells c Z5 f) A6 (A6.setCell (ad (w.heap.size+1+1+1) 0) (.slice cg (i+1) d2)):=(Ac.refl _ A6).setCell _ fun o ho b0 _=>by{have ag:A6.heap[w.heap.size+1+1+1]? =some o:=ho;rw[y]at ag;cases ag;rcases b0 with⟨c,f,e⟩| ⟨c,f,e⟩<;>(injection e with _ e _;exact absurd e dM)};exact(a1.base (by have:=b7.size;omega)).Af a9 (fun _ _ c f=>.inl ⟨c,f,rfl⟩) fun _ _ c f=>.inr ⟨c,f,rfl⟩};{exact(b7.trans (Ac.of_same a6)).setCell _ fun o _ b0 _=>b0.2 rfl}
 case hdone=>
  rintro D w4 hD ⟨lv2,f1,d1,c8,_⟩ _ hk gb;have d6:Qd w w4:=Ho ch c8 fun b o hb=>⟨Ku hb,Ku hb⟩
  have j3:=c8.same _ _ bn ⟨oM,oM⟩;have j1:=c8.same _ _ br ⟨oM,oM⟩;have b2:=EP L (L.length/2) (Q6 _);generalize hO:CY L (L.length/2)=O at d1 b2;have HO:=Qc hO;obtain⟨la,lc,rfl⟩:=d1.Ab;rw[b2]at f1;have l0:=Q4 f1;have jh:=c8.size;have dh:=fun W (hs:Qd w4 W)=>DO (fun b=>S b/\b≠w.heap.size+1/\b≠w.heap.size+2) O (.slice la O.length lc) W1.heap.size W (d1.same hs) oM fun k hk=>⟨hS k (Qj (Qj d6.size hs.size) hk),by have:=hs.size;omega,by have:=hs.size;omega⟩
  rw[b2]at dh;clear hrB hk c8 bn br b3 b4 hO;gi_wp2_with fail;refine(Qr (dh _ (by first|exact Ac.refl _ _|exact Xd))).mono ?_;rintro e w5 ⟨v5,rfl,db,a8⟩;obtain⟨a5,c5,rfl⟩:=db.Ab;generalize hm:(Qq O).length=m at db|-;have HM:=Qc hm;have fc:=d6.trans a8;have f3:=a8.s gb;have dg:=a8.s j3;have g5:=a8.s j1;have kb:W1.heap.size<=D:=hD;have f2:(w5.setCell (ad (w.heap.size+1) 8) (.slice a5 m c5)).heap[w.heap.size+1]? =some (.cells (nR t.hd (.slice a5 m c5)) 27 (0,0)):=Qk dg 8 _;have b5:Ac (fun k _=>k≠w.heap.size+1) w5 (w5.setCell (ad (w.heap.size+1) 8) (.slice a5 m c5)):=(Ac.refl _ w5).setCell _ fun o _ hs _=>hs rfl
  have d3:=b5.same _ _ g5 oM;have j7:w5.frozen? (ad (w.heap.size+1) 8)=false:=Je dg 8;have ge:=Jd d3;have x0:=Qi dg;have n0:=Qi f2;have y0:=Qi d3;clear hm;gi_wp2;obtain⟨h9,a9⟩:=Yw d3 t.hd (.slice a5 m c5);have c7:Ac (fun k _=>k≠w.heap.size+1/\k≠w.heap.size+1+1) w5 _:=(b5.mono fun b o _ h=>h.1).trans (a9.mono fun b o _ h=>h.2);clear b5 a9 x0 n0 y0 f2 d3 j7 ge;generalize World.setCell (World.setCell (World.setCell (World.setCell _ _ _) _ _) _ _) _ (.slice a5 m c5)=w9 at h9 c7|-;have hDB9:=c7.same _ _ f3 ⟨oM,oM⟩;have f7:Qd w w9:=C1 fc c7 fun b _ hb=>⟨oM,oM⟩
  have hr9:=(db.Af c7 fun b hb _ _=>hb.2).mono (S':=S) fun b _ hb=>hb.1
  refine GX ?_;have fb:Ac (fun _ o=>o.isCells=true) w9 (w9.putObj D (.deferred none)):=(Ac.refl _ w9).putObj _ fun o ho hs _=>by
   rw[hDB9]at ho;cases ho;cases hs
  refine⟨_,rcK rfl rfl (fb.same _ _ h9 rfl),.slice a5 m c5,?_,?_,ho,f7.putObj _ fun o _ _ h=>oM⟩
  ·rfl
  ·rw[HO.out];exact hr9.Af fb fun _ _ _ _=>rfl
def DR{N:Nat}{E:Am}(S:Qz)(id:Int)(t:Aa)(lv:Q0)(w:Qm)(hG:Ah N E w)(hN:N<=w.heap.size)(ho:t.hd.ok)(hr:Ad S w t.l lv)(hd:∀x∈t.l,x.depth<=1000000)(hS:∀k,w.heap.size<=k->S k)
  (hlen:t.l.length<=2000):Calls prog 81 #[.agg #[.int .i64 id],Qu t.hd lv] w (J1 S (Zg id t) w):=by
 by_cases h:id=3/\t.hd.kind=8
 ·have e:Zg id t=.node t.hd (Qq (CY t.l (t.l.length/2))):=by unfold Zg;rw[Qe h,uN]
  obtain⟨rfl,j⟩:=h;rw[e];exact WW S t lv w hG hN ho hr hd hS j hlen
 ·have e:Zg id t=t:=by unfold Zg;rw[Qa h]
  rw[e];exact WV S id t lv w ho hr h
def Qig(fo:Nat)(lb:Array Q0)(n:Nat)(x:Nat->Aa)(st:Nat->Aj)(R:Nat->Aa)(S0:Qz)(w:Qm):Prop:=
 ∀(i:Nat),i<n->∀(S:Qz) (lx:Q0) (W:Qm),(∀b,b<w.heap.size->S0 b->S b)->Qd w W->(x i).hd.ok->Ad S W (x i).l lx->(∀k,W.heap.size<=k->S k)->
  Calls prog fo (#[Yp (st i),Qu (x i).hd lx]++lb) W (J1 S (R i) W)
def J7{l:Qp}{i:Nat}(h:i<l.length):Xp l i=l[i]:=by unfold Xp;rw[K9,Km h];rfl
def fF{fo:Nat}{lb:Array Q0}(hent:∀args w,(callFunc fo args).run prog w=.ok (.enter fo args) w)(S:Qz)(id:Int)(t:Aa)(lv:Q0)(R:Nat->Aa)(w:Qm)(ho:t.hd.ok)(hr:Ad S w t.l lv)(hS:∀k,w.heap.size<=k->S k)
  (h7:t.hd.kind=7)(hlen:t.l.length<=2000)(hO:Qig fo lb t.l.length (Xp t.l) X4 R S w):
  Calls prog 79 #[.agg #[.int .i64 id],Qu t.hd lv,.func (.func fo) #[] lb] w fun e w'=>∃v',e=.returned v'/\Ad S w' ((List.range t.l.length).map R) v'/\Qd w w':=by
 have be:(t.hd.kind==7)=true:=by simp[h7]
 obtain⟨_,a,a7,rfl,a4,hi⟩:=hr.shape
 obtain⟨h,hh⟩:=X0 t.hd
 obtain⟨l,hl⟩:=X0 t.l
 rw[hh]at be ho
 rw[hl]at hi hlen hO a4
 rw[hh,hl]
 generalize hn:l.length=n at a4 hlen hO|-
 clear hr hh hl h7
 go_in
 go_wp2
 have ba:(((w.alloc (.cells #[i6 id] 60)).alloc (.cells (Qn h (.slice a n a7)).toArray 27)).alloc (.cells #[.func (.func fo) #[] lb] 107)).heap[w.heap.size+1+1]? =some (.cells #[.func (.func fo) #[] lb] 107 (0,0)):=Ql sM
 have bf:Qd w (((w.alloc (.cells #[i6 id] 60)).alloc (.cells (Qn h (.slice a n a7)).toArray 27)).alloc (.cells #[.func (.func fo) #[] lb] 107)):=Xd
 have bb:(((w.alloc (.cells #[i6 id] 60)).alloc (.cells (Qn h (.slice a n a7)).toArray 27)).alloc (.cells #[.func (.func fo) #[] lb] 107)).heap.size=w.heap.size+3:=sM
 go_loopw [7,18] (fun v iv wr=>∃i:Nat,i<=n/\iv=i6 (i:Int)/\Ar (fun b=>S b/\(b<w.heap.size∨w.heap.size+3<=b)) wr (w.heap.size+3) v ((List.range i).map R)/\wr.heap[w.heap.size+1+1]? =some (.cells #[.func (.func fo) #[] lb] 107 (0,0))/\Qd w wr/\w.heap.size+3<=wr.heap.size)
  (fun _ iv _=>n-(RowKit.intOf iv).toNat)
 case atStart=>exact⟨0,oM,rfl,by simpa using Ar.nil _ _ _,ba,bf,Mz bb.symm⟩
 case round=>
  obtain⟨i,ce,rfl,z,hb,f,cb⟩:=hrel;have b0:((List.range i).map R).length=i:=by rw[Vq,KS]
  obtain⟨va,vc,hv⟩:=z.Ab;rw[b0]at hv;subst hv;by_cases b8:i<n
  ·have a1:i<l.length:=oM;obtain⟨g,cd,bc,rfl,bh,⟨cc,fc,af⟩,b5,ag,a3⟩:=hi i a1;have a0:=Qy f a3;have p:=(b5.mono (S':=fun y=>(S y/\(y<w.heap.size∨w.heap.size+3<=y))/\(Value.slice va i vc).ownBlock≠some y) fun y hy h=>⟨⟨h,.inl hy⟩,z.apart oM⟩).same f;have a5:=fun y (hy:wr.heap.size<=y)=>z.lt hy
   have a2:(List.range (i+1)).map R=(List.range i).map R++[R i]:=by rw[OW,Hg];rfl
   have q:=fun W (hs:Qd wr W)=>hO i b8 (fun y=>(S y/\(y<w.heap.size∨w.heap.size+3<=y))/\(Value.slice va i vc).ownBlock≠some y) bc W (fun y hy h=>⟨⟨h,.inl hy⟩,z.apart oM⟩) (f.trans hs) (by rw[J7 a1];exact ag) (by rw[J7 a1];exact p.same hs)
    (fun y hy=>⟨⟨hS y (by have:=f.size;have:=hs.size;omega),.inr (by have:=hs.size;omega)⟩,a5 y (by have:=hs.size;omega)⟩)
   unfold J1 at q;rw[J7 a1]at q;generalize hx:l[i]=x at q a0;obtain⟨xh,ah⟩:∃h,x.hd=h:=⟨_,rfl⟩;rw[ah]at q a0;obtain⟨xa,xc,rfl⟩:=p.Ab;obtain⟨xn,b3⟩:∃n,l[i].l.length=n:=⟨_,rfl⟩;rw[b3]at q a0;obtain⟨⟨rh,rl⟩,hR⟩:∃r,R i=r:=⟨_,rfl⟩;rw[hR]at q a2;simp only[Aa.Ae,Aa.Ag]at q;replace a2:=Qc a2;clear hR b3 ah hx b5 p a3 af hi hO;obtain⟨c0,c1,c2,c3,c4,c5,c6,c7,c8⟩:=Z0 a0;have d0:=Q4 hb;have d1:∀x,(wr.alloc x).cell? (ad (w.heap.size+1+1) 0)=some (.func (.func fo) #[] lb):=fun x=>X9 d0 x
   go_wp2_with fail;refine(q _ Xd).mono ?_;rintro e w6 ⟨bg,rfl,a8,b2,b9⟩;obtain⟨a6,ac,rfl⟩:=a8.Ab;have c:Qd wr w6:=Xd;have aa:=c.s hb;have m:=z.same c;have ca:=c.size;have b6:=f.trans c;clear b9 c0 c1 c2 c3 c4 c5 c6 c7 c8 d0 d1 a0 q z hb c a5;go_wp2_with(at_builtin;refine Jn (v:=.slice va i vc) (ts:=[.node rh rl]) (news:=Qn rh (.slice a6 rl.length ac)) rfl _ _ rfl rfl rfl (m.same ((Ac.refl _ _).alloc _)) rfl ?c2 ?c3 (N6 _ _ _ _) ?c4 ?c5 ?_)
   case c2=>exact Y4 (Kc.2 ⟨b2,_,rfl,a8.same ((Ac.refl _ _).alloc _)⟩)
   case c3=>exact fun j u h=>Jw _ _ _ _ _ h
   case c4=>simp only[Xf,Vp,b0];omega
   case c5=>simp;omega
   intro v' w3 d hg;have ab:=LW w6 (.cells (Qn rh (.slice a6 rl.length ac)).toArray 27);have b7:Qd w w3:=Ds (b6.trans ab) oM (m.same ab) hg;have b1:=(hg.block (w.heap.size+1+1) (by have:=Qg aa;simp;omega) (fun e=>m.apart (b:=w.heap.size+1+1) oM e.symm)).trans (Qb aa);have bd:w.heap.size+3<=w3.heap.size:=Qg b1;rw[<-a2.out]at d;obtain⟨a9,c9,ae⟩:=d.Ab;rw[Vq,KS]at ae;subst ae;clear hg ab a8 m aa;go_wp2;refine⟨?_,by simp[RowKit.intOf];omega⟩;exact⟨i+1,oM,by go_num,d,b1,b7,bd⟩
  ·obtain rfl:i=n:=oM;have b4:=z.rep (S:=fun b=>S b/\(b<w.heap.size∨w.heap.size+3<=b)) (fun y hy=>⟨hS y oM,.inr hy⟩) oM;clear hi hO;go_wp2;go_ret;exact⟨_,rfl,b4.mono fun _ _ h=>h.1,f⟩
def Hw(l:Qp)(R:Nat->Aa)(i:Nat):List (Aa × Aa):=(List.range i).map fun j=>(Xp l (2*j),R j)
def G1(l:Qp)(R:Nat->Aa)(i:Nat):(Hw l R i).length=i:=by unfold Hw;rw[Vq,KS]
def fG(l:Qp)(R:Nat->Aa)(i:Nat):Hw l R (i+1)=Hw l R i++[(Xp l (2*i),R i)]:=by unfold Hw;rw[OW,Hg];rfl
def fH{fo:Nat}{lb:Array Q0}(hent:∀args w,(callFunc fo args).run prog w=.ok (.enter fo args) w)(S:Qz)(id:Int)(t:Aa)(lv:Q0)(R:Nat->Aa)(w:Qm)(ho:t.hd.ok)(hr:Ad S w t.l lv)(hS:∀k,w.heap.size<=k->S k)
  (h8:t.hd.kind=8)(hlen:t.l.length<=2000)(hO:Qig fo lb (t.l.length/2) (fun i=>Xp t.l (2*i+1)) (fun i=>Yb (Xp t.l (2*i)).hd.s) R S w):
  Calls prog 79 #[.agg #[.int .i64 id],Qu t.hd lv,.func (.func fo) #[] lb] w fun e w'=>∃v',e=.returned v'/\Ad S w' (Qq (Hw t.l R (t.l.length/2))) v'/\Qd w w':=by
 have d9:(t.hd.kind==7)=false:=by simp[h8]
 obtain⟨a,a7,rfl⟩:=hr.Ab
 obtain⟨h,hh⟩:=X0 t.hd
 obtain⟨L,hL⟩:∃l,t.l=l:=⟨_,rfl⟩
 rw[hh]at d9 ho
 rw[hL]at hlen hO hr
 rw[hh,hL]
 clear hh hL h8
 refine(J5 (n:=0)).1 (Vy func79 rfl trivial ?_ rfl)
 simp only[ntmps79]
 refine Ie ?_
 gi_wp2_with(gi_at_call 69;refine(Qr (Yq _ _ _ _)).mono ?_;rintro e w' ⟨rfl,rfl⟩)
 generalize a3:World.alloc _ (.cells #[.slice a L.length a7] 25)=W1
 have f1:W1.heap.size=w.heap.size+5:=by rw[<-a3];simp
 have be:Qd w W1:=by rw[<-a3];exact Xd
 have b2:W1.heap[w.heap.size+1+1]? =some (.cells #[.func (.func fo) #[] lb] 107 (0,0)):=by rw[<-a3];exact CH
 have b3:W1.heap[w.heap.size+1+1+1]? =some (.cells #[.slice none 0 0] 100 (0,0)):=by rw[<-a3];exact CH
 have b4:Boxed W1 (w.heap.size+1+1+1+1) 25 (.slice a L.length a7):=by rw[<-a3];exact Ql sM
 clear a3
 have hrB:Ad S W1 L (.slice a L.length a7):=hr.same be
 refine Qb7 ?_
 intro Sb hSbd
 refine Jt (gf:=122) (lb:=#[pt (w.heap.size+1+1+1+1)])
  rfl (X3 func122 kM rfl) (L.length/2) (DB S L) Sb (fun _ _=>True)
  (fun _=>True) (fun _ _=>True) ?hit ?hSb (fun _ _ _ _ _=>trivial)
  (fun i A=>∃lv2,A.heap[w.heap.size+1+1+1]? =some (.cells #[lv2] 100 (0,0))/\Av S A W1.heap.size lv2 (Hw L R i)/\Ac (fun b _=>b<W1.heap.size/\b≠w.heap.size+1+1+1) W1 A)
  (fun _ _ _=>False) ?hI (fun _ _ _ _ h _=>h) ?hE (fun _ _ _ _=>trivial) (fun _ _ _ _ _=>trivial) ?hEs ⟨_,b3,Av.nil _ _ _,Ac.refl _ _⟩
  (fun i v a' A=>∃(bx:Nat) (cs:Array Q0),v=#[.agg cs]/\A.heap[bx]? =some (.cells cs Z5 (0,0))/\W1.heap.size<=bx/\(∃lv2,A.heap[w.heap.size+1+1+1]? =some (.cells #[lv2] 100 (0,0))/\lv2.ownBlock≠some bx)/\a'={tmps:=#[.agg #[i6 id],Qu h (.slice a L.length a7),.func (.func fo) #[] lb,pt w.heap.size,pt (w.heap.size+1),pt (w.heap.size+1+1),.slice none 0 0,undef,undef,undef,pt (w.heap.size+1+1+1),pt bx,pt (w.heap.size+1),i6 h.kind,.bool false,undef,undef,undef,undef,undef,undef,undef,undef,undef,undef,undef,undef,undef,undef,undef,undef,undef,undef,.pointer (some (ad (w.heap.size+1) 8)),.slice a L.length a7,.func (.func 122) #[] #[pt (w.heap.size+1+1+1+1)],.agg cs,undef,undef,undef,undef,undef,undef,undef,undef,undef,undef,undef,undef,undef,undef,undef,undef],defers:=[]}) ?hAx ?hassign ?hbody ?hdone (fun _ _ _ _ _ _ h=>h.elim)
 case hit=>
  exact Qb8
 case hSb=>
  exact mG
 case hI=>
  exact Qf4
 case hE=>
  exact WU
 case hEs=>
  exact Fs
 case hAx=>
  exact Qb9
 case hassign=>
  rintro lp i v A K hi ⟨lv2,r,a9,a1⟩ d0 hK;have hE2:=d0;obtain⟨h0,h1,de,bc,rfl,r0,r1,o0,o1⟩:=d0;obtain⟨k0,cb⟩:=X0 ((L[2*i]).hd);obtain⟨g0,ca⟩:=X0 ((L[2*i+1]).hd);obtain⟨ka,kc,rfl⟩:=r0.Ab;obtain⟨ga,gc,rfl⟩:=r1.Ab;rw[cb,ca]at hK hE2|-;refine mL ?_;intro kn hkn gn hgn;rw[hkn,hgn]at hK hE2|-;clear r0 r1 o0 o1 cb ca hkn hgn h0 h1 hrB;refine mH ?_;refine hK _ _ ((Ac.refl _ _).alloc _) ⟨lv2,Qb r,a9.same ((Ac.refl _ _).alloc _),a1.alloc _⟩ ?_ ⟨A.heap.size,_,rfl,Qt A _,a1.size,⟨lv2,Qb r,a9.lt (Q6 _)⟩,rfl⟩;exact O0
 case hbody=>
  rintro lp i v a' A f4 ⟨rr,f0⟩ da ⟨lv2,r,a9,a1⟩ ⟨h0,h1,de,bc,hv,r0,r1,o0,o1⟩ ⟨b3,cs,rfl,hb3,dh,⟨d8,b5,bf⟩,rfl⟩;obtain rfl:d8=lv2:=by rw[r]at b5;cases b5;rfl
  have bb:Qd w A:=Ho be a1 fun b o hb=>⟨Ku hb,Ku hb⟩
  have bd:=a1.same _ _ b2 ⟨oM,oM⟩;have p:=fG L R i;have q:=fun W (hs:Qd A W)=>hO i da S bc W (fun _ _ h=>h) (bb.trans hs) (by show(Xp L (2*i+1)).hd.ok;rw[J7 h1];exact o1) (by show Ad S W (Xp L (2*i+1)).l bc;rw[J7 h1];exact r1.same hs) fun y hy=>hS y (Qj (Qj bb.size hs.size) hy)
  unfold J1 at q;simp only[J7 h0,J7 h1]at q;rw[J7 h0]at p;obtain⟨kt,d7⟩:∃t,L[2*i]=t:=⟨_,rfl⟩;rw[d7]at q p r0 o0 hv;obtain⟨gt,c9⟩:∃t,L[2*i+1]=t:=⟨_,rfl⟩;rw[c9]at q r1 o1 hv;obtain⟨rt,ch⟩:∃t,R i=t:=⟨_,rfl⟩;rw[ch]at q p;obtain⟨ka,kc,rfl⟩:=r0.Ab;obtain⟨ga,gc,rfl⟩:=r1.Ab;refine ON ?_;intro hcs;subst hcs;have a4:A.rangeAt b3 0 (Qn kt.hd (.slice ka kt.l.length kc)):=fun j v hj=>by
   exact Qbx
  have a6:A.rangeAt b3 9 (Qn gt.hd (.slice ga gt.l.length gc)):=fun j v hj=>by
   rw[Vj _ _ _ _ _ _ hb3];simp only[MJ];rw[MK sM];simpa using hj
  obtain⟨la,lc,rfl⟩:=a9.Ab;rw[G1]at r bf;obtain⟨kn,hkn⟩:∃n,kt.l.length=n:=⟨_,rfl⟩;obtain⟨gn,hgn⟩:∃n,gt.l.length=n:=⟨_,rfl⟩;rw[hkn]at a4;rw[hgn]at a6 q;obtain⟨kh,af⟩:∃n,kt.hd=n:=⟨_,rfl⟩;obtain⟨gh,c6⟩:∃n,gt.hd=n:=⟨_,rfl⟩;rw[af]at a4 q;rw[c6]at a6 q;replace af:=Qc af;replace hkn:=Qc hkn;clear hv d7 c9 ch hb3 hrB hO c6 hgn b2 b4;obtain⟨k0,k1,k2,k3,k4,k5,k6,k7,k8⟩:=Z0 a4;obtain⟨g0,g1,g2,g3,g4,g5,g6,g7,g8⟩:=Z0 a6;have c0:=Q4 r;have c1:=Q4 bd;gi_wp2;refine KC (And.intro r (And.intro bd (And.intro a4 a6))) ?_;simp only[Vz];repeat refine sX ?_
  refine Vr ?_;intro K hK;refine(Qr (q _ ((Ac.refl _ A).drew))).mono ?_;rintro e A6 ⟨f2,rfl,cg,db,c2⟩;obtain⟨ra,rc,rfl⟩:=cg.Ab;have m:Qd A A6:=((Ac.refl _ A).drew).trans c2;have ac:=m.s r;have ae:=m.s bd;have b8:=Qy m a4;have ba:=Qy m a6;have b9:=a9.same m;have c3:=r0.same m;refine hK _ _ ⟨ac,ae,b8,ba⟩ ?_;clear hK K q k0 k1 k2 k3 k4 k5 k6 k7 k8 g0 g1 g2 g3 g4 g5 g6 g7 g8 c2 a4 a6 c0 c1;repeat refine sX ?_
  refine Vr ?_;intro K hK;show K _ (A6.alloc (.cells (Qn kh (.slice ka kn kc)++Qn rt.hd (.slice ra rt.l.length rc)).toArray Z5));have x:=LW A6 (.cells (Qn kh (.slice ka kn kc)++Qn rt.hd (.slice ra rt.l.length rc)).toArray Z5);have df:=Qt A6 (.cells (Qn kh (.slice ka kn kc)++Qn rt.hd (.slice ra rt.l.length rc)).toArray Z5);obtain⟨v5,A5,a2,hown5,d⟩:=Ra (b:=A6.heap.size) (lk:=.slice ka kn kc) (lx:=.slice ra rt.l.length rc) 100 kt rt (b9.same x) (by rw[af.out];exact df) o0 (by rw[hkn.out]at c3;exact c3.same x) db (cg.same x) (by rw[G1];omega) (Qj a1.size (Qj m.size x.size));rw[G1]at a2 d;rw[<-p]at hown5;obtain⟨c7,d4,ce⟩:=hown5.Ab;rw[G1]at ce;subst ce;have b0:=x.s ac;have b1:=x.s ae;have a8:=Qy x b8;have aa:=Qy x ba;have dg:Ac (fun b _=>(Value.slice la i lc).ownBlock≠some b) (A6.alloc (.cells (Qn kh (.slice ka kn kc)++Qn rt.hd (.slice ra rt.l.length rc)).toArray Z5)) A5:=d;generalize cd:(A6.alloc (.cells (Qn kh (.slice ka kn kc)++Qn rt.hd (.slice ra rt.l.length rc)).toArray Z5))=A7 at a2 d x b0 b1 a8 aa|-;refine hK _ _ ⟨b0,b1,a8,aa⟩ ?_;clear hK K;have a0:=b9;rw[G1]at a0;have ab:Ac (fun b _=>b<W1.heap.size) A6 A5:=BO (z:=.cells (Qn kh (.slice ka kn kc)++Qn rt.hd (.slice ra rt.l.length rc)).toArray Z5) a0 (by rw[cd];exact d) fun b c f h1 h2=>oM
  have d5:Ac Sb A6 A5:=BO (z:=.cells (Qn kh (.slice ka kn kc)++Qn rt.hd (.slice ra rt.l.length rc)).toArray Z5) a0 (by rw[cd];exact d) fun b c f h1 h2=>by subst hSbd;exact h2.2 h1 c f rfl
  have ah:Ac (fun b _=>(Value.slice la i lc).ownBlock≠some b) A7 A5:=d;have u:=ab.same _ _ ac oM;have c8:=ab.same _ _ ae oM;have d1:=Zd ah (fun _ _=>bf) a8;have d3:=Zd ah (fun _ _=>bf) aa;refine Kd rfl rfl ?_;intro K hK;refine Rn _ _ rfl rfl rfl a2 ?_;refine hK _ _ ⟨u,c8,d1,d3⟩ ?_;clear hK K a2;refine DA ?_;have c5:=Q4 u;have f3:=Jd u;go_simp;have cf:Ac (fun b _=>b<W1.heap.size) A A5:=(Ac.of_same m).trans ab;have d6:Ac Sb A A5:=(Ac.of_same m).trans d5;refine⟨d6.setCell _ fun o ho hs2 _=>?_,.slice c7 (i+1) d4,Qk u 0 _,?_,?_⟩
  ·subst hSbd;have ho2:A5.heap[w.heap.size+1+1+1]? =some o:=ho;rw[u]at ho2;cases ho2;exact hs2.1 rfl _ _ rfl
  ·have hk9:Ac (fun b o=>(∃c f,o=.cells c 27 f)∨∃c f,o=.cells c Z5 f) A5 (A5.setCell (ad (w.heap.size+1+1+1) 0) (.slice c7 (i+1) d4)):=(Ac.refl _ A5).setCell _ fun o ho hs2 _=>by
    have ho2:A5.heap[w.heap.size+1+1+1]? =some o:=ho;rw[u]at ho2;exact Qby
   exact Qbz
  ·refine(a1.trans (cf.mono fun b o _ h=>h.1)).setCell _ fun o _ hs2 _=>hs2.2 rfl
 case hdone=>
  rintro D w4 hD ⟨lv2,c4,b7,bh⟩ _ hk dc;have b6:Qd w w4:=Ho be bh fun b o hb=>⟨Ku hb,Ku hb⟩
  obtain⟨la,lc,rfl⟩:=b7.Ab;rw[G1]at c4;have l0:=Q4 c4;have bg:=fun W (hs:Qd w4 W)=>DO S (Hw L R (L.length/2)) (.slice la (Hw L R (L.length/2)).length lc) W1.heap.size W (b7.same hs) (by rw[G1];omega) fun k hk=>hS k (Qj (Qj b6.size hs.size) hk)
  rw[G1]at bg;clear hrB hk bh b2 b3 b4 hO;gi_wp2_with fail;refine(Qr (bg _ (by first|exact Ac.refl _ _|exact Xd))).mono ?_;rintro e w5 ⟨v5,rfl,cc,d⟩;obtain⟨a5,c5,rfl⟩:=cc.Ab;have d2:=b6.trans d;have ag:=d.s dc;gi_wp2;refine⟨sM,.inl ⟨_,_,rfl,Vx (w:=w5) ag,?_⟩⟩;have dd:Ac (fun _ o=>o.isCells=true) w5 (w5.putObj D (.deferred none)):=(Ac.refl _ w5).putObj _ fun o ho hs _=>by
   rw[ag]at ho;cases ho;cases hs
  have f5:W1.heap.size<=D:=hD;exact⟨_,Gn rfl _ _ _,.slice a5 (Qq (Hw L R (L.length/2))).length c5,rfl,cc.Af dd fun _ _ _ _=>rfl,d2.putObj _ fun o _ _ h=>oM⟩
def Dm(x:Aa)(l:Qp)(i:Nat):Xp (x::l) (i+1)=Xp l i:=by simp[Xp]
def F3(id:Int):∀l:Qp,Fx id l=(List.range l.length).map fun i=>Zf id (Xp l i)
 | []=>by simp[Fx]
 |x::l=>by
  rw[Fx,F3 id l,Xf,Pa,Zy,Ka];rfl
def MD(id:Int):∀l:Qp,Y8 id l=Qq ((List.range (l.length/2)).map fun i=>(Xp l (2*i),Zf id (Xp l (2*i+1))))
 | []=>by simp[Y8,Qq]
 | [x]=>by simp[Y8,Qq]
 |k::x::l=>by
  rw[Y8,MD id l,Xf,Xf,show(l.length+1+1)/2=l.length/2+1 by omega,Pa,Zy,Ka,Xm];congr 3
def XU(id:Int)(d:Dc):(Yx id d).depth<=4:=by
 have v:∀neg s,(Cm neg s).depth<=2:=by
  intro neg s;unfold Cm;simp only;split
  ·exact Nat.le_succ 1
  ·exact Q6 2
 rw[M8];split
 ·exact(by decide:1<=4)
 ·split
  ·exact(by decide:1<=4)
  ·split
   ·exact(by decide:1<=4)
   ·have j:∀a b:Aa,(dO 4 (.node (Qh 7) [a,b])).depth=max (max a.depth (max b.depth 0)+1) 0+1:=fun _ _=>rfl
    rw[j];have y:(Rb (Fw (decide (d.exp<0)) d.exp.natAbs)).depth=1:=rfl;have z:=v d.neg d.digits;rw[y];generalize(Cm d.neg d.digits).depth=q at z|-;omega
def uW{p q:Aa × Aa}{ps:List (Aa × Aa)}(h:q∈BG p ps):q=p∨q∈ps:=by
 exact Qbr
def fI:∀(ps o:List (Aa × Aa)) (q:Aa × Aa),q∈ps.foldl (fun o p=>BG p o) o->q∈o∨q∈ps
 | [],o,q,h=>.inl h
 |p::ps,o,q,h=>by
  rcases fI ps (BG p o) q h with h|h
  ·rcases uW h with rfl|h
   ·exact .inr sM
   ·exact .inl h
  ·exact .inr (Kk _ h)
def N1:∀(l:Qp) (q:Aa × Aa),q∈Xa l->q.1∈l/\q.2∈l
 |k::x::l,q,h=>by
  rw[Xa]at h;rcases Xg.1 h with rfl|h
  ·simp
  ·have:=N1 l q h;exact⟨by simp[this.1],by simp[this.2]⟩
 | [],q,h=>by simp[Xa]at h
 | [_],q,h=>by simp[Xa]at h
def IV{id:Int}{t x:Aa}(h:x∈(Zg id t).l):x∈t.l:=by
 unfold Zg at h;split at h
 ·rw[Aa.Ag]at h;obtain⟨q,j,h⟩:=J6.1 h;rcases fI _ _ q j with j|j
  ·cases j
  ·have:=N1 _ q j;rcases h with rfl|rfl
   ·exact this.1
   ·exact this.2
 ·exact h
def fJ:∀(ps o:List (Aa × Aa)),(ps.foldl (fun o p=>BG p o) o).length=o.length+ps.length
 | [],o=>rfl
 |p::ps,o=>by
  rw[Ue,fJ ps (BG p o)];have:(BG p o).length=o.length+1:=by
   unfold BG;simp only;rw[Zv,Xf,Ji,CB];omega
  rw[this,Xf];omega
def Ta(id:Int)(t:Aa):(Zg id t).l.length<=t.l.length:=by
 unfold Zg;split
 ·rw[Aa.Ag,Z6,fJ];have:∀l:Qp,2*(Xa l).length<=l.length:=by
   intro l;match l with
   | []=>simp[Xa]
   | [_]=>simp[Xa]
   |k::x::l=>
    have j:∀l:Qp,(Xa l).length=l.length/2:=by
     intro l;induction l using Xa.induct with
     |case1 k x l ih=>rw[Xa,Xf,ih];simp only[Xf];omega
     |case2 l h=>
      cases l with
      |nil=>simp[Xa]
      |cons a l=>cases l with
       |nil=>simp[Xa]
       |cons b l=>exact absurd rfl (h a b l)
    rw[j];omega
  have:=this t.l;simp only[Vp,Z3];exact this
 ·exact Q6 _
def Dn{l:Qp}{n:Nat}(h:∀x∈l,x.depth<=n):Xr l<=n:=by
 induction l with
 |nil=>rw[Xr];omega
 |cons x l ih=>
  rw[Xr];have q:=h x sM;have v:=ih fun y j=>h y (Kk _ j)
  omega
def LJ(id:Int)(t:Aa):(Zg id t).depth<=t.depth:=by
 rw[<-Aa.eta (Zg id t),<-Aa.eta t,Aa.depth,Aa.depth];simp only[Aa.eta]
 have:=Dn (l:=(Zg id t).l) (n:=Xr t.l) fun x hx=>K8 (IV hx)
 omega
def F4{id:Int}{l:Qp}{y:Aa}(h:y∈Fx id l):∃x∈l,y=Zf id x:=by
 rw[F3]at h;obtain⟨i,j,rfl⟩:=Xq.1 h;have j:=Vw.1 j;exact⟨l[i],Zp j,by rw[show Xp l i=l[i] by unfold Xp;rw[K9,Km j];rfl]⟩
def ME{id:Int}:∀{l:Qp} {y:Aa},y∈Y8 id l->y∈l∨∃x∈l,y=Zf id x
 |k::x::l,y,h=>by
  rw[Y8]at h;rcases Xg.1 h with rfl|h
  ·exact .inl sM
  ·rcases Xg.1 h with rfl|h
   ·exact .inr ⟨x,sM,rfl⟩
   ·rcases ME h with h| ⟨z,hz,e⟩
    ·exact .inl (by simp[h])
    ·exact .inr ⟨z,by simp[hz],e⟩
 | [],y,h=>by simp[Y8]at h
 | [_],y,h=>by simp[Y8]at h
def XV(id:Int):∀l:Qp,(Y8 id l).length=2*(l.length/2):=fun l=>by
 rw[MD,Z6,Vq,KS]
def LK(id:Int)(l:Qp):(Fx id l).length=l.length:=by rw[F3,Vq,KS]
def IW(id:Int):∀t:Aa,(Zf id t).depth<=t.depth+3:=by
 refine Aa.ind fun h l q=>?_
 rw[Zf];split
 ·have:=XU id h.d;rw[Aa.depth];omega
 ·split
  ·rw[Aa.depth,Aa.depth]
   have:=Dn (l:=Fx id l) (n:=Xr l+3) fun y j=>by
    obtain⟨x,hx,rfl⟩:=F4 j;exact Qj (q x hx) (by have:=K8 hx;omega)
   omega
  ·split
   ·refine Qj (LJ id _) ?_;rw[Aa.depth,Aa.depth]
    have:=Dn (l:=Y8 id l) (n:=Xr l+3) fun y j=>by
     rcases ME j with j| ⟨x,hx,rfl⟩
     ·have:=K8 j;omega
     ·exact Qj (q x hx) (by have:=K8 hx;omega)
    omega
   ·omega
def Lu(N:Nat)(E:Am)(id:Int)(x:Aa):Prop:=
 ∀(S:Qz) (lv:Q0) (w:Qm),Ah N E w->N<=w.heap.size->x.hd.ok->Ad S w x.l lv->(∀k,w.heap.size<=k->S k)->Calls prog 40 #[.agg #[.int .i64 id],Qu x.hd lv] w (J1 S (Zf id x) w)
def PV{P Q:Prop}(h:Q)(f:Wz Q->P:=by
 intro zz;obtain⟨n,hn⟩:=X0 x.l.length;obtain⟨h,hh⟩:=X0 x.hd;revert n hn h hh;exact zz.o):P:=f ⟨h⟩
def Qcb{P:Prop}(h:P:=by
 go_wp2_with fail;obtain⟨h9,hk9⟩:=Yw hd2 rh (.slice a3 rn c3);refine DS rfl rfl h9 rfl ⟨_,rfl,?_,ho3,Xt hkw3 hk9 oM⟩;exact(hr3.Af hk9 fun b hb _ _=>hb.2).mono fun b _ hb=>hb.1):P:=h
def WX{N:Nat}{E:Am}(id:Int)(x:Aa)(hx:Lu N E id x)(s:Aj)(fb:Nat)(S:Qz)(lx:Q0)(w:Qm)(hG:Ah N E w)(hN:N<=w.heap.size)(ho:x.hd.ok)(hr:Ad S w x.l lx)(hS:∀k,w.heap.size<=k->S k)
  (hfb:w.heap[fb]? =some (.cells #[.int .i64 id] 60 (0,0))):Calls prog 80 #[Yp s,Qu x.hd lx,.pointer (some ⟨fb,0,none⟩)] w (J1 S (Zf id x) w):=by
 obtain⟨a,q,rfl⟩:=hr.Ab
 have j:=fun W (hk:Qd w W) (hz:w.heap.size+3<=W.heap.size)=>hx (fun b=>S b/\b≠w.heap.size+1+1) (.slice a x.l.length q) W (hG.same hk) (Qj hN hk.size) ho ((hr.mono fun b hb h=>(⟨h,oM⟩:S b/\b≠w.heap.size+1+1)).same hk) (fun k h=>⟨hS k (Qj hk.size h),oM⟩)
 generalize c:Zf id x=R at j|-
 obtain⟨rh,f⟩:=R
 unfold J1 at j|-
 simp only[Aa.Ae,Aa.Ag]at j|-
 obtain⟨rn,z⟩:∃n,f.length=n:=⟨_,rfl⟩
 refine PV ?_
 intro n hn h hh
 rw[hn,hh]at j
 rw[hn,hh]
 have u:=Q4 hfb
 have v:(((w.alloc (.cells (EM s).toArray 62)).alloc (.cells (nR h (.slice a n q)) 27)).alloc (.cells zR 27)).heap[w.heap.size+1+1]? =some (.cells zR 27 (0,0)):=Ql sM
 clear hx c hn hh hr
 go_in
 have d:∀o1 o2 o3,(((w.alloc o1).alloc o2).alloc o3).cell? (ad fb 0)=some (i6 id):=fun o1 o2 o3=>Q4 (Qb (Qb (Qb hfb)))
 go_wp2_with fail
 refine(j _ Xd sM).mono ?_
 rintro e m ⟨p,rfl,hr3,ho3,y⟩
 obtain⟨a3,c3,rfl⟩:=hr3.Ab
 rw[z]at hr3|-
 have hkw3:Qd w m:=Xd
 have hd2:=y.s v
 have r:=Qi hd2
 have t:=Jd hd2
 clear v u d j y
 exact Qcb
def Qcc{P Q:Prop}(h:Q)(f:Wz Q->P:=by
 intro zz;have hb2:(((w.alloc (.cells #[i6 id] 60)).alloc (.cells (nR h (.slice a n cap)) 27)).alloc (.cells zR 27)).heap[w.heap.size+1+1]? =some (.cells zR 27 (0,0)):=Ql sM;revert hb2;exact zz.o):P:=f ⟨h⟩
def Qcd{P Q:Prop}(h:Q)(f:Wz Q->P:=by
 intro zz;have hb1:(((w.alloc (.cells #[i6 id] 60)).alloc (.cells (nR h (.slice a n cap)) 27)).alloc (.cells zR 27)).heap[w.heap.size+1]? =some (.cells (nR h (.slice a n cap)) 27 (0,0)):=Qb (Ql sM);revert hb1;exact zz.o):P:=f ⟨h⟩
def fK{N:Nat}{E:Am}(id:Int)(x:Aa)(h3:x.hd.kind≠3)(h7:x.hd.kind≠7)(h8:x.hd.kind≠8):Lu N E id x:=by
 intro S lv w hG hN k d hS;have e:Zf id x=x:=by
  obtain⟨h,l⟩:=x;simp only[Aa.Ae]at h3 h7 h8;rw[Zf,Qa h3,Qa h7,Qa h8]
 rw[e];have y:=fun a n c W=>Np x.hd a n c W
 have z:Xn x.hd=false:=by unfold Xn;simp[h7,h8]
 rw[z]at y;have f:(x.hd.kind==3)=false:=by simpa using h3
 obtain⟨a,cap,rfl⟩:=d.Ab;unfold J1;refine PV ?_;intro n hn h hh;rw[hn]at d|-;rw[hh]at y f k|-;refine Qcc ?_;intro hb2;refine Qcd ?_;intro hb1;clear h3 h7 h8 z hn hh e;go_in;go_wp2_with fail;refine(y _ _ _ _).mono ?_;rintro e p ⟨rfl,q⟩;have j:Qd w p:=Xd;have t:=q.s hb1;have v:=q.s hb2;have n0:=Qi t;have z0:=Qi v;have a0:=Jd v;clear hb1 hb2 q;go_wp2_with fail;obtain⟨r,u⟩:=Yw v h (.slice a n cap);refine DS rfl rfl r rfl ⟨_,rfl,?_,k,Xt j u oM⟩;exact(((d.mono fun b m h=>(⟨h,m⟩:S b/\b<w.heap.size)).same j).Af u fun b m _ _=>by have:=m.2;omega).mono fun b _ m=>m.1
def HB{N:Nat}{E:Am}(id:Int)(hid:1<=id/\id<=4)(x:Aa)(h3:x.hd.kind=3)(hd:Q2 x.hd.d=true):Lu N E id x:=by
 intro S lv w t hN r z c;have e:Zf id x=Yx id x.hd.d:=by
  obtain⟨h,l⟩:=x;simp only[Aa.Ae]at h3;rw[Zf,Qe h3];rfl
 rw[e];have y:(x.hd.kind==3)=true:=by simpa using h3
 obtain⟨a,cap,rfl⟩:=z.Ab;have j:=fun W (hk:Qd w W) (hz:w.heap.size+3<=W.heap.size)=>mE (fun b=>S b/\b≠w.heap.size+1+1) id x.hd.d W (t.same hk) hid hd (fun k h=>⟨c k (Qj hk.size h),oM⟩)
 unfold J1;generalize u:Yx id x.hd.d=R at j|-;obtain⟨rh,f⟩:=R;simp only[Aa.Ae,Aa.Ag]at j|-;obtain⟨rn,v⟩:∃n,f.length=n:=⟨_,rfl⟩;refine PV ?_;intro n hn h hh;rw[hn];rw[hh]at j y|-;refine Qcc ?_;intro hb2;clear h3 hn hh e u z r hd;go_in;go_wp2_with fail;refine(j _ Xd sM).mono ?_;rintro e m ⟨v3,rfl,hr3,ho3,q⟩;obtain⟨a3,c3,rfl⟩:=hr3.Ab;rw[v]at hr3|-;have hkw3:Qd w m:=Xd;have hd2:=q.s hb2;have z0:=Qi hd2;have p:=Jd hd2;clear hb2 q j;exact Qcb
def Qce{P:Prop}(h:P:=by
 have hkw9:=Xt hkw6 hk9 oM;have hr9:=(hr6.Af hk9 fun b hb _ _=>hb.2).mono (S':=S) fun b _ hb=>hb.1
 go_wp2;refine DS rfl rfl h9 rfl ⟨_,rfl,hr9,ho6,hkw9⟩):P:=h
def WY{N:Nat}{E:Am}(id:Int)(x:Aa)(R:Qp)(h78:x.hd.kind=7∨x.hd.kind=8)(hRd:∀y∈R,y.depth<=1000000)(hRl:R.length<=2000)
  (heach:∀(S:Qz) (lv:Q0) (fb:Nat) (w:Qm),Ah N E w->N<=w.heap.size->x.hd.ok->Ad S w x.l lv->(∀k,w.heap.size<=k->S k)->w.heap[fb]? =some (.cells #[.int .i64 id] 60 (0,0))->
   Calls prog 79 #[.agg #[.int .i64 id],Qu x.hd lv,.func (.func 80) #[] #[.pointer (some ⟨fb,0,none⟩)]] w fun e w'=>∃v',e=.returned v'/\Ad S w' R v'/\Qd w w')
  (e:Zf id x=Zg id (.node (Qh x.hd.kind) R)):Lu N E id x:=by
 intro S lv w hG hN ho hr hS
 rw[e]
 have a0:=fun a n c W=>Np x.hd a n c W
 have a8:Xn x.hd=true:=by unfold Xn;rcases h78 with h|h<;>simp[h]
 rw[a8]at a0
 have af:(x.hd.kind==3)=false:=by rcases h78 with h|h<;>simp[h]
 obtain⟨a,cap,rfl⟩:=hr.Ab
 have a6:=fun W (hk:Qd w W) (hz:w.heap.size+3<=W.heap.size) hfb=>heach (fun b=>S b/\b≠w.heap.size+1+1) (.slice a x.l.length cap) w.heap.size W (hG.same hk) (Qj hN hk.size) ho ((hr.mono fun b hb h=>(⟨h,oM⟩:S b/\b≠w.heap.size+1+1)).same hk) (fun k h=>⟨hS k (Qj hk.size h),oM⟩) hfb
 have d:=fun W (hk:Qd w W) (hz:w.heap.size+3<=W.heap.size) v (hv:Ad (fun b=>S b/\b≠w.heap.size+1+1) W R v)=>DR (fun b=>S b/\b≠w.heap.size+1+1) id (.node (Qh x.hd.kind) R) v W (hG.same hk) (Qj hN hk.size) (K1 _ (by rcases h78 with h|h<;>rw[h]<;>decide)) hv hRd (fun k h=>⟨hS k (Qj hk.size h),oM⟩) hRl
 unfold J1 at d|-
 generalize hT:Zg id (.node (Qh x.hd.kind) R)=T at d|-
 obtain⟨rh,rl⟩:=T
 simp only[Aa.Ae,Aa.Ag]at d|-
 obtain⟨rn,aa⟩:∃n,rl.length=n:=⟨_,rfl⟩
 refine PV ?_
 intro n hn h hh
 rw[hn,hh]at a6
 rw[hn]
 rw[hh]at a0 af d|-
 have a9:(((w.alloc (.cells #[i6 id] 60)).alloc (.cells (nR h (.slice a n cap)) 27)).alloc (.cells zR 27)).heap[w.heap.size]? =some (.cells #[i6 id] 60 (0,0)):=Qb (Qb (Qt w _))
 refine Qcd ?_
 intro hb1
 refine Qcc ?_
 intro hb2
 clear h78 a8 hn hh e hT hr ho heach hRd
 go_in
 go_wp2_with fail
 refine(a0 _ _ _ _).mono ?_
 rintro e w3 ⟨rfl,t⟩
 have a1:Qd w w3:=Xd
 have p:=t.s a9
 have a7:=t.s hb1
 have q:=t.s hb2
 have ah:w.heap.size+3<=w3.heap.size:=Qg q
 have m0:=Q4 p
 have n0:=Qi a7
 clear a9 hb1 hb2 t a0
 go_wp2_with fail
 refine(a6 _ a1 ah p).mono ?_
 rintro e w4 ⟨v4,rfl,a5,u⟩
 obtain⟨a4,c4,rfl⟩:=a5.Ab
 generalize hm:R.length=m at a5|-
 have HM:=Qc hm
 have a2:=a1.trans u
 have r:=u.s p
 have f:=u.s a7
 have ab:=u.s q
 clear m0 n0 p a7 q a6 hm
 have m0:=Q4 r
 have n0:=Qi f
 go_wp2_with fail
 refine EA ?_
 refine KC (n:=0) (And.intro r f) ?_
 simp only[Vz]
 repeat refine sX ?_
 refine Vr ?_
 intro K hK
 refine(Qr (DM h.kind _ _ _ w4.drew)).mono ?_
 rintro e w5 ⟨rfl,ac⟩
 have j:Qd w4 w5:=((Ac.refl _ w4).drew).trans ac
 have ae:=a5.same j
 refine hK _ _ ⟨j.s r,j.s f⟩ ?_
 clear hK K
 refine Vr ?_
 intro K hK
 have ag:=d w5 (a2.trans j) (by have:=j.size;have:=u.size;omega) _ ae
 refine(Qr ag).mono ?_
 rintro e w6 ⟨v6,rfl,hr6,ho6,ad⟩
 obtain⟨a3,c3,rfl⟩:=hr6.Ab
 rw[aa]at hr6|-
 have z:=j.trans ad
 have hkw6:=a2.trans z
 have q:=z.s ab
 refine hK _ _ ⟨z.s r,z.s f⟩ ?_
 clear hK K m0 n0
 refine DA ?_
 have z0:=Qi q
 have b0:=Jd q
 go_simp
 obtain⟨h9,hk9⟩:=Yw q rh (.slice a3 rn c3)
 generalize World.setCell (World.setCell _ _ _) _ (.slice a3 rn c3)=w9 at h9 hk9|-
 exact Qce
def JU{N:Nat}{E:Am}(id:Int)(hid:1<=id/\id<=4):∀x:Aa,(∀y∈x.flat,y.hd.kind=3->Q2 y.hd.d=true)->(∀y∈x.flat,y.l.length<=40)->x.depth<=900000->Lu N E id x:=by
 refine Aa.ind fun h l ih hn hl hd=>?_
 have a0:l.length<=40:=hl _ (Z8 _);have m:∀k∈l,Lu N E id k:=fun k j=>ih k j (fun y v=>hn y (K4 h l k j y v)) (fun y v=>hl y (K4 h l k j y v)) (by
  have:=K8 j;rw[Aa.depth]at hd;omega)
 have z:=X3 func80 kM rfl;rw[Aa.depth]at hd;by_cases p:h.kind=3
 ·exact HB id hid (.node h l) p (hn _ (Z8 _) p)
 ·by_cases b:h.kind=7
  ·refine WY id (.node h l) (Fx id l) (.inl b) (fun y v=>?_) (by rw[LK];omega) ?_ ?_
   ·obtain⟨x,hx,rfl⟩:=F4 v
    have:=IW id x
    have:=K8 hx;omega
   ·intro S lv fb w hG hN ho r hS u;rw[F3];refine fF z S id (.node h l) lv (fun i=>Zf id (Xp l i)) w ho r hS b (by rw[Aa.Ag];omega) ?_;intro i t S' lx W _ j hx q n;simp only[Aa.Ag]at t hx q|-;exact WX id (Xp l i) (m _ (by rw[J7 t];exact Zp t)) (X4 i) fb S' lx W (hG.same j) (Qj hN j.size) hx q n (j.s u)
   ·rw[Zf,Qa p,Qe b];simp only[Aa.Ae];rw[b];unfold Zg;rw[Qa (fun e=>absurd e.2 (show¬((7:Int)=8) by decide))]
  ·by_cases c:h.kind=8
   ·refine WY id (.node h l) (Y8 id l) (.inr c) (fun y v=>?_) (by rw[XV];omega) ?_ ?_
    ·rcases ME v with v| ⟨x,hx,rfl⟩
     ·have:=K8 v;omega
     ·have:=IW id x
      have:=K8 hx;omega
    ·intro S lv fb w hG hN ho r hS u;rw[MD];refine fH z S id (.node h l) lv (fun i=>Zf id (Xp l (2*i+1))) w ho r hS c (by rw[Aa.Ag];omega) ?_;intro i t S' lx W _ j hx q n;simp only[Aa.Ag]at t hx q|-;have f:2*i+1<l.length:=oM;exact WX id (Xp l (2*i+1)) (m _ (by rw[J7 f];exact Zp f)) (Yb (Xp l (2*i)).hd.s) fb S' lx W (hG.same j) (Qj hN j.size) hx q n (j.s u)
    ·rw[Zf,Qa p,Qa b,Qe c];simp only[Aa.Ae];rw[c]
   ·exact fK id (.node h l) p b c
def Yy{w:Qm}{b:Nat}{a0 a1:Q0}{t:TypeId}{f:Nat × Nat}(h:w.heap[b]? =some (.cells #[a0,a1] t f)):w.cell? ⟨b,0,none⟩=some a0/\w.cell? ⟨b,1,none⟩=some a1:=
 ⟨by rw[Vj _ _ _ _ _ _ h];rfl,by rw[Vj _ _ _ _ _ _ h];rfl⟩
def WZ(W:Qm)(a:Jr)(n cap:Nat)(hnc:n<=cap)(ha:∀g,a=some g->g.add 0=g):(Instr.slice 46 (.slice a n cap) none (some (.int .i64 (n:Int))) (some (.int .i64 (n:Int)))).run prog W=.ok (.slice a n n) W:=by
 obtain⟨i,y,q⟩:=Hi.1 JH;have v:i.size=2:=congrArg (fun x=>x.2.1) q;have j:(0:Int)<=(n:Int):=Int.natCast_nonneg n;unfold Instr.slice;simp only[Vv,Rh underlying46,Yd,Instr.sliceBounds,N4,sizeOf,typeInfo];simp[y,v];rw[run_sliceBound W .i64 (n:Int) cap BoundsCode.slice3Acap j (Int.ofNat_le.2 hnc)];simp only[Yd,Ig];rw[run_sliceBound W .i64 (n:Int) n BoundsCode.slice3B j (Int.le_refl _)];simp only[Yd,Ig,FX,CJ];have e:(if n=0 then a else Option.map (fun x=>x.add 0) a)=a:=by
  cases a with
  |none=>simp
  |some g=>rw[OU,ha g rfl];simp
 rw[e]
def Tk{a:Act}{o:Oper}(x l m:Operand)(ho:o.op=.slice 46 x none (some l) (some m))(b:Jr)(n cap:Nat)(hx:a.eval x=.slice b n cap)(hl:a.eval l=.int .i64 (n:Int))(hm:a.eval m=.int .i64 (n:Int))(hnc:n<=cap)(hb:∀g,b=some g->g.add 0=g)(W:Qm):
  (execOp a.eval o).run prog W=.ok (.value (.slice b n n)) W:=by
 unfold execOp
 simp only[ho,hx,hl,hm,OU,Option.map_none,Vv,run_sliceAt_slice W 46 _ _ _ _ (show prog.underlying 46=some (.slice (prog.elem 46)) by kernel_rfl),WZ W b n cap hnc hb,Yd,N4]
def BQ(ps:List (Qo × Aa))(q:List Aj):Option Aa:=if Xv q then(ps.find? fun x=>decide (x.1=Xh (Z1 q))).map Prod.snd else none
def qN(N:Nat)(E:Am)(id:Int)(ps:List (Qo × Aa))(n:Aa)(p:List Aj):Prop:=
 ∀(S:Qz) (lv pv:Q0) (r:Nat) (w:Qm),Ah N E w->N<=w.heap.size->n.hd.ok->Ad S w n.l lv->(∀k,w.heap.size<=k->S k)->At K3 w pv p->As S w r ps->
  Calls prog 51 #[.agg #[.int .i64 id,.map (some r)],Qu n.hd lv,pv] w (J1 S (Ge Ky id (BQ ps) n p) w)
def Qih{P Q:Prop}(h:Q)(f:Wz Q->P:=by
 intro zz;iterate 3 (refine K6 rfl rfl ?_;intro K hK w' hs;obtain⟨b0,b1⟩:=Yy hs.1;have f9:=Q4 hs.2.1;obtain⟨s0,s1⟩:=Yy hs.2.2.1;obtain⟨q0,q1,q2,q3,q4,q5,q6,q7,q8⟩:=Qi hs.2.2.2;go_simp;refine hK _ _ ?_;clear hK K b0 b1 s0 s1 q0 q1 q2 q3 q4 q5 q6 q7 q8 f9 hs w')
 exact zz.o):P:=f ⟨h⟩
def Qii{P Q:Prop}(h:Q)(f:Wz Q->P:=by
 intro zz;refine K6 rfl rfl ?_;intro K hK w' hs;obtain⟨b0,b1⟩:=Yy hs.1;have f9:=Q4 hs.2.1;obtain⟨s0,s1⟩:=Yy hs.2.2.1;obtain⟨q0,q1,q2,q3,q4,q5,q6,q7,q8⟩:=Qi hs.2.2.2;go_simp;refine hK _ _ ?_;clear hK K b0 b1 s0 s1 q0 q1 q2 q3 q4 q5 q6 q7 q8 f9 hs w';exact zz.o):P:=f ⟨h⟩
def fL{N:Nat}{E:Am}(id:Int)(ps:List (Qo × Aa))(x:Aa)(p:List Aj)(s:Aj)(hx:qN N E id ps x (p++[s]))(eb pb r:Nat)(S:Qz)(lx pv:Q0)(w:Qm)(hG:Ah N E w)(hN:N<=w.heap.size)(ho:x.hd.ok)(hr:Ad S w x.l lx)(hS:∀k,w.heap.size<=k->S k)
  (heb:w.heap[eb]? =some (.cells #[.int .i64 id,.map (some r)] 73 (0,0)))(hpb:w.heap[pb]? =some (.cells #[pv] 46 (0,0)))(hp:At K3 w pv p)(hpl:p.length<=1000000)(hm:As S w r ps):
  Calls prog 96 #[Yp s,Qu x.hd lx,.pointer (some ⟨eb,0,none⟩),.pointer (some ⟨pb,0,none⟩)] w (J1 S (Ge Ky id (BQ ps) x (p++[s])) w):=by
 obtain⟨a,z,rfl⟩:=hr.Ab
 obtain⟨pa,pc,rfl,ah⟩:=hp.Ab
 have ab:∀g,pa=some g->g.add 0=g:=fun g e=>by
  obtain⟨_,_,⟨e2,_⟩| ⟨g2,b1,_,_,_,e2,_⟩⟩:=hp
  ·simp only[WO]at e2;rw[e2.1]at e;cases e
  ·simp only[WO]at e2;rw[e2.1]at e;cases e;rfl
 obtain⟨R,hR⟩:=X0 (Ge Ky id (BQ ps) x (p++[s]))
 obtain⟨B2,b0⟩:∃b,b=w.heap.size+1+1:=⟨_,rfl⟩
 have q:=fun(W:Qm) v (hk:Qd w W) (hz:w.heap.size+3<=W.heap.size) (hv:At K3 W v (p++[s]))=>hx (fun b=>S b/\b≠w.heap.size+1+1) (.slice a x.l.length z) v r W (hG.same hk) (Qj hN hk.size) ho ((hr.mono (S':=fun b=>S b/\b≠w.heap.size+1+1) fun b hb h=>⟨h,oM⟩).same hk) (fun k h=>⟨hS k oM,oM⟩) hv ((hm.mono (S':=fun b=>S b/\b≠w.heap.size+1+1) fun b hb h=>⟨h,oM⟩).same hk)
 rw[hR]at q|-
 unfold J1 at q|-
 refine PV ?_
 intro n hn h hh
 rw[hn,hh]at q
 rw[hn,hh]
 obtain⟨f,t⟩:=s
 have aa:(((w.alloc (.cells #[.int .i64 f,.string t] 62)).alloc (.cells #[.int .i64 h.kind,.bool h.b,.bool h.d.neg,.string h.d.digits,.int .i64 h.d.exp,.int .u64 (h.u:Int),.int .i64 h.w,.string h.s,.slice a n z] 27)).alloc (.cells #[.int .i64 0,.bool false,.bool false,.string ⟨#[]⟩,.int .i64 0,.int .u64 0,.int .i64 0,.string ⟨#[]⟩,.slice none 0 0] 27)).heap[w.heap.size+1+1]? =some (.cells #[.int .i64 0,.bool false,.bool false,.string ⟨#[]⟩,.int .i64 0,.int .u64 0,.int .i64 0,.string ⟨#[]⟩,.slice none 0 0] 27 (0,0)):=Ql sM
 have a1:(((w.alloc (.cells #[.int .i64 f,.string t] 62)).alloc (.cells #[.int .i64 h.kind,.bool h.b,.bool h.d.neg,.string h.d.digits,.int .i64 h.d.exp,.int .u64 (h.u:Int),.int .i64 h.w,.string h.s,.slice a n z] 27)).alloc (.cells #[.int .i64 0,.bool false,.bool false,.string ⟨#[]⟩,.int .i64 0,.int .u64 0,.int .i64 0,.string ⟨#[]⟩,.slice none 0 0] 27)).heap[w.heap.size+1]? =some (.cells #[.int .i64 h.kind,.bool h.b,.bool h.d.neg,.string h.d.digits,.int .i64 h.d.exp,.int .u64 (h.u:Int),.int .i64 h.w,.string h.s,.slice a n z] 27 (0,0)):=Qb (Ql sM)
 have a3:(((w.alloc (.cells #[.int .i64 f,.string t] 62)).alloc (.cells #[.int .i64 h.kind,.bool h.b,.bool h.d.neg,.string h.d.digits,.int .i64 h.d.exp,.int .u64 (h.u:Int),.int .i64 h.w,.string h.s,.slice a n z] 27)).alloc (.cells #[.int .i64 0,.bool false,.bool false,.string ⟨#[]⟩,.int .i64 0,.int .u64 0,.int .i64 0,.string ⟨#[]⟩,.slice none 0 0] 27)).heap[w.heap.size]? =some (.cells #[.int .i64 f,.string t] 62 (0,0)):=Qb (Qb (Qt w _))
 have a2:(((w.alloc (.cells #[.int .i64 f,.string t] 62)).alloc (.cells #[.int .i64 h.kind,.bool h.b,.bool h.d.neg,.string h.d.digits,.int .i64 h.d.exp,.int .u64 (h.u:Int),.int .i64 h.w,.string h.s,.slice a n z] 27)).alloc (.cells #[.int .i64 0,.bool false,.bool false,.string ⟨#[]⟩,.int .i64 0,.int .u64 0,.int .i64 0,.string ⟨#[]⟩,.slice none 0 0] 27)).heap[eb]? =some (.cells #[.int .i64 id,.map (some r)] 73 (0,0)):=Qb (Qb (Qb heb))
 have a4:(((w.alloc (.cells #[.int .i64 f,.string t] 62)).alloc (.cells #[.int .i64 h.kind,.bool h.b,.bool h.d.neg,.string h.d.digits,.int .i64 h.d.exp,.int .u64 (h.u:Int),.int .i64 h.w,.string h.s,.slice a n z] 27)).alloc (.cells #[.int .i64 0,.bool false,.bool false,.string ⟨#[]⟩,.int .i64 0,.int .u64 0,.int .i64 0,.string ⟨#[]⟩,.slice none 0 0] 27)).heap[pb]? =some (.cells #[.slice pa p.length pc] 46 (0,0)):=Qb (Qb (Qb hpb))
 have a5:Qd w (((w.alloc (.cells #[.int .i64 f,.string t] 62)).alloc (.cells #[.int .i64 h.kind,.bool h.b,.bool h.d.neg,.string h.d.digits,.int .i64 h.d.exp,.int .u64 (h.u:Int),.int .i64 h.w,.string h.s,.slice a n z] 27)).alloc (.cells #[.int .i64 0,.bool false,.bool false,.string ⟨#[]⟩,.int .i64 0,.int .u64 0,.int .i64 0,.string ⟨#[]⟩,.slice none 0 0] 27)):=Xd
 have ac:(((w.alloc (.cells #[.int .i64 f,.string t] 62)).alloc (.cells #[.int .i64 h.kind,.bool h.b,.bool h.d.neg,.string h.d.digits,.int .i64 h.d.exp,.int .u64 (h.u:Int),.int .i64 h.w,.string h.s,.slice a n z] 27)).alloc (.cells #[.int .i64 0,.bool false,.bool false,.string ⟨#[]⟩,.int .i64 0,.int .u64 0,.int .i64 0,.string ⟨#[]⟩,.slice none 0 0] 27)).heap.size=w.heap.size+3:=sM
 clear hx hR hn hh hr hm
 go_in
 go_wp2_with fail
 generalize(((w.alloc (.cells #[.int .i64 f,.string t] 62)).alloc (.cells #[.int .i64 h.kind,.bool h.b,.bool h.d.neg,.string h.d.digits,.int .i64 h.d.exp,.int .u64 (h.u:Int),.int .i64 h.w,.string h.s,.slice a n z] 27)).alloc (.cells #[.int .i64 0,.bool false,.bool false,.string ⟨#[]⟩,.int .i64 0,.int .u64 0,.int .i64 0,.string ⟨#[]⟩,.slice none 0 0] 27))=w0 at a3 a1 aa a2 a4 a5 ac|-
 refine EA ?_
 refine KC (n:=0) (And.intro a2 (And.intro a4 (And.intro a3 a1))) ?_
 simp only[Vz]
 obtain⟨e0,e1⟩:=Yy a2
 have g9:=Q4 a4
 obtain⟨t0,t1⟩:=Yy a3
 obtain⟨n0,n1,n2,n3,n4,n5,n6,n7,n8⟩:=Qi a1
 refine Qih ?_
 refine Qih ?_
 refine Qii ?_
 refine GV rfl rfl (.slice pa p.length p.length) (Tk _ _ _ rfl _ _ _ rfl rfl rfl ah ab) ?_
 refine Qii ?_
 clear e0 e1 g9 t0 t1 n0 n1 n2 n3 n4 n5 n6 n7 n8
 refine Vr ?_
 intro K hK
 have a0:Qd w0 (w0.drew.alloc (.cells #[.int .i64 f,.string t] 62)):=((Ac.refl _ w0).drew).alloc _
 have a9:(w0.drew.alloc (.cells #[.int .i64 f,.string t] 62)).heap[w0.heap.size]? =some (.cells #[.int .i64 f,.string t] 62 (0,0)):=Qt w0.drew _
 rw[ac]at a9
 refine hK _ (w0.drew.alloc (.cells #[.int .i64 f,.string t] 62)) ⟨a0.same _ _ a2 trivial,a0.same _ _ a4 trivial,a0.same _ _ a3 trivial,a0.same _ _ a1 trivial⟩ ?_
 clear hK K
 generalize(w0.drew.alloc (.cells #[.int .i64 f,.string t] 62))=w4 at a0 a9|-
 obtain⟨v5,w5,a7,ag,ae⟩:=SR (c:=1) (ad:=⟨w.heap.size+3,0,none⟩) 46 ⟨f,t⟩ (Aw.same hp (a5.trans a0)) hpl (fun j u hj=>by rw[Ea,Vj _ _ _ _ _ _ a9];simpa[EM] using hj)
 have y:=a0.trans ae
 refine Kd rfl rfl ?_
 intro K hK
 refine Rn _ _ rfl rfl rfl a7 ?_
 refine hK _ _ ⟨y.same _ _ a2 trivial,y.same _ _ a4 trivial,y.same _ _ a3 trivial,y.same _ _ a1 trivial⟩ ?_
 clear hK K a7
 refine Vr ?_
 intro K hK
 refine(Qr (q _ _ (a5.trans y) (by have:=y.size;omega) (Aw.mono ag fun _ _ _=>trivial))).mono ?_
 rintro e w6 ⟨v6,rfl,hr6,ho6,af⟩
 obtain⟨a6,c6,rfl⟩:=hr6.Ab
 have m:=y.trans af
 refine hK _ _ ⟨m.same _ _ a2 trivial,m.same _ _ a4 trivial,m.same _ _ a3 trivial,m.same _ _ a1 trivial⟩ ?_
 clear hK K q
 refine DA ?_
 have a8:=m.same _ _ aa trivial
 obtain⟨z0,z1,z2,z3,z4,z5,z6,z7,z8⟩:=Qi a8
 have b2:∀j,w6.frozen? ⟨w.heap.size+1+1,j,none⟩=false:=Je a8
 have hkw6:=a5.trans m
 go_simp
 obtain⟨h9,hk9⟩:=FM a8 (.int .i64 R.hd.kind) (.bool R.hd.b) (.bool R.hd.d.neg) (.string R.hd.d.digits) (.int .i64 R.hd.d.exp) (.int .u64 (R.hd.u:Int)) (.int .i64 R.hd.w) (.string R.hd.s) (.slice a6 R.l.length c6)
 generalize World.setCell (World.setCell _ _ _) _ (.slice a6 R.l.length c6)=w9 at h9 hk9|-
 exact Qce
def fM{X:Hd->Dc × Bool}{f:Int}{x d:Aa}{s:Aj}{i:Nat}(h:AX X f x d)(ha:gS d s=some i):AX X f (Kq x s) (Xp d.l i)/\((Q3 x).hd.kind=7->0<=s.index/\s.index.toNat< (Q3 x).l.length):=by
 by_cases r:(Q3 x).hd.kind=7
 ·obtain⟨e,y,hk⟩:=h.arr r;have a1:d.hd.kind=7:=by rw[y];rfl
  obtain⟨rfl,hi⟩:=zH a1 ha;have a5:d.l.length=(Q3 x).l.length:=by rw[y];show(List.map _ _).length=_;rw[Vq]
  have z:i< (Q3 x).l.length:=oM;rw[KU r];have u:Xp (Q3 x).l i=(Q3 x).l[i]:=by unfold Xp;rw[K9,Km z];rfl
  have b:Xp d.l i=((Q3 x).l[i].proj X).1:=by
   rw[y];show Xp (List.map _ _) i=_;unfold Xp;rw[K9,CV,Km z];rfl
  rw[u,b];refine⟨hk _ (Zp z),fun _=>⟨by show(0:Int)<=(i:Int);omega,by show((i:Int)).toNat<_;omega⟩⟩
 ·refine⟨?_,fun h=>absurd h r⟩;by_cases h8:(Q3 x).hd.kind=8
  ·obtain⟨c,eb,hn,hg,y,hk⟩:=h.map h8;generalize hQ:(c.map (BX X)).mergeSort FO=Q at y;have v:Q.Perm (c.map (BX X)):=by rw[<-hQ];exact I8 _ _
   have a2:d.hd.kind=8:=by rw[y];rfl
   have m:d.l=Qq (Q.map Rf):=by rw[y,<-Vs];rfl
   have a0:∀p∈Q.map Rf,p.1.hd.kind=5:=fun p t=>by
    obtain⟨q,_,rfl⟩:=Xq.1 t;rfl
   have a3:((Q.map Rf).map fun p=>p.1.hd.s).Nodup:=by
    have u:((Q.map Rf).map fun p=>p.1.hd.s)=Q.map Prod.fst:=by
     rw[Ka];exact EW fun q _=>rfl
    rw[u];have n:=v.map Prod.fst;have b:(c.map (BX X)).map Prod.fst=c.map V3:=by
     rw[Ka];exact EW fun q _=>rfl
    rw[b]at n;exact n.nodup_iff.2 hg.2
   rw[Fq]at ha;unfold Ht at ha;rw[show d.l.length=2*(Q.map Rf).length by rw[m,Z6],PG a2 m a0 a3 _ (Q6 _)]at ha;obtain⟨j,hj,e⟩:=Xq.1 ha;have hj:=Vw.1 hj;obtain⟨u1,u2⟩:=Nz (Q.map Rf) j hj;rw[<-m]at u1 u2;have a4:j<Q.length:=by rwa [Vq]at hj
   have hq:Q[j]∈Q:=Zp a4;obtain⟨p,t,ep⟩:=Xq.1 (v.mem_iff.1 hq);have et:(Q.map Rf)[j]=Rf Q[j]:=by rw[Of]
   rw[et,<-ep]at u1 u2;injection e with u b;rw[u1]at u;subst u;subst b;rw[u2];show AX X f (Kq x (Yb (V3 p))) (p.2.proj X).1;rw[KT eb hg.2 t];exact hk p t
  ·exfalso;have hl:Xn (Q3 x).hd=false:=by unfold Xn;simp[r,h8]
   have n:=h.leaf hl;rw[Fq]at ha;have:∀k,Qx d k=[]:=by
    intro k;induction k with
    |zero=>rfl
    |succ k ih=>
     have y:Yc d k=none:=by
      unfold Xn at n;rw[Bool.or_eq_false_iff]at n;unfold Yc;rw[Qa (fun h=>M0 n.2 h.1),Qa (M0 n.1)]
     rw[Vm y,ih]
   unfold Ht at ha;rw[this]at ha;cases ha
def QA{X:Hd->Dc × Bool}{f:Int}:∀(p:List Aj) (x d c:Aa),AX X f x d->MI d p=some c->AX X f (p.foldl Kq x) c
 | [],x,d,c,h,hg=>by
  rw[kF]at hg;cases hg;exact h
 |s::p,x,d,c,h,hg=>by
  obtain⟨i,ha,hg⟩:=Cy.1 hg;exact QA p _ _ c (fM h ha).1 hg
def QB{X:Hd->Dc × Bool}{f:Int}{p:List Aj}{x d c:Aa}(h:AX X f x d)(hg:MI d p=some c)(j:Nat)(hj:j<p.length):
  ∃d',AX X f ((p.take j).foldl Kq x) d'/\((Q3 ((p.take j).foldl Kq x)).hd.kind=7->0<=p[j].index/\p[j].index.toNat< (Q3 ((p.take j).foldl Kq x)).l.length):=by
 have e:p=p.take j++p[j]::p.drop (j+1):=by rw[List.getElem_cons_drop,FW]
 rw[e]at hg
 obtain⟨d',y,z⟩:=P1.1 hg
 obtain⟨i,v,_⟩:=Cy.1 z
 have q:=QA (p.take j) x d d' h y
 exact⟨d',q,(fM q v).2⟩
end Go.Tm
set_option exponentiation.threshold 3000
namespace Go.Tm
open Go.Proofs Go.RowKit Go.Proofs.Tryz
variable{b i j:Nat}{h:Hd}{L l:Qp}{d:Dc}{s:Qo}{f id:Int}{t y:Aa}{X:Hd->Dc × Bool}{p:List Aj}{acc has has0 ps:List (Aa × Aa)}
def fN(b:Nat):∃u,Xx b (Rt b)=(u,true):=by
 unfold Rt;by_cases h:(Xx b 16).2=true
 ·rw[Qe h];exact⟨_,Prod.ext rfl h⟩
 ·rw[Qa h];by_cases j:(Xx b 32).2=true
  ·rw[Qe j];exact⟨_,Prod.ext rfl j⟩
  ·rw[Qa j];exact⟨b,rfl⟩
def Em{fr wd sign exp frac low:Nat}(h:(X2 fr wd sign exp frac low).2=true):frac % 2^low=0:=by
 unfold X2 at h;rw[C4]at h;by_cases c:frac % 2^low≠0
 ·rw[Qe c]at h;cases h
 ·omega
def En{fr wd sign exp frac low:Nat}(h:frac % 2^low=0):(X2 fr wd sign exp frac low).2=true:=by
 unfold X2;rw[C4,Qa oM]
def OO{x a b:Nat}(h:x % 2^a=0)(hb:b<=a):x % 2^b=0:=by
 obtain⟨c,rfl⟩:∃c,a=b+c:=⟨a-b,oM⟩;have j:2^b∣2^(b+c):=⟨2^c,Cb 2 b c⟩;exact Nat.mod_eq_zero_of_dvd (Nat.dvd_trans j (GL h))
def uX(hb:b<18446744073709551616)(h:(Xx b 16).2=true):(Xx b 32).2=true:=by
 obtain⟨s,e,f,hs,he,r,p,h5,t,h7⟩:=NU hb;have y:Gf 16=some (10,5,16):=rfl;have z:Gf 32=some (23,8,32):=rfl;unfold Xx at h|-;rw[y]at h;rw[z];simp only[h5,t,h7]at h|-;rw[Qa dM]at h|-;have k:(Qw (5-1):Int)=15:=rfl;have o8:(Qw (8-1):Int)=127:=rfl;have p5:(Qw 5:Int)=31:=rfl;have p8:(Qw 8:Int)=255:=rfl;rw[k,p5]at h;rw[o8,p8];by_cases d:e=2047
 ·rw[Qe d]at h|-;exact En (OO (Em h) dM)
 ·rw[Qa d]at h|-;by_cases c:e=0/\f=0
  ·rw[Qe c]at h|-;exact En (OO (Em h) dM)
  ·rw[Qa c]at h|-;by_cases u:0< (e:Int)-1023+15/\(e:Int)-1023+15<31
   ·rw[Qe u]at h;rw[Qe ⟨oM,oM⟩];exact En (OO (Em h) dM)
   ·rw[Qa u]at h;by_cases n:0<e/\(e:Int)-1023+15<=0/\ -((10:Nat):Int)< (e:Int)-1023+15
    ·rw[Qe n]at h;rw[Qe ⟨oM,oM⟩];have x:=Em h;obtain⟨q,hq⟩:=X0 (((52:Int)-((10:Nat):Int)+1-((e:Int)-1023+15)).toNat);have m:(f|||2^52) % 2^q=0:=by rw[<-hq];exact x
     have j:=OO (b:=29) m oM;have v:=Nat.two_pow_add_eq_or_of_lt (i:=52) (b:=f) r 1;rw[Nat.mul_one]at v;rw[Nat.or_comm,<-v]at j;refine En ?_;show f % 536870912=0;have a0:(4503599627370496+f) % 536870912=0:=j;omega
    ·rw[Qa n]at h;cases h
def Qcf(hb:b<18446744073709551616)(id:Int):∃u,Xx b (if id=4 then max (Rt b) 32 else Rt b)=(u,true):=by
 split
 ·by_cases h:(Xx b 16).2=true
  ·have:Rt b=16:=by unfold Rt;rw[Qe h]
   rw[this];exact⟨_,Prod.ext rfl (uX hb h)⟩
  ·obtain⟨u,j⟩:=fN b;have:max (Rt b) 32=Rt b:=by
    unfold Rt;rw[Qa h];split<;>decide
   rw[this];exact⟨u,j⟩
 ·exact fN b
def CF(t:Aa):Prop:=∀y∈t.flat,Xc y=true
def Dp(h0:Xc (.node h l)=true)(hl:∀k∈l,CF k):CF (.node h l):=(Kj (fun x=>Xc x=true) (.node h l)).2 ⟨h0,hl⟩
def QC(ht:CF (.node h l)):∀k∈l,CF k:=((Kj (fun x=>Xc x=true) (.node h l)).1 ht).2
def Lv(h0:Xc (.node h [])=true):CF (.node h []):=Dp h0 fun k j=>by cases j
def Qe5(u:Nat)(x:Aa):Xc (dO u x)=true:=by
 unfold Xc dO;simp[Qh]
def Qe6(l:Qp):Xc (.node (Qh 8) l)=(decide (l.length % 2=0)&& !J8 (Zb l)):=by
 unfold Xc;simp[Qh];rfl
def EQ:∀l:Qp,l.length % 2=0->Qq (Xa l)=l
 | [],_=>rfl
 | [_],h=>by simp at h
 |k::x::l,h=>by
  rw[Xa,Xm,EQ l (by simp only[Xf]at h;omega)]
def HG(hd:Q2 d=true):CF (Rb d):=Lv (by
 unfold Xc Zr;simp[Rb,Qh,hd])
def HI(d:Dc):Zh (Rb d):=Vh _
def Qhp{P Q:Prop}(h:Q)(f:Wz Q->P:=by
 intro zz;have hd0:Q2 ⟨neg,s,0⟩=true:=by
  unfold Q2;rw[p1,Kp p2];simp only[MY,Y2,X1];right;refine⟨dM,?_⟩;simpa using p4
 revert hd0;exact zz.o):P:=f ⟨h⟩
def Qhq{P Q:Prop}(h:Q)(f:Wz Q->P:=by
 intro zz;have hmk:Jo neg s 0=(⟨neg,s,0⟩,0):=lS hd0 hz0;have hval:valOf (Qf s)<10^100:=(Cr hd hz).2.2.2.2.2;unfold Cm;simp only;rw[hmk];simp only;revert hmk hval;exact zz.o):P:=f ⟨h⟩
def uY{neg:Bool}{e:Int}(hd:Q2 ⟨neg,s,e⟩=true)(hz:(⟨neg,s,e⟩:Dc)≠Ju):CF (Cm neg s)/\Zh (Cm neg s):=by
 obtain⟨p1,p2,n,p4,m⟩:=Ls hd hz;simp only at p1 p2 n p4 m;refine Qhp ?_;intro hd0;have hz0:(⟨neg,s,0⟩:Dc)≠Ju:=by
  intro e;have:s=⟨#[48]⟩:=congrArg Dc.digits e;rw[this]at m;exact m dM
 refine Qhq ?_;intro hmk hval;split
 ·exact⟨HG hd0,HI _⟩
 ·obtain⟨n',z⟩:=X0 (valOf (Qf s)-(if neg then 1 else 0));rw[z];have j:n'<256^400:=Jl (by omega:n'<=valOf (Qf s)) (I9 hval (Cf (Nat.pow_lt_pow_left dM dM:10^100<256^100) (Rj dM dM)));have q:=(IT 400 n' j).2.2.2;constructor
  ·refine Dp (Qe5 _ _) fun k v=>?_
   rw[Zm.1 v];refine Lv ?_;have y:(Xh (Jb 400 n')).size<=400:=by rw[Jz];exact q
   unfold Xc Zr;simp[Qh,y]
  ·refine Y9 sM fun k v=>?_
   rw[Zm.1 v];exact Vh _
def fO(hd:Q2 d=true):CF (Yx id d)/\Zh (Yx id d):=by
 rw[M8];by_cases c:Q5 (Rb d) id=0
 ·rw[Qe c];exact⟨HG hd,HI d⟩
 ·rw[Qa c];by_cases v:(Kw d).2=true
  ·rw[Qe v];refine⟨Lv ?_,Vh _⟩;have y:=eV d hd;obtain⟨u,m⟩:=Qcf y id;have r:=MS y m;have e1:(Rq id (Kw d).1).u=u:=by unfold Rq;simp only;rw[m]
   have f:(Rq id (Kw d).1).w=(if id=4 then max (Rt (Kw d).1) 32 else Rt (Kw d).1):=rfl;have q:Kx (Rq id (Kw d).1).u (Rq id (Kw d).1).w=((Kw d).1,0):=by rw[e1,f];exact r
   rw[tM (t:=.node (Rq id (Kw d).1) []) rfl,X1];refine⟨by unfold Zr;simp[Rq,Qh],Kp ?_⟩;show(Kx (Rq id (Kw d).1).u (Rq id (Kw d).1).w).2=0;rw[q]
  ·rw[Qa v];have z:d≠Ju:=by
    intro e;subst e;exact v (by decide+kernel)
   by_cases b:id=4
   ·rw[Qe b];refine⟨Lv ?_,Vh _⟩;have p:(Z2 d).1.size<=400:=Qj (JM hd) dM;unfold Xc Zr;simp[Qh,p]
   ·rw[Qa b];obtain⟨p1,p2,p3,p4,p5⟩:=Ls hd z;have x:=(SV (decide (d.exp<0)) (n:=d.exp.natAbs) oM (fun h=>by
     rw[Rg];omega)).1
    obtain⟨h1,h2⟩:=uY (neg:=d.neg) (s:=d.digits) (e:=d.exp) hd z;constructor
    ·refine Dp rfl fun k j=>?_
     rw[Zm.1 j];refine Dp rfl fun k j=>?_
     rcases Xg.1 j with rfl|j
     ·exact HG x
     ·rw[Zm.1 j];exact h1
    ·refine Y9 sM fun k j=>?_
     rw[Zm.1 j];refine Y9 sM fun k j=>?_
     rcases Xg.1 j with rfl|j
     ·exact HI _
     ·rw[Zm.1 j];exact h2
def IX(id:Int):∀ps:List (Aa × Aa),Y8 id (Qq ps)=Qq (ps.map fun p=>(p.1,Zf id p.2))
 | []=>by simp[Qq,Y8]
 |p::ps=>by rw[Xm,Y8,IX id ps,Zy,Xm]
def JV(id:Int):∀t:Aa,CF t->Zh t->CF (Zf id t)/\Zh (Zf id t):=by
 refine Aa.ind fun h l ih ho hl=>?_
 have v:=QC ho;have h0:Xc (.node h l)=true:=ho _ (Z8 _);obtain⟨f,j⟩:=O8 hl;rw[Zf];by_cases h3:h.kind=3
 ·rw[Qe h3];have hd:Q2 h.d=true:=by
   have e:Xc (.node h l)=(Zr (.node h l) {Qh 3 with d:=h.d}&&Q2 h.d):=by
    unfold Xc;simp only[Aa.Ae,h3];rfl
   rw[e,X1]at h0;exact h0.2
  exact fO hd
 ·rw[Qa h3];by_cases h7:h.kind=7
  ·rw[Qe h7];refine⟨Dp (by unfold Xc;simp[Qh]) fun k y=>?_,Y9 (by rw[LK];exact f) fun k y=>?_⟩
   ·obtain⟨x,hx,rfl⟩:=F4 y;exact(ih x hx (v x hx) (j x hx)).1
   ·obtain⟨x,hx,rfl⟩:=F4 y;exact(ih x hx (v x hx) (j x hx)).2
  ·rw[Qa h7];by_cases h8:h.kind=8
   ·rw[Qe h8];obtain⟨he,u,_⟩:=O9 h0 h8;obtain⟨b,rfl⟩:∃b,l=Qq b:=⟨Xa l,(EQ _ he).symm⟩;rw[Aa.Ag]at u he;rw[BF,Nx]at u;rw[IX,Eh];generalize n:b.map (fun p=>(p.1,Zf id p.2))=qs;have c:=KW id qs;have a1:(CR id qs).map Prod.fst=(CR id qs).map Prod.fst:=rfl;have a0:((CR id qs).map Prod.fst).Nodup:=by
     rw[(c.map Prod.fst).nodup_iff,<-n,Ka];exact u
    have z:(Qq (CR id qs)).length=(Qq b).length:=by
     rw[Z6,Z6,c.length_eq,<-n,Vq]
    have m:∀k∈Qq (CR id qs),k∈Qq b∨∃x∈Qq b,k=Zf id x:=fun k y=>by
     obtain⟨q,r,h⟩:=J6.1 y;have r:=c.mem_iff.1 r;rw[<-n]at r;obtain⟨p,c,rfl⟩:=Xq.1 r;rcases h with rfl|rfl
     ·exact .inl (J6.2 ⟨p,c,.inl rfl⟩)
     ·exact .inr ⟨p.2,J6.2 ⟨p,c,.inr rfl⟩,rfl⟩
    refine⟨Dp ?_ fun k y=>?_,Y9 (by rw[z];exact f) fun k y=>?_⟩
    ·rw[Qe6,BF,(Nx _).2 a0,z,he];rfl
    ·rcases m k y with h| ⟨x,hx,rfl⟩
     ·exact v k h
     ·exact(ih x hx (v x hx) (j x hx)).1
    ·rcases m k y with h| ⟨x,hx,rfl⟩
     ·exact j k h
     ·exact(ih x hx (v x hx) (j x hx)).2
   ·rw[Qa h8];exact⟨ho,hl⟩
def JW:∀(l:Qp) (x:Aa),x∈Zs l->x∈l∨x=Ya
 | [],x,h=>by simp[Zs]at h
 | [_],x,h=>by simp[Zs]at h
 |k::y::l,x,h=>by
  rw[Zs]at h;rcases Xg.1 h with rfl|h
  ·exact .inl sM
  ·rcases Xg.1 h with rfl|h
   ·exact .inr rfl
   ·rcases JW l x h with h|h
    ·exact .inl (by simp[h])
    ·exact .inr h
def JX:∀l:Qp,(Zs l).length<=l.length
 | []=>by simp[Zs]
 | [_]=>by simp[Zs]
 |k::y::l=>by
  rw[Zs]
  have:=JX l;simp only[Xf];omega
def MF(hy:Zh y):∀t:Aa,CF t->Zh (Xo y t):=by
 refine Aa.ind fun h l j ho=>?_
 by_cases c:Ze (.node h l)=true
 ·refine Ty ?_;intro h9 x e;rw[e]at c ho|-;have q:l=[x]:=by injection e
  rw[V4 c];refine Y9 sM fun k v=>?_
  rw[Zm.1 v];exact j x (by rw[q];exact Zm.2 rfl) (Gs ho)
 ·have c':Ze (.node h l)=false:=by simpa using c
  rw[Z7 c'];exact hy
def ER(ho:CF t)(hl:Zh t):Zh (Q3 t)/\(Q3 t).l.length<=40:=by
 have j:=(BJ Ky t ho).1;exact⟨fun x hx=>hl x ((Vi t j).2.2 x hx),hl _ j⟩
def JY(ho:CF t)(hl:Zh t):Zh (Xu t):=by
 unfold Xu;split
 ·refine MF ?_ t ho;obtain⟨v,b⟩:=ER ho hl;generalize u:Q3 t=B at v|-;obtain⟨j,y⟩:=B;obtain⟨z,n⟩:=O8 v;have e:Zk (.node j y)=.node (Qh j.kind) (if j.kind=8 then Zs y else[]):=rfl;rw[e];by_cases q:j.kind=8;all_goals first|rw[Qe q]|rw[Qa q]
  ·refine Y9 (Qj (JX _) z) fun k m=>?_
   rcases JW _ _ m with h|rfl
   ·exact n k h
   ·exact Vh _
  ·exact Vh _
 ·exact hl
def QD:∀(l:Qp) (s:Qo) (x:Aa),Ro l s=some x->x∈l
 | [],s,x,h=>by simp[Ro]at h
 | [_],s,x,h=>by simp[Ro]at h
 |k::y::l,s,x,h=>by
  rw[Ro]at h;split at h
  ·cases h;simp
  ·have:=QD l s x h;simp[this]
def uZ{s:Aj}(ho:CF t)(hp:(Q3 t).hd.kind=7->0<=s.index/\s.index.toNat< (Q3 t).l.length):Kq t s∈t.flat:=by
 have v:=(BJ Ky t ho).1;have j:∀x∈(Q3 t).l,x∈t.flat:=fun x hx=>(Vi t v).2.2 x (Hz hx)
 unfold Kq;split
 ·rename_i y;have q:=(hp y).2;refine j _ ?_;unfold Xp;rw[K9,Km q];exact Zp q
 ·split
  ·rename_i x e;exact j x (QD _ _ _ e)
  ·exact Z8 t
def fP{x d c:Aa}(h:AX X f x d)(hg:MI d p=some c):∀j,j<=p.length->(p.take j).foldl Kq x∈x.flat
 |0,_=>by simpa using Z8 x
 |j+1,hj=>by
  obtain⟨d',h1,h2⟩:=QB h hg j oM;have q:=fP h hg j oM;rw[Gl oM,O5];exact(Vi x q).2.2 _ (uZ h1.own h2)
def qO:∀(p:List Aj) (t c:Aa),MI t p=some c->c∈t.flat
 | [],t,c,h=>by
  rw[kF]at h;cases h;exact Z8 t
 |s::p,t,c,h=>by
  obtain⟨i,ha,hg⟩:=Cy.1 h;have v:=qO p _ c hg;have j:i<t.l.length:=Lt _ (Q6 _) (Fq.1 ha);have q:Xp t.l i∈t.l:=by
   unfold Xp;rw[K9,Km j];exact Zp j
  exact(Vi t (Hz q)).2.2 _ v
def QE(id:Int)(n:Aa)(g:Aa)(p:List Aj):Option (List Aj × Aa):=
 if(Xu (p.foldl Kq n)).same (Xu (Zf id ((D8 g p).getD (.node (Qh 0) []))))then none else some (p,Xu (p.foldl Kq n))
def V7(id:Int)(n g:Aa)(i:Nat):List (List Aj × Aa):=((Th g).take i).filterMap (QE id n g)
def HJ{n g:Aa}(hi:i< (Th g).length):V7 id n g (i+1)=V7 id n g i++(QE id n g ((Th g)[i])).toList:=by
 unfold V7;rw[Gl hi,NI];congr 1
def fQ{n g:Aa}(i:Nat):(V7 id n g i).length<=i:=by
 unfold V7;refine Qj (List.length_filterMap_le _ _) ?_;rw[Ji];omega
def Qcg{n:Aa}(h1:(Q8 X n id).2=0)(h2:¬(id=3/\Kz n=false)):Gz X n id=(V7 id n (Q8 X n id).1 (Th (Q8 X n id).1).length,0):=by
 unfold Gz V7;rw[Qa (fun e=>e h1),Qa h2,Vc];rfl
abbrev Rc(q:Aa × Aa):Qo:=q.1.hd.s
def QF(s:Qo):∀l:List Qo,l.contains s=true↔s∈l
 | []=>sM
 |x::l=>by
  rw[List.contains_cons,Y2,QF s l,Xg,MapKept.bytes_beq]
def Tb:∀{ps:List (Aa × Aa)},(ps.map Rc).Nodup->∀(j:Nat) (hj:j<ps.length),ps.find? (fun q=>decide (q.1.hd.s=ps[j].1.hd.s))=some ps[j]/\ps.filter (fun q=>decide (q.1.hd.s≠ps[j].1.hd.s))=ps.eraseIdx j
 | [],_,j,hj=>by simp at hj
 |p::ps,hn,j,hj=>by
  rw[Zy,Mp]at hn;cases j with
  |zero=>
   simp only[Iv,List.eraseIdx_cons_zero];refine⟨by rw[LD,Kp rfl],?_⟩;rw[Wk,Qa sM];refine pR.2 fun q hq=>Kp fun e=>hn.1 ?_
   exact Xq.2 ⟨q,hq,e⟩
  |succ j=>
   have hj2:j<ps.length:=by simpa using hj
   obtain⟨y,z⟩:=Tb hn.2 j hj2;simp only[L0,eD];have v:p.1.hd.s≠ps[j].1.hd.s:=fun e=>hn.1 (Xq.2 ⟨ps[j],Zp hj2,e.symm⟩)
   refine⟨by rw[LD,Z4 v];exact y,?_⟩;rw[Wk,Qe (Kp v),z]
def Qch(h:s∉ps.map Rc):ps.find? (fun q=>decide (q.1.hd.s=s))=none:=
 KR.2 fun q j e=>h (Xq.2 ⟨q,j,Zo e⟩)
def fR(L:Qp)(has:List (Aa × Aa))(i:Nat)(h:2*i+1<L.length):Jh (L.drop (2*i)) has=
  if(Xe L[2*i]).2 then
   match has.find? fun q=>decide (q.1.hd.s=(Xe L[2*i]).1)with
   |some q=>((L[2*i],q.2)::(Jh (L.drop (2*(i+1))) (has.filter fun z=>decide (z.1.hd.s≠(Xe L[2*i]).1))).1,(Jh (L.drop (2*(i+1))) (has.filter fun z=>decide (z.1.hd.s≠(Xe L[2*i]).1))).2)
   |none=>Jh (L.drop (2*(i+1))) has
  else Jh (L.drop (2*(i+1))) has:=by
 have e:L.drop (2*i)=L[2*i]::L[2*i+1]::L.drop (2*(i+1)):=by
  rw[Dq oM,Dq oM];rfl
 rw[e,Jh]
 rfl
def vA(L:Qp)(has:List (Aa × Aa)):Jh (L.drop (2*(L.length/2))) has=([],has):=by
 have h:(L.drop (2*(L.length/2))).length<=1:=by rw[CB];omega
 rcases hd:L.drop (2*(L.length/2))with _| ⟨x,_| ⟨y,r⟩⟩
 ·simp[Jh]
 ·simp[Jh]
 ·rw[hd]at h;simp at h
def AF(L:Qp)(has0:List (Aa × Aa))(i:Nat)(acc has:List (Aa × Aa)):Prop:=
 Jh L has0=(acc++(Jh (L.drop (2*i)) has).1,(Jh (L.drop (2*i)) has).2)/\(has.map Rc).Nodup/\acc.length<=i
def AF.start(hn:(has0.map Rc).Nodup):AF L has0 0 [] has0:=⟨sM,hn,Q6 _⟩
def AF.hit(h:AF L has0 i acc has)(hi:2*i+1<L.length)(hr:(Xe L[2*i]).2=true)(hj:j<has.length)(hk:has[j].1.hd.s=(Xe L[2*i]).1):
  AF L has0 (i+1) (acc++[(L[2*i],has[j].2)]) (has.eraseIdx j):=by
 obtain⟨q,v,m⟩:=h
 obtain⟨z,y⟩:=Tb v j hj
 rw[fR L has i hi,Qe hr,<-hk,z]at q
 simp only at q
 rw[y]at q
 refine⟨by rw[q];simp,?_,by rw[Zv];simp;omega⟩
 rw[<-y]
 exact v.sublist (List.filter_sublist.map _)
def AF.miss(h:AF L has0 i acc has)(hi:2*i+1<L.length)(hr:(Xe L[2*i]).2=false∨(Xe L[2*i]).1∉has.map Rc):
  AF L has0 (i+1) acc has:=by
 obtain⟨j,q,v⟩:=h
 rw[fR L has i hi]at j
 refine⟨?_,q,oM⟩
 rcases hr with hr|hr
 ·rw[Qa (by rw[hr];decide)]at j;exact j
 ·rw[Qch hr]at j;simp only[ite_self]at j;exact j
def AF.end(h:AF L has0 (L.length/2) acc has):Jh L has0=(acc,has):=by
 obtain⟨j,_⟩:=h;rw[vA]at j;simpa using j
def Lw:∀(n:Nat) (L:Qp) (has:List (Aa × Aa)),L.length<=n->∃P:Qo->Bool,(Jh L has).2=has.filter fun q=>P (Rc q)
 |_,[],has,_=>⟨fun _=>true,by rw[Jh];exact(pR.2 fun _ _=>rfl).symm;all_goals(intro _ _ _ e;cases e)⟩
 |_,[_],has,_=>⟨fun _=>true,by rw[Jh];exact(pR.2 fun _ _=>rfl).symm;all_goals(intro _ _ _ e;cases e)⟩
 |0,_::_::_,_,h=>by simp at h
 |n+1,k::x::L,has,h=>by
  have hl:L.length<=n:=by simp only[Xf]at h;omega
  rw[Jh];split
  ·split
   ·obtain⟨P,j⟩:=Lw n L (has.filter fun z=>decide (z.1.hd.s≠(Xe k).1)) hl;refine⟨fun s=>P s&&decide (s≠(Xe k).1),?_⟩;simp only;rw[j,List.filter_filter]
   ·exact Lw n L has hl
  ·exact Lw n L has hl
def fS(hn:(has.map Rc).Nodup):has.filter (fun q=>((Jh L has).2.map Rc).contains (Rc q))=(Jh L has).2:=by
 obtain⟨P,z⟩:=Lw L.length L has (Q6 _);rw[z];refine List.filter_congr fun q m=>?_
 by_cases h:P (Rc q)=true
 ·rw[h];exact(QF _ _).2 (Xq.2 ⟨q,Pz.2 ⟨m,h⟩,rfl⟩)
 ·have y:P (Rc q)=false:=by simpa using h
  rw[y];refine Bool.eq_false_iff.2 fun e=>?_
  obtain⟨r,v,e⟩:=Xq.1 ((QF _ _).1 e);have j:P (Rc r)=true:=(Pz.1 v).2;rw[e]at j;exact h j
def ES:∀(n:Nat) (L:Qp) (has:List (Aa × Aa)),L.length<=n->(∀q∈(Jh L has).1,q.1∈L/\∃z∈has,z.2=q.2)/\∀q∈(Jh L has).2,q∈has
 |_,[],has,_=>by rw[Jh]<;>simp
 |_,[_],has,_=>by rw[Jh]<;>simp
 |0,_::_::_,_,h=>by simp at h
 |n+1,k::x::L,has,h=>by
  have hl:L.length<=n:=by simp only[Xf]at h;omega
  have m:∀has2:List (Aa × Aa),((∀q∈(Jh L has2).1,q.1∈L/\∃z∈has2,z.2=q.2)/\∀q∈(Jh L has2).2,q∈has2)->(∀z∈has2,z∈has)->(∀q∈(Jh L has2).1,q.1∈k::x::L/\∃z∈has,z.2=q.2)/\∀q∈(Jh L has2).2,q∈has:=fun has2 ⟨y,b⟩ c=>
   ⟨fun q v=>⟨by simp[(y q v).1],by obtain⟨z,j,e⟩:=(y q v).2;exact⟨z,c z j,e⟩⟩,fun q v=>c q (b q v)⟩
  rw[Jh];split
  ·split
   ·rename_i q v;obtain⟨y,b⟩:=m _ (ES n L (has.filter fun z=>decide (z.1.hd.s≠(Xe k).1)) hl) fun z j=>(Pz.1 j).1
    refine⟨fun r u=>?_,b⟩;rcases Xg.1 u with rfl|u
    ·exact⟨sM,q,GA v,rfl⟩
    ·exact y r u
   ·exact m _ (ES n L has hl) fun z j=>j
  ·exact m _ (ES n L has hl) fun z j=>j
end Go.Tm
