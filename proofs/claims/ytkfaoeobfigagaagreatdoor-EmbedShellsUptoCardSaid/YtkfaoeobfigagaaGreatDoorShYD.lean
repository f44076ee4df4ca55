/-
  Part 4 of what the claim leans on: contracts of the functions that the law reaches, and plain facts. Conditions: the theorems' own.
-/
import Derived.Shelf.Strings.Builder1
import Derived.Shelf.Strings.Builder2
import Derived.Shelf.Strings.Trim
import Derived.Shelf.Small.Utf8
import Derived.Shelf.Small.Strs
import Derived.Shelf.Small.Wraps
import Derived.Shelf.Strings.BuilderF
import Derived.Shelf.Strings.BuilderK
import Derived.Shelf.Strings.BuilderRune
import Derived.Shelf.Utf8.AppendRune
import Derived.Shelf.Unicode.ValidAny
import Derived.Shelf.Spec.TrailingZeros
import Derived.Ground.Names7Prog
import Derived.Shelf.Utf8.AppendRunePlain
import Derived.Shelf.Strings.Builder2Cap
import Derived.Shelf.Strconv.Atoi
import Derived.Shelf.Strconv.Itoa0
import Derived.Shelf.Strconv.Itoa1
import Derived.Shelf.LaysM
import Derived.Shelf.Strconv.Itoa2
import Derived.Shelf.Strconv.Itoa3
import Derived.Shelf.Strconv.AtoiErrFast
import Derived.Shelf.Strconv.ParseIntEmpty
import Derived.Shelf.Strconv.AtoiFail
import Derived.Shelf.Strconv.Clone
import Derived.Shelf.Strconv.SyntaxError
import Derived.Shelf.LaysC
import Derived.Shelf.Strconv.ToError
import Derived.Shelf.Strconv.AtoiErr
import Derived.Shelf.Strconv.ErrVar
import Derived.Shelf.Strconv.Lower
import Derived.Shelf.Strconv.ParseUint10
import Derived.Shelf.Strconv.ParseUint10Empty
import Derived.Shelf.Strconv.ParseUint10Any
import Derived.Shelf.Strconv.ParseInt10
import Derived.Shelf.Strconv.AtoiLong
import Derived.Shelf.Strconv.AtoiInnerAll
import Derived.Shelf.Strconv.RangeError
import Derived.Shelf.Strconv.ToErrorRange
import Derived.Shelf.Strconv.AtoiAll
import Derived.Shelf.Strconv.ErrVarAll
import Derived.Shelf.Strconv.ParseUintEmpty
import Derived.Shelf.Strconv.ParseUint10b64
import Derived.Shelf.Strconv.ParseUint10b32
import Derived.Shelf.Strconv.ParseUint10b16
import Derived.Shelf.Strconv.ParseUint10b8
import Derived.Shelf.Strconv.ParseUint10At
import Derived.Shelf.Strconv.ParseInt10At64
import Derived.Shelf.Strconv.ParseInt10At32
import Derived.Shelf.Strconv.ParseInt10At16
import Derived.Shelf.Strconv.ParseInt10At8
import Derived.Shelf.Strconv.ParseInt10All
import Derived.Ground.MpProg
import Derived.Shelf.Pu.ParseUintPublic10
import Derived.Shelf.Pu.ErrVarParseUint
import Derived.Shelf.Strings.Search1
import Derived.Shelf.GgClosure.StringsIndexFunc
import Derived.Ground.GgwProg
import Derived.Shelf.GgClosure.StringsIndexFuncTop
import Derived.Shelf.GgClosure.StringsRunes
import Derived.Shelf.Strings.Prefix
import Derived.Shelf.Unicode.Decode
import Derived.Shelf.Strings.Runes
import Derived.Shelf.Strings.AsciiSet
import Derived.Shelf.Bits.Mul64
import Derived.Shelf.Strings.Repeat
import Derived.Shelf.Unicode.DecodeSlow
import Derived.Shelf.Unicode.DecodeAny
import Derived.Shelf.Unicode.DecodeLast
import Derived.Shelf.Strings.FuncGrows
import Derived.Shelf.Strings.BuilderCap
import Derived.Shelf.Slices.Turned
import Derived.Ground.Names2Prog
import Derived.Shelf.Slices.SearchI
import Derived.Deep.WholeRow
import Derived.Deep.RegionWith
import Derived.Deep.Cut
import Derived.Shelf.Abstract
import Derived.LaidEql
import Derived.Stop.Asserts
import Derived.RowKitTokens
import Derived.Deep.QuietTactic
import Derived.Laws.Bits64b
import Derived.Laws.ResultCell
import Derived.ScopeJumps
import Derived.WalkMore
import Derived.Stop.IfaceNil
import Derived.IntWalk
import Derived.Test.YtkfaoeobfigagaaGreatDoorShYC
set_option linter.all false
set_option maxRecDepth 100000
set_option maxHeartbeats 16000000
namespace Go.Proofs
open Go.Shelf Go.Proofs.Tryz
def kP{α:Sort _}{a b:α}(h:a=b:=by kernel_rfl):a=b:=h
abbrev Tryz.R0:Go.Shelf.Ren:=⟨fun|99=>258|100=>232|105=>200|107=>250|108=>306|119=>399|120=>390|122=>335|129=>207|137=>398|151=>364|152=>389|160=>287|161=>272|162=>273|165=>259|166=>94|169=>95|170=>260|171=>92|172=>344|196=>239|197=>363|205=>387|206=>312|207=>288|212=>257|215=>367|217=>403|224=>400|225=>401|227=>326|228=>362|231=>325|232=>329|233=>327|234=>330|235=>328|236=>331|240=>163|241=>313|242=>241|243=>157|244=>372|245=>323|246=>238|247=>394|259=>301|260=>388|263=>310|264=>311|266=>406|271=>365|276=>242|277=>355|278=>302|279=>358|280=>359|281=>360|282=>361|283=>297|284=>298|285=>299|286=>300|287=>322|315=>324|316=>386|317=>345|318=>346|319=>347|320=>348|321=>356|322=>357|337=>373|338=>290|n=>n,fun|28=>259|37=>116|40=>283|46=>47|51=>236|53=>24|70=>115|72=>118|75=>66|76=>121|80=>123|85=>390|105=>374|109=>264|116=>339|117=>340|119=>315|124=>343|127=>166|138=>317|139=>318|143=>395|145=>397|146=>325|148=>327|164=>250|167=>368|168=>370|171=>310|173=>312|175=>280|210=>387|212=>356|213=>357|232=>392|233=>208|n=>n,fun|3=>4|4=>5|15=>9|16=>10|17=>7|18=>11|19=>6|n=>n⟩
abbrev Tryz.R1:Go.Shelf.Ren:=⟨fun|37=>367|n=>n,fun|n=>n,fun|n=>n⟩
abbrev Tryz.R2:Go.Shelf.Ren:=⟨fun|29=>290|n=>n,fun|22=>24|25=>47|54=>208|n=>n,fun|1=>6|n=>n⟩
abbrev Tryz.R3:Go.Shelf.Ren:=⟨fun|129=>207|171=>92|172=>344|205=>387|243=>157|244=>372|245=>323|246=>238|247=>394|279=>358|280=>359|281=>360|282=>361|283=>297|284=>298|285=>299|286=>300|287=>322|316=>386|317=>345|318=>346|319=>347|320=>348|321=>356|322=>357|337=>373|338=>290|n=>n,fun|37=>116|46=>47|51=>236|53=>24|75=>66|76=>121|80=>123|85=>390|127=>166|143=>395|145=>397|167=>368|168=>370|171=>310|173=>312|175=>280|210=>387|212=>356|213=>357|232=>392|233=>208|n=>n,fun|15=>9|16=>10|17=>7|18=>11|19=>6|n=>n⟩
abbrev Tryz.R4:Go.Shelf.Ren:=⟨fun|15=>271|20=>324|n=>n,fun|23=>283|n=>n,fun|n=>n⟩
abbrev Tryz.R5:Go.Shelf.Ren:=⟨fun|129=>207|171=>92|243=>157|246=>238|279=>358|280=>359|283=>297|284=>298|285=>299|286=>300|316=>386|317=>345|318=>346|319=>347|320=>348|337=>373|338=>290|n=>n,fun|37=>116|46=>47|51=>236|53=>24|75=>66|80=>123|127=>166|168=>370|171=>310|173=>312|210=>387|212=>356|213=>357|232=>392|233=>208|n=>n,fun|15=>9|16=>10|17=>7|18=>11|19=>6|n=>n⟩
abbrev Tryz.R6:Go.Shelf.Ren:=⟨fun|14=>267|16=>322|17=>323|19=>356|20=>357|21=>358|22=>359|23=>360|24=>361|25=>386|26=>387|27=>92|28=>157|29=>238|30=>297|31=>298|32=>299|33=>300|34=>345|35=>207|36=>346|37=>347|38=>348|39=>373|40=>290|n=>n,fun|22=>24|24=>66|25=>280|34=>368|36=>47|37=>116|39=>370|44=>387|47=>166|48=>395|50=>397|52=>310|55=>312|59=>356|60=>236|61=>357|65=>392|66=>208|67=>123|n=>n,fun|0=>9|1=>10|2=>7|3=>11|4=>6|n=>n⟩
def lK{P:Prop}(h:P:=by repeat' first|exact kP|exact of_decide_eq_true kP|intro _|constructor):P:=h
def nz{p q:Prop}(h:p)(e:p=q:=by simp only[Tryz.R0,Tryz.R1,Tryz.R2,Tryz.R3,Tryz.R4,Tryz.R5,Tryz.R6];rfl):q:=e.mp h
def Tryz.lays169:Go.Proofs.Lays.n169 prog Tryz.R0:=lK
def Tryz.Bv:Builder.Extra prog Tryz.R0:=lK
def Tryz.lays161:Go.Proofs.Lays.n161 prog Tryz.R0:=lK
def Tryz.strings_TrimLeft_one:=nz (@Any.strings_TrimLeft_one prog Tryz.R0 lK)
def Tryz.lays162:Go.Proofs.Lays.n162 prog Tryz.R0:=lK
def Tryz.strings_TrimRight_one:=nz (@Any.strings_TrimRight_one prog Tryz.R0 lK)
def Tryz.Builder_String_any_k:=nz (@Any.Builder_String_any_k prog Tryz.R0 lK lK)
def Tryz.lays242:Go.Proofs.Lays.n242 prog Tryz.R0:=lK
def Tryz.utf8_AppendRune_plain:=nz (@Any.utf8_AppendRune_plain prog Tryz.R0 lK kP)
def Tryz.lays129:Go.Proofs.Lays.n129 prog Tryz.R0:=lK
def Tryz.bits_Len64:=nz (@Any.bits_Len64 prog Tryz.R0 lK)
def Tryz.lays283:Go.Proofs.Lays.n283 prog Tryz.R0:=lK
def Tryz.internal_strconv_small:=nz (@Any.internal_strconv_small prog Tryz.R0 lK)
def Tryz.BB:Go.Proofs.LaysM.n284 prog Tryz.R5:=lK
def Tryz.internal_strconv_numDigits:=nz (@Any.internal_strconv_numDigits prog Tryz.R5 lK)
def Tryz.lays285:Go.Proofs.Lays.n285 prog Tryz.R0:=lK
def Tryz.internal_strconv_formatBase10:=nz (@Any.internal_strconv_formatBase10 prog Tryz.R0 lK)
def Tryz.B7:Go.Proofs.LaysM.n171 prog Tryz.R5:=lK
def Tryz.strconv_Itoa:=nz (@Any.strconv_Itoa prog Tryz.R5 lK)
def Tryz.B5:Go.Proofs.LaysC.n172 prog Tryz.R3:=lK
def Tryz.strconv_Atoi_ok:=nz (@Any.strconv_Atoi_ok prog Tryz.R3 lK)
def Tryz.strconv_Atoi_syntax_var:=nz (@Any.strconv_Atoi_syntax_var prog Tryz.R3 lK)
def Tryz.strconv_Atoi_range_var:=nz (@Any.strconv_Atoi_range_var prog Tryz.R3 lK)
def Tryz.BA:Go.Proofs.LaysPu.n14 prog Tryz.R6:=lK
def Tryz.strconv_ParseUint_10_at64_ok:=nz (@Any.strconv_ParseUint_10_at64_ok prog Tryz.R6 lK)
def Tryz.strconv_ParseUint_10_at32_ok:=nz (@Any.strconv_ParseUint_10_at32_ok prog Tryz.R6 lK)
def Tryz.strconv_ParseUint_10_at64_range_var:=nz (@Any.strconv_ParseUint_10_at64_range_var prog Tryz.R6 lK)
def Tryz.B6:Go.Proofs.LaysGw.n15 prog Tryz.R4:=lK
def Tryz.strings_IndexFunc_runes:=nz (@Any.strings_IndexFunc_runes prog Tryz.R4 lK)
def Tryz.lays100:Go.Proofs.Lays.n100 prog Tryz.R0:=lK
def Tryz.strings_HasSuffix:=nz (@Any.strings_HasSuffix prog Tryz.R0 lK)
def Tryz.B0:Go.Proofs.Lays.n227 prog Tryz.R0:=lK
def Tryz.strings_makeASCIISet:=nz fun h=>Any.strings_makeASCIISet Tryz.B0 h kP
def Tryz.lays228:Go.Proofs.Lays.n228 prog Tryz.R0:=lK
def Tryz.asciiSet_contains:=nz (@Any.asciiSet_contains prog Tryz.R0 lK)
def Tryz.lays105:Go.Proofs.Lays.n105 prog Tryz.R0:=lK
def Tryz.Bu:Builder.Extra prog Tryz.R0:=lK
def Tryz.strings_Repeat:=nz (@Any.strings_Repeat prog Tryz.R0 lK lK)
def Tryz.lays107:Go.Proofs.Lays.n107 prog Tryz.R0:=lK
def Tryz.slices_Contains_int:=nz (@Any.slices_Contains_int prog Tryz.R0 lK)
def Tryz.lays196:Go.Proofs.Lays.n196 prog Tryz.R0:=lK
def Tryz.utf8_ValidString:=nz (@Any.utf8_ValidString prog Tryz.R0 lK)
def Tryz.By:Go.Proofs.Lays7.n29 prog Tryz.R2:=lK
open Go.RowKit Go.Lib in
def Tryz.bits_TrailingZeros64(x:Nat)(hx:x<18446744073709551616)(w:World)(hT:x≠0->TabAt 6 Go.Lib.deBruijn64tab w):
  Calls prog 290 #[.int .u64 x] w fun e w'=>e=.returned (.int .i64 (Go.Lib.ctz 64 x))/\w'=w:=Any7.bits_TrailingZeros64 Tryz.By x hx w hT
end Go.Proofs
namespace Go.Tm
open Go.Proofs Go.RowKit Go.Proofs.Tryz
variable{s:Qo}{W W' w w':Qm}{N b g:Nat}{K:Nat->Obj->Prop}
def ZL:=@ByteArray.data_extract
def aA:=@Array.length_toList
def Pm:=@List.mem_of_getElem?
def Ud:=@wpList_store_row
def Pn:=@World.setRow_alloc_new
def aB:=@List.dropWhile_sublist
def Il:=@List.all_cons
def Sr:=@Bool.eq_iff_iff
def Dv:=@results_cell_row
def Ew:=@heap_alloc_last
def Ue:=@List.foldl_cons
def Ex:=@Nat.mul_zero
def Mc:=@Nat.le_mul_of_pos_right
def Hn:=@Nat.pow_pos
def nH:=@Lib.bytesWorld_below
def Nw:=@ByteArray.size_append
def DW:=@List.cons.injEq
def Gn:=@results_tmp
def xB:Q0->Nat
 | .string s=>s.size
 |_=>0
def xC(w:Qm)(b:Nat)(p:Nat->Bool):Prop:=∀x:UInt8,w.cell? ⟨b,x.toNat,none⟩=some (.bool (p x.toNat))
def aC(c:UInt8)(t:List UInt8):(⟨(c::t).toArray⟩:Qo).extract 1 (t.length+1)=⟨t.toArray⟩:=by
 apply E6;rw[ZL];apply Array.ext';simp
def aD(c:UInt8)(u:List UInt8)(h:u.length< (⟨(u++[c]).toArray⟩:Qo).size):(⟨(u++[c]).toArray⟩:Qo)[u.length]=c:=by
 show(u++[c]).toArray[u.length]=c;simp
def aE(c:UInt8)(u:List UInt8):(⟨(u++[c]).toArray⟩:Qo).extract 0 u.length=⟨u.toArray⟩:=by
 apply E6;rw[ZL];apply Array.ext';simp
def VY(s:Qo)(b:Nat)(p:Nat->Bool)(w:Qm)(hs:s.size<=9223372036854775807)(hb:xC w b p):
  Calls prog 327 #[.string s,.pointer (some ⟨b,0,none⟩)] w fun e w'=>e=.returned (.string ⟨(s.data.toList.dropWhile fun x=>p x.toNat).toArray⟩)/\w'=w:=by
 go_in
 go_wp2
 go_loopw [0] (fun v wr=>∃t:List UInt8,v=.string ⟨t.toArray⟩/\t.length<=s.size/\(t.dropWhile fun x=>p x.toNat)=(s.data.toList.dropWhile fun x=>p x.toNat)/\wr=w)
  (fun v _=>xB v)
 case atStart=>exact⟨s.data.toList,rfl,sM,rfl,rfl⟩
 case round=>
  obtain⟨t,rfl,m,hd,rfl⟩:=hrel;replace hd:=Qc hd;cases t with
  |nil=>
   go_wp2;go_ret;exact⟨by rw[<-hd.out];rfl,rfl⟩
  |cons c t=>
   have y:=hb c;cases hp:p c.toNat with
   |true=>
    rw[hp]at y;have j:(t.dropWhile fun x=>p x.toNat)=(s.data.toList.dropWhile fun x=>p x.toNat):=by rw[<-hd.out,MP,hp];rfl
    have z:=Qc j;clear j;go_wp2_with fail;refine(asciiSet_contains b c true _ y).mono ?_;rintro e w' ⟨rfl,q⟩;replace q:=q.symm;subst q;go_wp2;exact⟨⟨t,by rw[aC],by simp at m;omega,z.out,trivial⟩,by rw[aC];show t.toArray.size< (c::t).toArray.size;simp⟩
   |false=>
    rw[hp]at y;have j:c::t=(s.data.toList.dropWhile fun x=>p x.toNat):=by rw[<-hd.out,MP,hp];rfl
    replace j:=Qc j;go_wp2_with fail;refine(asciiSet_contains b c false _ y).mono ?_;rintro e w' ⟨rfl,q⟩;replace q:=q.symm;subst q;go_wp2;go_ret;exact⟨by rw[<-j.out];rfl,rfl⟩
def QZ(s:Qo)(b:Nat)(p:Nat->Bool)(w:Qm)(hs:s.size<=9223372036854775807)(hb:xC w b p):
  Calls prog 330 #[.string s,.pointer (some ⟨b,0,none⟩)] w fun e w'=>e=.returned (.string ⟨((s.data.toList.reverse.dropWhile fun x=>p x.toNat).reverse).toArray⟩)/\w'=w:=by
 go_in
 go_wp2
 go_loopw [0] (fun v wr=>∃t:List UInt8,v=.string ⟨t.reverse.toArray⟩/\t.length<=s.size/\(t.dropWhile fun x=>p x.toNat)=(s.data.toList.reverse.dropWhile fun x=>p x.toNat)/\wr=w)
  (fun v _=>xB v)
 case atStart=>exact⟨s.data.toList.reverse,sM,sM,rfl,rfl⟩
 case round=>
  obtain⟨t,rfl,n,hd,rfl⟩:=hrel;replace hd:=Qc hd;cases t with
  |nil=>
   go_wp2;go_ret;exact⟨by rw[<-hd.out];rfl,rfl⟩
  |cons c t=>
   have z:=hb c;obtain⟨u,y⟩:=X0 t.reverse;have f:t=u.reverse:=by rw[<-y,List.reverse_reverse]
   simp only[Xf]at n;have d:u.length<s.size:=by rw[<-y,MT];omega
   rw[show(c::t).reverse=u++[c] by rw[Ph,y]];cases hp:p c.toNat with
   |true=>
    rw[hp]at z;have j:(t.dropWhile fun x=>p x.toNat)=(s.data.toList.reverse.dropWhile fun x=>p x.toNat):=by rw[<-hd.out,MP,hp];rfl
    have m:=Qc j;clear j;go_wp2_with fail;rw[aD];refine(asciiSet_contains b c true _ z).mono ?_;rintro e w' ⟨rfl,q⟩;replace q:=q.symm;subst q;go_wp2;exact⟨⟨t,by rw[aE,y],oM,m.out,trivial⟩,by rw[aE];show u.toArray.size< (u++[c]).toArray.size;simp⟩
   |false=>
    rw[hp]at z;have j:c::t=(s.data.toList.reverse.dropWhile fun x=>p x.toNat):=by rw[<-hd.out,MP,hp];rfl
    replace j:=Qc j;go_wp2_with fail;rw[aD];refine(asciiSet_contains b c false _ z).mono ?_;rintro e w' ⟨rfl,q⟩;replace q:=q.symm;subst q;go_wp2;go_ret;exact⟨by rw[<-j.out,Ph,y];rfl,rfl⟩
abbrev Po:Qo:=⟨#[48,49,50,51,52,53,54,55,56,57]⟩
def iG(x:UInt8):(Lib.setCells Po.data.toList)[x.toNat]? =some (.bool (Za x.toNat)):=by
 rw[Lib.setCells_at];congr 2;have:∀n:Fin 256,Po.data.toList.contains (UInt8.ofNat n.val)=Za n.val:=by decide+kernel
 have h:=this ⟨x.toNat,x.toNat_lt⟩;simpa using h
def nI:∀w:Qm,(zeroValue 339).run prog w=.ok (.agg (Array.replicate 256 (.bool false))) w:=
 (zero_of_info (n:=256) kM).1
def xD{P:Prop}(h:P:=by
 rw[X6];intro e;rw[Hx]at e;have:s.size=0:=by show s.data.size=0;rw[<-aA,e];rfl
 omega):P:=h
def Uf(s:Qo)(w:Qm)(hs:s.size<=9223372036854775807)(h0:0<s.size):
  Calls prog 287 #[.string s,.string Po] w fun e w'=>e=.returned (.string ⟨((s.data.toList.reverse.dropWhile fun x=>Za x.toNat).reverse.dropWhile fun x=>Za x.toNat).toArray⟩)/\Qd w w':=by
 have a2:(s.toList==[])=false:=by
  exact xD
 have a0:=nI
 have z:(prog.info? 339).map (·.size)=some 256:=(zero_of_info (v:=.agg (Array.replicate 256 (.bool false))) (n:=256) kM).2
 go_in
 go_wp2_with fail
 refine(strings_makeASCIISet nI Po w dM (fun j b hj=>?_)).mono ?_
 ·have:=Pm hj;exact(by decide:∀b∈Po.data.toList,b.toNat<128) b this
 obtain⟨q,y⟩:=X0 (Lib.setCells Po.data.toList)
 have u:q.size=256:=by rw[<-y];exact Lib.setCells_size _
 have k:q.all (·.oneCell')=true:=by rw[<-y];exact Lib.setCells_one _
 have r:∀x:UInt8,q[x.toNat]? =some (.bool (Za x.toNat)):=fun x=>by rw[<-y];exact iG x
 rw[y]
 rintro e w' ⟨rfl,m⟩;replace m:=m.symm;subst m
 replace u:=Qc u
 replace k:=Qc k
 replace z:=Qc z
 clear y
 have hh:((w.alloc (.cells q 339)).alloc (.cells (Array.replicate 256 (Value.bool false)) 339)).heap[w.heap.size+1]? =some (.cells (Array.replicate 256 (Value.bool false)) 339 (0,0)):=by
  have:=Qt (w.alloc (.cells q 339)) (.cells (Array.replicate 256 (Value.bool false)) 339);simpa using this
 replace hh:=Qc hh
 go_wp2_with(refine Ud rfl 339 _ _ rfl (w.heap.size+1) q rfl rfl 339 _ hh.out (by rw[z.out,u.out]) (by rw[u.out];simp) k.out ?_)
 have d:∀x:Qm,Qd ((w.alloc (.cells q 339)).alloc (.cells q 339)) x->xC x (w.heap.size+1) Za:=fun x hx c=>by
  refine hx.cell ?_ fun _ _=>trivial
  have:=Qt (w.alloc (.cells q 339)) (.cells q 339);rw[T5]at this;unfold World.cell?;rw[this];exact r c
 have f:((w.alloc (.cells q 339)).alloc (.cells (Array.replicate 256 (Value.bool false)) 339)).setRow (w.heap.size+1) q=(w.alloc (.cells q 339)).alloc (.cells q 339):=by
  have:=Pn (w.alloc (.cells q 339)) (Array.replicate 256 (Value.bool false)) q 339;rw[T5]at this;exact this
 rw[f]
 have p:Qd w ((w.alloc (.cells q 339)).alloc (.cells q 339)):=((Ac.refl _ _).alloc _).alloc _
 generalize(w.alloc (.cells q 339)).alloc (.cells q 339)=W at d p|-
 have hS:=d W (Ac.refl _ _)
 refine(QZ s _ Za W hs hS).mono ?_
 rintro e w' ⟨rfl,m⟩;replace m:=m.symm;subst m
 generalize ht:(s.data.toList.reverse.dropWhile fun x=>Za x.toNat).reverse=t
 have a1:t.length<=s.size:=by rw[<-ht,MT];exact Qj (aB _).length_le (by rw[MT];exact Q6 _)
 replace ht:=Qc ht
 clear f
 go_wp2_with fail
 refine(VY ⟨t.toArray⟩ _ Za _ (by show t.toArray.size<=_;simp;omega) hS).mono ?_
 rintro e w1 ⟨rfl,m⟩;replace m:=m.symm;subst m
 go_wp2
 go_ret
 exact⟨by rw[ht.out];rfl,p⟩
def Ey{α:Type}(p:α->Bool)(l:List α):l.dropWhile p=[]↔l.all p=true:=by
 induction l with
 |nil=>simp
 |cons x l ih=>
  rw[MP,Il];cases h:p x<;>simp[ih]
def xE(l:List UInt8):((l.reverse.dropWhile fun x=>Za x.toNat).reverse.dropWhile fun x=>Za x.toNat)=[]↔l.all (fun x=>Za x.toNat)=true:=by
 constructor
 ·intro h;rw[Ey,List.all_reverse]at h;cases hd:l.reverse.dropWhile (fun x=>Za x.toNat)with
  |nil=>rw[Ey,List.all_reverse]at hd;exact hd
  |cons c r=>
   rw[hd,Il,X1]at h
   have:=List.head?_dropWhile_not (fun x:UInt8=>Za x.toNat) l.reverse;rw[hd]at this;simp[h.1]at this
 ·intro h;rw[<-List.all_reverse,<-Ey]at h;rw[h];rfl
def iH(s:Qo):(Qf s).all Za=s.data.toList.all (fun x=>Za x.toNat):=by
 simp[Qf,List.all_map,Function.comp_def]
def Ld(h:0<s.size):(s.toList==[])=false:=by
 exact xD
def Im(h:s.size=0):s=⟨#[]⟩:=by
 apply E6;exact Array.eq_empty_of_size_eq_zero h
def xF{P:Prop}(h:P:=by
 clear hz h8 hcr hsz;go_in;go_wp2_with(first| (go_at_call 287;refine(Uf s _ hs h0).mono ?_;rintro e w' ⟨rfl,hk⟩;rw[HR.out]));go_ret;exact⟨by rw[hr.out];simp,hk⟩):P:=h
def Vk(s:Qo)(w:Qm)(hs:s.size<=9223372036854775807):
  Calls prog 231 #[.string s] w fun e w'=>e=.returned (.bool (Xb (Qf s)))/\Qd w w':=by
 have hsz:=Q9 s
 rcases N9 s.size with h0|h0
 ·have:=Im h0;subst this;clear hs hsz h0;go_in;go_wp2;go_ret;exact⟨by rfl,Ac.refl _ _⟩
 ·have d:=Ld h0;by_cases y:s.size<=400
  ·have v:decide ((400:Int)< (s.size:Int))=false:=by simp;omega
   have b:(0:Int)< (s.size:Int):=oM;obtain⟨c,r,hcr⟩:∃c r,Qf s=c::r:=by
    cases hb:Qf s with
    |nil=>rw[hb]at hsz;simp at hsz;omega
    |cons c r=>exact⟨c,r,rfl⟩
   have f:(s[0]'h0).toNat=c:=by rw[<-Cc s h0,hcr];rfl
   obtain⟨R,q⟩:=X0 ((s.data.toList.reverse.dropWhile fun x=>Za x.toNat).reverse.dropWhile fun x=>Za x.toNat);have j:(R==[])=(Qf s).all Za:=by
    rw[iH,Sr,beq_iff_eq,<-q];exact xE _
   have HR:=Qc q;by_cases hz:c=48/\1<s.size
   ·have hr:Xb (Qf s)=false:=by
     rw[hcr]at hsz;unfold Xb;rw[hcr];have:(1:Nat)< (c::r).length:=oM;simp[hz.1]at this|-;exact fun _ h=>absurd this (by simpa using h)
    have m:=Qc hr;have z:((c:Int)==48)=true:=by simp;omega
    have n:decide ((1:Int)< (s.size:Int))=true:=by simp;omega
    clear hr j q hcr hsz hz;go_in;go_wp2;go_ret;exact⟨by rw[m.out];rfl,Ac.refl _ _⟩
   ·have hr:Xb (Qf s)=(R==[]):=by
     rw[j];rw[hcr]at hsz|-;unfold Xb;have u:((c::r).head? ==some 48&&decide (1< (c::r).length))=false:=by
      rw[hsz];simp only[List.head?_cons];rw[BT];by_cases h8:c=48
      ·right;simp;omega
      ·left;simp[h8]
     rw[u];simp only[List.isEmpty_cons,hsz,y];simp
    replace hr:=Qc hr;clear j q;by_cases h8:c=48
    ·have z:((c:Int)==48)=true:=by simp;omega
     have n:decide ((1:Int)< (s.size:Int))=false:=by simp;omega
     exact xF
    ·have z:((c:Int)==48)=false:=by rw[X6];omega
     exact xF
  ·have v:decide ((400:Int)< (s.size:Int))=true:=by simp;omega
   have hr:Xb (Qf s)=false:=by unfold Xb;simp[hsz,y]
   replace hr:=Qc hr;clear hsz;go_in;go_wp2;go_ret;exact⟨by rw[hr.out];rfl,Ac.refl _ _⟩
def Ug(w:Qm):Calls prog 230 #[] w fun e w'=>e=.returned (.agg #[.bool false,.string ⟨#[48]⟩,.int .i64 0])/\w'=w.alloc (.cells #[.bool false,.string ⟨#[48]⟩,.int .i64 0] 23):=by
 go_in;go_wp2;refine Xs (Dv rfl _ _ w.heap.size 23 _ (0,0) _ rfl (Ew _ _) underlying23 rfl kM) rfl ⟨rfl,rfl⟩
def Fg(n m:Int)(w:Qm)(h: -9223372036854775807<=m/\m<=9223372036854775807):Calls prog 199 #[.int .i64 n,.int .i64 m] w fun e w'=>e=.returned (.bool (Kt n m))/\w'=w:=by
 have v:wrap64 (-m)= -m:=F9 _ oM;by_cases j: -m<=n
 ·go_in;go_wp2;go_ret;exact⟨by simp[Kt,j],rfl⟩
 ·go_in;go_wp2;go_ret;exact⟨by
   have q:decide (-m<=n)=false:=by simp;omega
   rw[Kt,q];rfl,rfl⟩
def Qdp(s:Qo):Lib.hasSuffix s.data.toList [48]=((Qf s).getLast? ==some 48):=by
 unfold Lib.hasSuffix Qf;rw[List.getLast?_map];cases h:s.data.toList.getLast? with
 |none=>
  rw[List.getLast?_eq_none_iff]at h;rw[h];rfl
 |some c=>
  obtain⟨l,j⟩:=List.getLast?_eq_some_iff.1 h;rw[j,Sr,List.isSuffixOf_iff_suffix];constructor
  ·intro h';obtain⟨t,q⟩:=h'
   have:=List.append_inj_right' q rfl;simp at this;simp[<-this]
  ·intro h';simp at h';have:c=48:=by
    have:=congrArg UInt8.ofNat h';simpa using this
   exact⟨l,by rw[this]⟩
def nJ{a:Qo}(h:a=⟨#[48]⟩):(a.toList==[48])=true:=by have:=Pd h;simpa[Hx] using this
def Qdq{a:Qo}(h:¬a=⟨#[48]⟩):(a.toList==[48])=false:=by have:=Pe h;simpa[Hx] using this
def BR{o:Option Obj}(h:w.heap[b]? =o:=by repeat(first|with_reducible exact Ql (by simp)|with_reducible refine Qb ?_ |with_reducible refine J9 ?_)):w.heap[b]? =o:=h
def xG{P:Prop}(h:P:=by
 go_in;go_upto_region 1 with fail;go_region_with (go_at_call 230;refine(Ug _).mono ?_;rintro e w' ⟨rfl,rfl⟩);all_goals go_wp2_with(first
  | (go_at_call 231;refine(Vk d.digits _ oM).mono ?_;rintro e w' ⟨rfl,hk1⟩;rw[h1.out];have hb:=hk1.same w.heap.size _ (show _=some (.cells #[.bool d.neg,.string d.digits,i6 d.exp] 23 (0,0)) from BR) trivial;have b0:=Q1 hb)
  | (go_at_call 199;refine(Fg d.exp 100 _ oM).mono ?_;rintro e w' ⟨rfl,h9⟩;replace h9:=h9.symm;subst h9;rw[h3.out])
  | (go_at_call 232;refine(strings_HasSuffix d.digits ⟨#[48]⟩ _ oM).mono ?_;rintro e w' ⟨rfl,h9⟩;replace h9:=h9.symm;subst h9;rw[Qdp,h4.out]))
 all_goals go_ret
 all_goals exact⟨by rw[hr.out];simp[*],Xd⟩):P:=h
def Yn(d:Dc)(w:Qm)(hs:d.digits.size<=1099511627776):Calls prog 147 #[FY d] w fun e w'=>e=.returned (.bool (Q2 d))/\Qd w w':=by
 by_cases j:d=Ju
 ·have hr:Q2 d=true:=by rw[j];decide
  have y:(d.neg==false)=true:=by rw[j];rfl
  have m:(d.digits.toList==[48])=true:=nJ (by rw[j];rfl);have c:(d.exp==0)=true:=by rw[j];rfl
  have u:=Qc hr;clear hr j;go_in;go_upto_region 1 with fail;go_region_with (go_at_call 230;refine(Ug _).mono ?_;rintro e w' ⟨rfl,rfl⟩);all_goals go_wp2
  all_goals go_ret
  all_goals exact⟨by rw[u.out];rfl,Xd⟩
 ·have hr:Q2 d=(Xb (Qf d.digits)&&decide (d.digits.size<=100)&&Kt d.exp 100&& !((Qf d.digits).getLast? ==some 48)):=by
   unfold Q2;simp[j]
  obtain⟨t,h1⟩:∃r,Xb (Qf d.digits)=r:=⟨_,rfl⟩;obtain⟨b,z⟩:∃r,decide (d.digits.size<=100)=r:=⟨_,rfl⟩;obtain⟨k,h3⟩:∃r,Kt d.exp 100=r:=⟨_,rfl⟩;obtain⟨x,h4⟩:∃r,((Qf d.digits).getLast? ==some 48)=r:=⟨_,rfl⟩;have f:decide ((d.digits.size:Int)<=100)=b:=by rw[<-z];exact VL.2 oM
  rw[h1,z,h3,h4]at hr;replace h1:=Qc h1;replace h3:=Qc h3;replace h4:=Qc h4;replace hr:=Qc hr;clear z;by_cases q:d.neg=false
  ·by_cases v:d.digits=⟨#[48]⟩
   ·have n:¬d.exp=0:=fun e=>j (by cases d;simp_all [Ju])
    have y:(d.neg==false)=true:=by rw[q];rfl
    have m:(d.digits.toList==[48])=true:=nJ v;have c:(d.exp==0)=false:=by rw[X6];exact n
    clear n j;clear q v;exact xG
   ·have y:(d.neg==false)=true:=by rw[q];rfl
    have m:(d.digits.toList==[48])=false:=Qdq v;clear q v;exact xG
  ·replace q:d.neg=true:=by cases h:d.neg<;>simp_all
   have y:(d.neg==false)=false:=by rw[q];rfl
   clear q;exact xG
structure Am where
 range:Q0
 tree:Addr
 form:Addr
 keys:Addr
 ptree:Addr
variable{E:Am}
abbrev G6:TypeId:=395
structure Ah(N:Nat)(E:Am)(w:Qm):Prop where
 big:12<=N
 utf:Lib.Utf8Tabs 4 5 w
 pow:Lib.TabIs prog w "internal/strconv.uint64pow10" .u64 Lib.pow10Tab
 tz:TabAt 6 Lib.deBruijn64tab w
 range:∃tp p,w.var? prog "strconv.ErrRange" =some #[.iface tp p]
 syn:∃tp p,w.var? prog "strconv.ErrSyntax" =some #[.iface tp p]
 tree:w.cell? ⟨1,0,none⟩=some (.iface G6 (.pointer (some E.tree)))
 form:w.cell? ⟨2,0,none⟩=some (.iface G6 (.pointer (some E.form)))
 keys:w.cell? ⟨3,0,none⟩=some (.iface G6 (.pointer (some E.keys)))
 ptree:w.cell? ⟨0,0,none⟩=some (.iface G6 (.pointer (some E.ptree)))
 obj:∀a,a=E.tree∨a=E.form∨a=E.keys∨a=E.ptree->a.block<N/\∃c t,w.heap[a.block]? =some (.cells c t (0,0))
 apart:E.tree≠E.form/\E.keys≠E.ptree
def MV(hk:Ac K w w')(hK:∀b,b<N->∀o,K b o)(hN:12<=N){n:String}(hg:prog.globalNamed n=some g)(hg2:g<12){cs:Array Q0}(h:w.var? prog n=some cs):w'.var? prog n=some cs:=by
 unfold World.var? at h|-;rw[hg]at h|-;simp only[Option.bind_some]at h|-;cases ho:w.heap[g]? with
 |none=>rw[ho]at h;cases h
 |some o=>
  rw[hk.same _ _ ho (hK g oM o)];rw[ho]at h;exact h
def Ah.Af(h:Ah N E w)(hk:Ac K w w')(hK:∀b,b<N->∀o,K b o):Ah N E w':=by
 have q:=h.big;have cell:∀(g j:Nat) (v:Q0),g<12->w.cell? (ad g j)=some v->w'.cell? (ad g j)=some v:=fun g j v u z=>hk.cell z fun o _=>hK _ (Cf u q) o
 refine⟨h.big,⟨fun c z=>cell 4 _ _ dM (h.utf.1 c z),fun i m=>⟨cell 5 _ _ dM (h.utf.2 i m).1,cell 5 _ _ dM (h.utf.2 i m).2⟩⟩,MV hk hK q (g:=7) kM dM h.pow,fun j f=>cell 6 _ _ dM (h.tz j f),?_,?_,
  cell 1 _ _ dM h.tree,cell 2 _ _ dM h.form,cell 3 _ _ dM h.keys,cell 0 _ _ dM h.ptree,?_,h.apart⟩
 ·obtain⟨y,p,h⟩:=h.range;exact⟨y,p,MV hk hK q (g:=10) kM dM h⟩
 ·obtain⟨y,p,h⟩:=h.syn;exact⟨y,p,MV hk hK q (g:=9) kM dM h⟩
 ·intro a d;obtain⟨n,c,t,k⟩:=h.obj a d;exact⟨n,c,t,hk.same _ _ k (hK _ n _)⟩
def Ah.same(h:Ah N E w)(hk:Qd w w'):Ah N E w':=h.Af hk fun _ _ _=>trivial
def Cg:∀(l:Qv) (a:Nat),l.foldl (fun v c=>10*v+(c-48)) a=a*10^l.length+valOf l
 | [],a=>by simp[valOf]
 |c::l,a=>by
  unfold valOf;simp only[Ue,Xf];rw[Cg l (10*a+(c-48)),Cg l (10*0+(c-48)),Ex,Z3,Gb,Aaa,Jj (10:Nat) a,CM,Jj 10 (10^l.length),LM]
def MW:∀(l:List UInt8) (a:Nat),(l.map (·.toNat)).all Za=true->a<=18446744073709551615->
  Lib.parseUintM 18446744073709551615 a l=if(l.map (·.toNat)).foldl (fun v c=>10*v+(c-48)) a<18446744073709551616 then .ok ((l.map (·.toNat)).foldl (fun v c=>10*v+(c-48)) a)else .range
 | [],a,_,ha=>by simp[Lib.parseUintM];omega
 |c::l,a,h,ha=>by
  simp only[Zy,Il,X1]at h;have hc:48<=c.toNat/\c.toNat<=57:=by simpa[Za] using h.1
  have y:10*a+(c.toNat-48)<=(l.map (·.toNat)).foldl (fun v c=>10*v+(c-48)) (10*a+(c.toNat-48)):=by
   rw[Cg];exact Qj (Mc _ (Hn dM)) (Nat.le_add_right _ _)
  unfold Lib.parseUintM;rw[Qe hc];simp only[Zy,Ue];by_cases j:1844674407370955162<=a
  ·rw[Qe j,Qa oM]
  ·rw[Qa j];by_cases q:18446744073709551615<a*10+(c.toNat-48)
   ·rw[Qe q,Qa oM]
   ·rw[Qa q,MW l _ h.2 oM,Jj a 10]
def aG(s:Qo)(h:Xb (Qf s)=true):Lib.parseUintB 64 s.data.toList=if valOf (Qf s)<18446744073709551616 then .ok (valOf (Qf s))else .range:=by
 unfold Xb at h;simp only[X1,FA,List.isEmpty_eq_false_iff]at h;obtain⟨⟨⟨j,_⟩,_⟩,q⟩:=h;unfold Lib.parseUintB;rw[Qa (fun e=>j (by simp[Qf,e]))];exact MW s.data.toList 0 q dM
def ZM(s:Qo)(w:Qm)(hG:Ah N E w)(hs:s.size<=2199023255552):
  Calls prog 206 #[.string s] w fun e w'=>e=.returned (.tuple #[.int .u64 (Nt (Qf s)).1,.bool (Nt (Qf s)).2])/\Qd w w':=by
 obtain⟨r,y⟩:=X0 (Xb (Qf s))
 have u:=Qc y
 cases r with
 |false=>
  have v:Nt (Qf s)=(0,false):=by unfold Nt;rw[y];rfl
  have b:=Qc v;clear y v;go_in;go_wp2_with(first| (go_at_call 231;refine(Vk s _ oM).mono ?_;rintro e w' ⟨rfl,q⟩;rw[u.out]));go_ret2;exact⟨by rw[b.out];rfl,Xd⟩
 |true=>
  have z:=aG s y;by_cases n:valOf (Qf s)<18446744073709551616
  ·rw[Qe n]at z;have v:Nt (Qf s)=(valOf (Qf s),true):=by unfold Nt;rw[y];simp[n]
   have b:=Qc v;have d:=Qc z;clear y v z;go_in;go_wp2_with(first
    | (go_at_call 231;refine(Vk s _ oM).mono ?_;rintro e w' ⟨rfl,q⟩;rw[u.out])
    | (go_at_call 267;refine(strconv_ParseUint_10_at64_ok s oM _ d.out _).mono ?_;rintro e w' ⟨rfl,m⟩))
   go_ret2;refine⟨by rw[b.out];rfl,q.trans ?_⟩;rcases m with rfl|rfl
   ·exact Ac.refl _ _
   ·exact Ac.AB (nH _ _ _)
  ·rw[Qa n]at z;have v:Nt (Qf s)=(0,false):=by unfold Nt;rw[y];simp[n]
   replace v:=Qc v;replace z:=Qc z;clear y;obtain⟨c,p,j⟩:=hG.range;replace j:=Qc j;go_in;go_wp2_with(first
    | (go_at_call 231;refine(Vk s _ oM).mono ?_;rintro e w' ⟨rfl,q⟩;rw[u.out])
    | (go_at_call 267;refine(strconv_ParseUint_10_at64_range_var s oM z.out c p _ (MV q (N:=12) (fun _ _ _=>trivial) dM kM (show 10<12 by decide) j.out)).mono ?_;rintro e w' ⟨M,rfl,t,f,m⟩))
   go_ret2;exact⟨by rw[v.out];rfl,q.trans (Ac.AB m)⟩
def aH:∀n:Nat,Lib.repeatL [48] n=List.replicate n 48
 |0=>rfl
 |n+1=>by
  have:=aH n;simp only[Lib.repeatL,this,List.replicate_succ];rfl
def VZ(d:Dc):Qo:=d.digits++⟨Array.replicate d.exp.toNat (48:UInt8)⟩
def iI(d:Dc):Qf (VZ d)=Qf d.digits++List.replicate d.exp.toNat 48:=by
 unfold VZ Qf;rw[ByteArray.data_append];simp
def rH(d:Dc):(VZ d).size=d.digits.size+d.exp.toNat:=by
 unfold VZ;rw[Nw];congr 1;show(Array.replicate d.exp.toNat (48:UInt8)).size=_;simp
def DX(e:Int)(w:Qm)(h0:0<=e)(h1:e<=1000000):
  Calls prog 200 #[.string ⟨#[48]⟩,.int .i64 e] w fun x w'=>x=.returned (.string ⟨(List.replicate e.toNat (48:UInt8)).toArray⟩)/\Qd w w':=by
 obtain⟨n,rfl⟩:=Int.eq_ofNat_of_zero_le h0
 refine(strings_Repeat ⟨#[48]⟩ n w oM (by show 1*n<=_;omega)).mono ?_
 rintro x w' ⟨rfl,j⟩
 exact⟨by rw[<-aH];rfl,Ac.AB j⟩
def YA{P Q:Prop}(h:Q)(f:Wz Q->P:=by
 intro zz;go_at_call 147;refine(Yn d _ hs).mono ?_;rintro e w' ⟨rfl,hk1⟩;rw[HR.out];have hb:=hk1.same w.heap.size _ (show _=some (.cells #[.bool d.neg,.string d.digits,i6 d.exp] 23 (0,0)) from BR) trivial;have b0:=Q1 hb;revert w' hk1 hb b0;exact zz.o):P:=f ⟨h⟩
def EB(d:Dc)(w:Qm)(hG:Ah N E w)(hs:d.digits.size<=1099511627776):
  Calls prog 183 #[FY d] w fun e w'=>e=.returned (.tuple #[.bool (Z9 d).1,.int .u64 (Z9 d).2.1,.bool (Z9 d).2.2])/\Qd w w':=by
 obtain⟨r,n⟩:=X0 (Q2 d)
 have HR:=Qc n
 by_cases j:r=true/\0<=d.exp/\d.exp<=20
 ·obtain⟨p,h2,h3⟩:=j;subst p;have f:decide (d.exp<0)=false:=by simp;omega
  have k:decide (20<d.exp)=false:=by simp;omega
  have y:Z9 d=((Nt (Qf (VZ d))).2&&d.neg,Nt (Qf (VZ d))):=by unfold Z9;rw[n,f,k,iI];rfl
  obtain⟨v,b⟩:=X0 (Nt (Qf (VZ d)));have m:=rH d;have q:d.digits++⟨Array.replicate d.exp.toNat (48:UInt8)⟩=VZ d:=rfl;rw[b]at y;have x:=Qc y;replace b:=Qc b;replace q:=Qc q;replace m:=Qc m;clear n y;go_in;go_wp2_with(first
   | (refine YA ?_;intro w' hk1 hb b0))
  go_region_with (first
   | (go_at_call 200;refine(DX d.exp _ h2 oM).mono ?_;rintro e w2 ⟨rfl,u⟩;have hb:=u.same w.heap.size _ (show _=some (.cells #[.bool d.neg,.string d.digits,i6 d.exp] 23 (0,0)) from hb) trivial;have b0:=Q1 hb)
   | (go_at_call 206;rw[q.out];refine(ZM (VZ d) _ ((hG.same ((Ac.refl _ _).alloc _)).same (hk1.drew.trans u)) (by have:=m.out;omega)).mono ?_;rintro e w3 ⟨rfl,c⟩;rw[b.out];have t:=c.same w.heap.size _ (show _=some (.cells #[.bool d.neg,.string d.digits,i6 d.exp] 23 (0,0)) from hb) trivial;have e0:=Q1 t))
  all_goals go_wp2
  all_goals go_ret3
  all_goals exact⟨by rw[x.out];simp[*],Xd⟩
 ·have y:Z9 d=(false,0,false):=by
   unfold Z9;rw[n,Qe];cases r<;>simp at j|-;omega
  replace y:=Qc y;clear n;cases r with
  |false=>
   go_in;go_wp2_with(first
    | (refine YA ?_;intro w' hk1 hb b0))
   go_ret3;exact⟨by rw[y.out];rfl,Xd⟩
  |true=>
   by_cases z:d.exp<0
   ·have f:decide (d.exp<0)=true:=by simpa using z
    go_in;go_wp2_with(first
     | (refine YA ?_;intro w' hk1 hb b0))
    go_ret3;exact⟨by rw[y.out];rfl,Xd⟩
   ·have f:decide (d.exp<0)=false:=by simpa using z
    have k:decide (20<d.exp)=true:=by simp;simp at j;omega
    go_in;go_wp2_with(first
     | (refine YA ?_;intro w' hk1 hb b0))
    go_ret3;exact⟨by rw[y.out];rfl,Xd⟩
def Na(id:Int)(b c:Nat)(zs:List Int)(arr:Array Q0)(t:TypeId)(f:Nat × Nat)(w:Qm)(n:Nat)(hn:n=zs.length)(hz:zs.length<=100)(hb:w.heap[b]? =some (.cells arr t f))(ha:arr.toList=zs.map (Value.int .i64)):
  Calls prog 182 #[.agg #[.int .i64 id],.slice (some ⟨b,0,none⟩) n c] w fun e w'=>e=.returned (.bool (zs.contains id))/\Qd w w':=by
 subst hn
 have y:∀j,j<zs.length->w.cell? (ad b (0+j))=some (i6 (zs.getD j 0)):=fun j q=>by
  unfold World.cell?;rw[hb];show arr[0+j]? =_;rw[Z3,<-wD,ha,CV,Km q];simp[K9,Km q]
 go_in
 go_wp2_with(first| (go_at_call 250;refine(slices_Contains_int b 0 zs.length c zs id _ (Q6 _) oM (fun j q=>X9 (y j q) _)).mono ?_;rintro e w' ⟨rfl,v⟩;replace v:=v.symm;subst v))
 go_ret
 exact⟨sM,Xd⟩
def Md{P:Prop}(h:P:=by
 go_ret;exact⟨rfl,Xd⟩):P:=h
def iJ(id:Int)(h:Hd)(l:Qp)(S:Qz)(lv:Q0)(w:Qm)(hl:Ad S w l lv):
  Calls prog 168 #[.agg #[.int .i64 id],Qu h lv] w fun e w'=>e=.returned (.bool (Zr (.node h l) (Qh 0)))/\Qd w w':=by
 obtain⟨a,j,rfl⟩:=hl.Ab
 go_in
 go_wp2_with(first| (go_at_call 248;refine(N7 h (Qh 0) l S _ _ (hl.same Xd)).mono ?_;rintro e w' ⟨rfl,q⟩))
 exact Md
def iK(id:Int)(h:Hd)(l:Qp)(S:Qz)(lv:Q0)(w:Qm)(hl:Ad S w l lv):
  Calls prog 169 #[.agg #[.int .i64 id],Qu h lv] w fun e w'=>e=.returned (.bool (Zr (.node h l) {Qh 0 with b:=h.b}))/\Qd w w':=by
 obtain⟨a,j,rfl⟩:=hl.Ab
 go_in
 go_wp2_with(first| (go_at_call 248;refine(N7 h {Qh 0 with b:=h.b} l S _ _ (hl.same Xd)).mono ?_;rintro e w' ⟨rfl,q⟩))
 exact Md
def Ss(id:Int)(h:Hd)(l:Qp)(S:Qz)(lv:Q0)(w:Qm)(hl:Ad S w l lv):
  Calls prog 174 #[.agg #[.int .i64 id],Qu h lv] w fun e w'=>e=.returned (.bool (Zr (.node h []) (Qh 0)))/\Qd w w':=by
 obtain⟨a,j,rfl⟩:=hl.Ab
 go_in
 go_wp2_with(first| (go_at_call 248;refine(N7 h (Qh 0) [] S _ _ (Ad.nil _ _)).mono ?_;rintro e w' ⟨rfl,q⟩))
 exact Md
def DY(n m:Nat):decide ((n:Int)<=(m:Int))=decide (n<=m):=VL.2 oM
def iL(n m:Nat):decide ((n:Int)< (m:Int))=decide (n<m):=VL.2 oM
def Tn(n m:Nat):((n:Int)==(m:Int))=decide (n=m):=by rw[Sr];simp;omega
def Fh(s:Qo)(w:Qm)(hG:Ah N E w)(hs:s.size<=1099511627776):
  Calls prog 158 #[.string s] w fun e w'=>e=.returned (.bool (Gm s))/\Qd w w':=by
 have q:=hG.utf
 go_in
 go_wp2_with(first| (go_at_call 239;refine(utf8_ValidString s _ oM q).mono ?_;rintro e w' ⟨rfl,j⟩))
 go_ret
 exact⟨rfl,Ac.AB j⟩
def rI(id:Int)(h:Hd)(l:Qp)(S:Qz)(lv:Q0)(w:Qm)(hG:Ah N E w)(ho:h.ok)(hl:Ad S w l lv):
  Calls prog 170 #[.agg #[.int .i64 id],Qu h lv] w fun e w'=>e=.returned (.bool (Zr (.node h l) {Qh 0 with d:=h.d}&&Q2 h.d))/\Qd w w':=by
 obtain⟨a,q,rfl⟩:=hl.Ab
 have y:=hl.shape.1
 obtain⟨c,u,b,t,x,f⟩:=ho
 obtain⟨r0,m⟩:∃r,Zr (.node h l) {Qh 0 with d:=h.d}=r:=⟨_,rfl⟩
 have z:=Qc m
 obtain⟨p,j⟩:∃r,Q2 h.d=r:=⟨_,rfl⟩
 replace j:=Qc j
 clear m
 go_in
 go_wp2_with(first
  | (go_at_call 248;refine(N7 h {Qh 0 with d:=h.d} l S _ _ (hl.same Xd)).mono ?_;rintro e w1 ⟨rfl,v⟩;rw[z.out];have n:=v.same (w.heap.size+1) _ (show _=some (.cells (nR h (.slice a l.length q)) 27 (0,0)) from BR) trivial;have n0:=Qi n)
  | (go_at_call 147;refine(Yn h.d _ oM).mono ?_;rintro e w2 ⟨rfl,k⟩;rw[j.out]))
 all_goals go_ret
 all_goals exact⟨by rw[z.out,j.out];simp[*],Xd⟩
def xH{P Q:Prop}(h:Q)(f:Wz Q->P:=by
 intro zz;go_at_call 248;refine(N7 h {Qh 0 with s:=h.s} l S _ _ (hl.same Xd)).mono ?_;rintro e w1 ⟨rfl,hk1⟩;rw[H0.out];have hb:=hk1.same (w.heap.size+1) _ (show _=some (.cells (nR h (.slice a l.length cap)) 27 (0,0)) from BR) trivial;have n0:=Qi hb;revert w1 hk1 hb n0;exact zz.o):P:=f ⟨h⟩
def iM(id:Int)(h:Hd)(l:Qp)(S:Qz)(lv:Q0)(w:Qm)(hG:Ah N E w)(ho:h.ok)(hl:Ad S w l lv):
  Calls prog 172 #[.agg #[.int .i64 id],Qu h lv] w fun e w'=>e=.returned (.bool (Zr (.node h l) {Qh 0 with s:=h.s}&&decide (h.s.size<=400)&&Gm h.s))/\Qd w w':=by
 obtain⟨a,cap,rfl⟩:=hl.Ab
 have q:=hl.shape.1
 obtain⟨b,m,u,f,k,d⟩:=ho
 obtain⟨r0,y⟩:∃r,Zr (.node h l) {Qh 0 with s:=h.s}=r:=⟨_,rfl⟩
 have H0:=Qc y
 obtain⟨x,z⟩:∃r,Gm h.s=r:=⟨_,rfl⟩
 have v:=Qc z
 obtain⟨n,j⟩:∃r,decide (h.s.size<=400)=r:=⟨_,rfl⟩
 have c:decide ((h.s.size:Int)<=400)=n:=by rw[<-j];exact DY _ _
 replace j:=Qc j
 clear z
 clear y
 go_in
 go_wp2_with(first
  | (refine xH ?_;intro w1 hk1 hb n0)
  | (go_at_call 158;refine(Fh h.s _ (hG.same Xd) oM).mono ?_;rintro e p ⟨rfl,t⟩;rw[v.out]))
 all_goals go_ret
 all_goals exact⟨by rw[H0.out,j.out,v.out];simp[*],Xd⟩
def aI(id:Int)(h:Hd)(l:Qp)(S:Qz)(lv:Q0)(w:Qm)(hG:Ah N E w)(ho:h.ok)(hl:Ad S w l lv):
  Calls prog 173 #[.agg #[.int .i64 id],Qu h lv] w fun e w'=>e=.returned (.bool (Zr (.node h l) {Qh 0 with s:=h.s}&&decide (h.s.size<=400)))/\Qd w w':=by
 obtain⟨a,cap,rfl⟩:=hl.Ab
 have q:=hl.shape.1
 obtain⟨n,y,m,c,d,b⟩:=ho
 obtain⟨f,v⟩:∃r,Zr (.node h l) {Qh 0 with s:=h.s}=r:=⟨_,rfl⟩
 have H0:=Qc v
 obtain⟨z,j⟩:∃r,decide (h.s.size<=400)=r:=⟨_,rfl⟩
 have u:decide ((h.s.size:Int)<=400)=z:=by rw[<-j];exact DY _ _
 replace j:=Qc j
 clear v
 go_in
 go_wp2_with(first
  | (refine xH ?_;intro w1 hk1 hb n0))
 all_goals go_ret
 all_goals exact⟨by rw[H0.out,j.out];simp[*],Xd⟩
def rJ(id:Int)(h:Hd)(l:Qp)(S:Qz)(lv:Q0)(w:Qm)(hG:Ah N E w)(ho:h.ok)(hl:Ad S w l lv):
  Calls prog 178 #[.agg #[.int .i64 id],Qu h lv] w fun e w'=>e=.returned (.bool (Zr (.node h l) {Qh 0 with u:=h.u,s:=h.s}&&decide (h.u<=255)&&decide (h.s.size<=400)))/\Qd w w':=by
 obtain⟨a,q,rfl⟩:=hl.Ab
 have z:=hl.shape.1
 obtain⟨k,d,t,a1,a2,a0⟩:=ho
 obtain⟨r0,n⟩:∃r,Zr (.node h l) {Qh 0 with u:=h.u,s:=h.s}=r:=⟨_,rfl⟩
 have m:=Qc n
 obtain⟨b,y⟩:∃r,decide (h.u<=255)=r:=⟨_,rfl⟩
 have p:decide ((h.u:Int)<=255)=b:=by rw[<-y];exact DY _ _
 have H1:=Qc y
 obtain⟨f,j⟩:∃r,decide (h.s.size<=400)=r:=⟨_,rfl⟩
 have x:decide ((h.s.size:Int)<=400)=f:=by rw[<-j];exact DY _ _
 replace j:=Qc j
 clear y
 clear n
 go_in
 go_wp2_with(first
  | (go_at_call 248;refine(N7 h {Qh 0 with u:=h.u,s:=h.s} l S _ _ (hl.same Xd)).mono ?_;rintro e w1 ⟨rfl,v⟩;rw[m.out];have c:=v.same (w.heap.size+1) _ (show _=some (.cells (nR h (.slice a l.length q)) 27 (0,0)) from BR) trivial;have n0:=Qi c))
 all_goals go_ret
 all_goals exact⟨by rw[m.out,H1.out,j.out];simp[*],Xd⟩
def YB(id:Int)(h:Hd)(l:Qp)(S:Qz)(lv:Q0)(w:Qm)(hG:Ah N E w)(ho:h.ok)(hl:Ad S w l lv):
  Calls prog 177 #[.agg #[.int .i64 id],Qu h lv] w fun e w'=>e=.returned (.bool (Zr (.node h l) {Qh 0 with u:=h.u}&&decide (h.u<=255)&&(decide (h.u<20)||decide (h.u=23)||decide (31<h.u))))/\Qd w w':=by
 obtain⟨a,q,rfl⟩:=hl.Ab
 have n:=hl.shape.1
 obtain⟨a1,k,a0,a6,a7,a4⟩:=ho
 obtain⟨r0,c⟩:∃r,Zr (.node h l) {Qh 0 with u:=h.u}=r:=⟨_,rfl⟩
 have b:=Qc c
 obtain⟨d,z⟩:∃r,decide (h.u<=255)=r:=⟨_,rfl⟩
 have a3:decide ((h.u:Int)<=255)=d:=by rw[<-z];exact DY _ _
 have H1:=Qc z
 obtain⟨x,m⟩:∃r,decide (h.u<20)=r:=⟨_,rfl⟩
 have a2:decide ((h.u:Int)<20)=x:=by rw[<-m];exact iL _ _
 have f:=Qc m
 obtain⟨r3,v⟩:∃r,decide (h.u=23)=r:=⟨_,rfl⟩
 have a5:((h.u:Int)==23)=r3:=by rw[<-v];exact Tn _ _
 have H3:=Qc v
 obtain⟨r4,j⟩:∃r,decide (31<h.u)=r:=⟨_,rfl⟩
 have p:decide ((31:Int)< (h.u:Int))=r4:=by rw[<-j];exact iL _ _
 replace j:=Qc j
 clear z m v
 clear c
 go_in
 go_wp2_with(first
  | (go_at_call 248;refine(N7 h {Qh 0 with u:=h.u} l S _ _ (hl.same Xd)).mono ?_;rintro e w1 ⟨rfl,y⟩;rw[b.out];have t:=y.same (w.heap.size+1) _ (show _=some (.cells (nR h (.slice a l.length q)) 27 (0,0)) from BR) trivial;have n0:=Qi t))
 all_goals go_ret
 all_goals exact⟨by rw[b.out,H1.out,f.out,H3.out,j.out];simp[*],Xd⟩
def To(a b:Int):(a==b)=decide (a=b):=by rw[Sr];simp
def rK{N:Nat}{E:Am}(id:Int)(h:Hd)(l:Qp)(S:Qz)(lv:Q0)(w:Qm)(hl:Ad S w l lv):
  Calls prog 176 #[.agg #[.int .i64 id],Qu h lv] w fun e w'=>e=.returned (.bool (Zr (.node h []) {Qh 0 with u:=h.u}&&decide (l.length=1)))/\Qd w w':=by
 obtain⟨a,q,rfl⟩:=hl.Ab
 obtain⟨f,y⟩:∃r,Zr (.node h []) {Qh 0 with u:=h.u}=r:=⟨_,rfl⟩
 have z:=Qc y
 obtain⟨m,j⟩:∃r,decide (l.length=1)=r:=⟨_,rfl⟩
 have n:((l.length:Int)==1)=m:=by rw[<-j];exact Tn _ _
 replace j:=Qc j
 clear y
 go_in
 go_wp2_with(first
  | (go_at_call 248;refine(N7 h {Qh 0 with u:=h.u} [] S _ _ (Ad.nil _ _)).mono ?_;rintro e d ⟨rfl,v⟩;rw[z.out];have b:=v.same (w.heap.size+1) _ (show _=some (.cells (nR h (.slice a l.length q)) 27 (0,0)) from BR) trivial;have c:=Qi b))
 all_goals go_ret
 all_goals exact⟨by rw[z.out,j.out];simp[*],Xd⟩
def rL{N:Nat}{E:Am}(id:Int)(h:Hd)(l:Qp)(lv:Q0)(w:Qm)(hl:Ad K3 w l lv):
  Calls prog 175 #[.agg #[.int .i64 id],Qu h lv] w fun e w'=>e=.returned (.bool (Zr (.node h []) (Qh 0)&&decide (l.length % 2=0)&& !J8 (Zb l)))/\Qd w w':=by
 obtain⟨a,v,rfl⟩:=hl.Ab
 have m:=hl.shape.1
 obtain⟨r0,u⟩:∃r,Zr (.node h []) (Qh 0)=r:=⟨_,rfl⟩
 have n:=Qc u
 obtain⟨b,z⟩:∃r,decide (l.length % 2=0)=r:=⟨_,rfl⟩
 have f:((l.length:Int) % 2==0)=b:=by rw[<-z];exact Tn (l.length % 2) 0
 have t:=Qc z
 obtain⟨r2,q⟩:∃r,J8 (Zb l)=r:=⟨_,rfl⟩
 replace q:=Qc q
 clear u z
 all_goals go_in
 all_goals go_wp2_with(first
  | (go_at_call 174;refine(Ss id h l K3 _ _ (hl.same Xd)).mono ?_;rintro e w1 ⟨rfl,y⟩;rw[n.out];have d:=y.same (w.heap.size+1) _ (show _=some (.cells (nR h (.slice a l.length v)) 27 (0,0)) from BR) trivial;have n0:=Qi d)
  | (go_at_call 184;refine(NN l K3 _ _ (fun _ _=>trivial) (hl.same Xd)).mono ?_;rintro e w2 ⟨kv,rfl,j,k⟩;obtain⟨ka,p,rfl⟩:=j.Ab)
  | (go_at_call 249;refine(NP (Zb l) K3 _ _ j).mono ?_;rintro e x ⟨rfl,c⟩;rw[q.out]))
 all_goals go_ret
 all_goals exact⟨by rw[n.out,t.out,q.out];simp[*],Xd⟩
def rM(id:Int)(h:Hd)(l:Qp)(S:Qz)(lv:Q0)(w:Qm)(hG:Ah N E w)(ho:h.ok)(hl:Ad S w l lv):
  Calls prog 180 #[.agg #[.int .i64 id],Qu h lv] w fun e w'=>e=.returned (.bool (Jv id (.node h l)))/\Qd w w':=by
 obtain⟨a,q,rfl⟩:=hl.Ab
 obtain⟨a0,a3,p,a2,a4,a1⟩:=ho
 obtain⟨f,c,n,y⟩:∃f c n,Z9 h.d=(f,c,n):=⟨_,_,_,rfl⟩
 replace y:=Qc y
 obtain⟨k5,h5⟩:∃r,(h.kind==5)=r:=⟨_,rfl⟩
 obtain⟨k3,h3⟩:∃r,(h.kind==3)=r:=⟨_,rfl⟩
 obtain⟨k6,t⟩:∃r,(h.kind==6)=r:=⟨_,rfl⟩
 obtain⟨k,h2⟩:∃r,(h.kind==2)=r:=⟨_,rfl⟩
 obtain⟨x,h1⟩:∃r,(h.kind==1)=r:=⟨_,rfl⟩
 obtain⟨kj,z⟩:∃r,([1]:List Int).contains id=r:=⟨_,rfl⟩
 have j:Jv id (.node h l)=if k5 then true else if kj then false else if k3 then n else k6||k||x:=by
  rw[<-h5,<-h3,<-t,<-h2,<-h1,<-z];unfold Jv;simp only[Aa.Ae,y.out];simp[To]<;>rfl
 replace j:=Qc j
 replace z:=Qc z
 go_in
 go_wp2_with(first
  | (go_at_call 183;refine(EB h.d _ (hG.same Xd) oM).mono ?_;rintro e w1 ⟨rfl,v⟩;rw[y.out];have b:=v.same (w.heap.size+1) _ (show _=some (.cells (nR h (.slice a l.length q)) 27 (0,0)) from BR) trivial;have n0:=Qi b;have hi:=v.same w.heap.size _ (show _=some (.cells #[i6 id] 81 (0,0)) from BR) trivial;have i0:=Q4 hi)
  | (go_at_call 182;refine(Na id _ _ [1] _ _ _ _ _ rfl dM BR (by rfl)).mono ?_;rintro e w2 ⟨rfl,u⟩;rw[z.out];have m:=u.same (w.heap.size+1) _ (show _=some (.cells (nR h (.slice a l.length q)) 27 (0,0)) from(Qb b)) trivial;have m0:=Qi m))
 all_goals go_ret
 all_goals exact⟨by rw[j.out];simp[*],Xd⟩
def YC(F:Qp)(i:Nat)(v:Array Q0)(A:Qm):Prop:=∃(hi:i<F.length) (lv:Q0),v=#[Qu (F[i]).hd lv]/\Ad K3 A (F[i]).l lv/\(F[i]).hd.ok
def Qgm(l:Nat)(J Jx:Nat->Qm->Prop)(Sb:Nat->Obj->Prop)(F:Qp):Prop:=
 ∀i v A,i<F.length->J i A->YC F i v A->YieldAt Fence.wide 0 prog l v A fun e B=>
  Ac (fun b o=>b≠l/\Sb b o) A B/\((e=.returned (.bool true)/\J (i+1) B)∨(e=.returned (.bool false)/\Jx i B))
def rN{Sb:Nat->Obj->Prop}{l:Nat}{A B:Qm}(hk:Ac (fun b o=>b≠l/\Sb b o) A B)(hl:∃r,A.heap[l]? =some (.loop r))(hSb:∀b c f,Sb b (.cells c 27 f)):Ac (fun b o=>∃c f,o=.cells c 27 f) A B:=by
 refine hk.mono fun b o j=>?_
 rintro⟨c,f,rfl⟩;refine⟨?_,hSb _ _ _⟩;rintro rfl;obtain⟨r,q⟩:=hl;rw[q]at j;cases j
def Uh:∀(ls:Qp) (k:Nat) (h:k<ls.length),(Re ls++[]).drop (Q7 (ls.take k))=(ls[k]).flat++Re (ls.drop (k+1))
 |x::ls,0,_=>by simp[Re,Q7]
 |x::ls,k+1,h=>by
  have:=Uh ls k (by simpa using h);simp only[Nc,Q7,Re,L0,Sn,Hy]at this|-;rw[<-DU x,<-List.drop_drop,List.drop_left,this]
def ZN:∀(ls:Qp) (k:Nat),Q7 (ls.take k)<=Q7 ls
 | [],k=>by simp[Q7]
 |x::ls,0=>by simp[Q7]
 |x::ls,k+1=>by have:=ZN ls k;simp only[Nc,Q7];omega
def Io:∀(ls:Qp) (k:Nat) (h:k<ls.length),Q7 (ls.take (k+1))=Q7 (ls.take k)+(ls[k]).count
 |x::ls,0,_=>by simp[Q7]
 |x::ls,k+1,h=>by simp only[Nc,Q7,L0];rw[Io ls k (by simpa using h)];omega
def rO(l:Nat)(J Jx:Nat->Qm->Prop)(Sb:Nat->Obj->Prop)(F:Qp)(hY:Qgm l J Jx Sb F)(hSb:∀b c f,Sb b (.cells c 27 f))(hJ:∀i A B,J i A->Qd A B->J i B)(hJx:∀i A B,Jx i A->Qd A B->Jx i B)
  (hl:∀i A,J i A->∃r,A.heap[l]? =some (.loop r)):
  ∀(t:Aa) (k0:Nat) (post:Qp) (lv:Q0) (W:Qm),F.drop k0=t.flat++post->J k0 W->Ad K3 W t.l lv->t.hd.ok->
   CallsIn Fence.wide 0 prog 112 #[Qu t.hd lv,.func (.yield l) #[] #[]] W fun e B=>(e=.returned (.bool true)/\J (k0+t.count) B/\Ac (fun b o=>∃c f,o=.cells c 27 f) W B)∨(e=.returned (.bool false)/\∃i,i<F.length/\Jx i B):=by
 refine Aa.ind fun h j ih=>?_
 intro k0 post lv W d hj v a3
 simp only[Aa.Ae,Aa.Ag]at v a3|-
 obtain⟨ae,a,z,rfl,b0,hi⟩:=v.shape
 have q:k0<F.length:=by
  rcases Ce k0 F.length with h1|h1
  ·exact h1
  ·rw[nB h1]at d;simp[Aa.flat]at d
 have p:F[k0]=.node h j:=by
  rw[Dq q]at d;simp only[Aa.flat,Y0,DW]at d;exact d.1
 have ac:F.drop (k0+1)=Re j++post:=by
  rw[Dq q]at d;simp only[Aa.flat,Y0,DW]at d;exact d.2
 refine Nf func112 rfl trivial ?_ rfl
 simp only[ntmps112]
 refine Ie ?_
 have a1:=Qt W (.cells (nR h (.slice a j.length z)) 27)
 have m:=LW W (.cells (nR h (.slice a j.length z)) 27)
 obtain⟨fn,ag,a5,af,hy,hR⟩:=hY k0 #[.agg (nR h (.slice a j.length z))] (W.alloc (.cells (nR h (.slice a j.length z)) 27)) q (hJ _ _ _ hj m) ⟨q,_,by rw[p];rfl,by rw[p];exact v.same m,by rw[p];exact a3⟩
 have ad:=hl _ _ (hJ _ _ _ hj m)
 gi_wp2
 refine hR.mono ?_
 rintro e W3 ⟨aa,(⟨rfl,x⟩| ⟨rfl,x⟩)⟩
 ·have a2:=rN aa ad hSb;have a7:=a2.same _ _ a1 ⟨_,_,rfl⟩;have n0:=Qi a7;have a6:Ac (fun b o=>∃c f,o=.cells c 27 f) W W3:=(Ac.of_same m).trans a2;clear hy hR;gi_wp2;gi_loopw [14] (fun i wr=>∃k:Nat,k<=j.length/\i=i6 k/\J (k0+1+Q7 (j.take k)) wr/\Ac (fun b o=>∃c f,o=.cells c 27 f) W wr) (fun i _=>j.length-(RowKit.intOf i).toNat)
  case atStart=>exact⟨0,Xi _,rfl,by simpa[Q7] using x,a6⟩
  case round=>
   obtain⟨k,hk,rfl,a0,n⟩:=hrel;by_cases y:k<j.length
   ·obtain⟨b,b1,b3,rfl,hS,hb,hr,a4,a8⟩:=hi k y;obtain⟨a',ah,rfl⟩:=hr.Ab;obtain⟨b2,fz,ab⟩:=hb;have c0:=Rv (Zd n (fun o ho=>by rw[ab]at ho;cases ho;exact⟨_,_,rfl⟩) a8);have a9:F.drop (k0+1+Q7 (j.take k))=(j[k]).flat++(Re (j.drop (k+1))++post):=by
     have hd:=Uh j k y;rw[Hy]at hd;rw[<-List.drop_drop,ac,<-Y1,<-hd,List.drop_append_of_le_length];rw[EY];exact ZN j k
    have u:k0+1+Q7 (j.take (k+1))=k0+1+Q7 (j.take k)+(j[k]).count:=by rw[Io j k y];omega
    gi_wp2_with(gi_at_call 112;fail);refine(ih _ (Zp y) (k0+1+Q7 (j.take k)) _ _ _ a9 (hJ _ _ _ a0 ((Ac.refl _ _).alloc _)) ((hr.Af n fun _ _ c f=>⟨c,f,rfl⟩).same ((Ac.refl _ _).alloc _)) a4).mono ?_;rintro e W4 (⟨rfl,hj4,hk4⟩| ⟨rfl,i,hi4,hx4⟩)
    ·gi_wp2;go_roundw
     case rel=>exact⟨k+1,oM,by go_num,by rw[u];exact hj4,n.trans ((Ac.of_same ((Ac.refl _ _).alloc _)).trans hk4)⟩
     case measure=>simp[RowKit.intOf];omega
    ·gi_wp2;go_ret;exact .inr ⟨rfl,i,hi4,hx4⟩
   ·obtain rfl:k=j.length:=oM;rw[Vc]at a0;gi_wp2;go_ret;exact .inl ⟨rfl,by rw[show k0+(Aa.node h j).count=k0+1+Q7 j by simp only[Aa.count];omega];exact a0,n⟩
 ·clear hy hR;gi_wp2;go_ret;exact .inr ⟨rfl,k0,q,x⟩
def Pp(h:Hd)(a:Jr)(n cap:Nat)(w:Qm):
  Calls prog 63 #[Qu h (.slice a n cap)] w fun e w'=>e=.returned (.func (.func 111) #[] #[.pointer (some ⟨w.heap.size,0,none⟩)])/\w'=w.alloc (.cells (Qn h (.slice a n cap)).toArray 27):=by
 go_in
 exact Nv
def Su(t:Aa)(bx:Nat)(lv:Q0)(Sb Si:Nat->Obj->Prop)(W:Qm)(hbx:A0 W bx t.hd lv)(hr:Ad K3 W t.l lv)(hok:t.hd.ok)(hSb:∀b c f,Sb b (.cells c 27 f)):
  Hk prog 111 #[.pointer (some ⟨bx,0,none⟩)] t.flat.length (YC t.flat) Sb Si (fun _=>True) (fun _ _=>True) W:=by
 rintro l J m q u j d h0
 have y:=rO l J m Sb t.flat d hSb (fun i A B h v=>u i A B h (Ac.of_same v)) (fun i A B h v=>j i A B h (Ac.of_same v)) q t 0 [] lv W sM h0 hr hok
 obtain⟨a,z,rfl⟩:=hr.Ab
 obtain⟨c0,c1,c2,k,n,x,p,c7,r⟩:=Z0 hbx.range
 simp only[Z3]at c1 c2 k n x p c7 r y
 refine Nf func111 rfl trivial ?_ rfl
 simp only[ntmps111]
 refine Ie ?_
 gi_wp2_with(gi_at_call 112;fail)
 refine y.mono ?_
 rintro e W4 (⟨rfl,hj4,hk4⟩| ⟨rfl,i,hi4,hx4⟩)
 ·gi_wp2;go_end0;exact⟨⟨_,rfl⟩,.inl ⟨by rw[DU];exact hj4,trivial⟩⟩
 ·gi_wp2;go_end0;exact⟨⟨_,rfl⟩,.inr ⟨i,hi4,hx4,trivial⟩⟩
def CH{o:Option Obj}(h:w.heap[b]? =o:=by repeat(first|assumption|exact Ql (by simp)|refine Qb ?_ |refine J9 ?_)):w.heap[b]? =o:=h
def Ho(h:Qd w W)(hk:Ac K W W')(hK:∀b o,w.heap[b]? =some o->K b o):Qd w W':=⟨hk.os.trans h.os,hk.tape.trans h.tape,hk.output.trans h.output,Qj h.size hk.size,fun b o j _=>hk.same b o (h.same b o j trivial) (hK b o j)⟩
def xI{P:Prop}(h:P:=by
 rintro i v A B ⟨hi,lv,rfl,hrr,hok⟩ hk;exact⟨hi,lv,rfl,hrr.Af hk fun _ _ _ _=>.inr rfl,hok⟩):P:=h
def Pq(t:Aa)(lv:Q0)(w:Qm)(hr:Ad K3 w t.l lv)(hok:t.hd.ok):
  Calls prog 29 #[Qu t.hd lv] w fun e w'=>e=.returned (.int .i64 (Yk t))/\Qd w w':=by
 obtain⟨a,y,rfl⟩:=hr.Ab
 unfold Yk
 generalize u:wrap64 (t.count:Int)=q
 have HQ:=Qc u
 clear u
 refine(J5 (n:=0)).1 (Vy func29 rfl trivial ?_ rfl)
 simp only[ntmps29]
 refine Ie ?_
 gi_wp2_with(first
  | (gi_at_call 63;refine(Qr (Pp t.hd a t.l.length y _)).mono ?_;rintro e w' ⟨rfl,rfl⟩))
 generalize j:World.alloc _ (.cells (Qn t.hd (.slice a t.l.length y)).toArray 27)=W1
 have hz:W1.heap.size=w.heap.size+3:=by rw[<-j];simp
 have k:Qd w W1:=by rw[<-j];exact((((Ac.refl _ w).alloc _).alloc _).alloc _)
 have b1:Boxed W1 (w.heap.size+1) 3 (i6 (wrap64 ((0:Nat):Int))):=by rw[F9 ((0:Nat):Int) oM,<-j];exact CH
 have b2:A0 W1 (w.heap.size+1+1) t.hd (.slice a t.l.length y):=by unfold A0;rw[<-j];exact CH
 clear j
 have a5:=hr.same k
 refine Rx (gf:=111) (lb:=#[pt (w.heap.size+1+1)])
  rfl (X3 func111 kM rfl) t.flat.length (YC t.flat) (fun b o=>b≠w.heap.size+1∨∀c f,o≠ .cells c 3 f) (fun _ _=>True)
  (fun _=>True) (fun _ _=>True) ?hit ?hSb ?hSi (fun i A=>Boxed A (w.heap.size+1) 3 (i6 (wrap64 (i:Int)))) (fun _ _ _=>False) ?hI (fun _ _ _ _ h _=>h) ?hE (fun _ _ _ _=>trivial) (fun _ _ _ _ _=>trivial) ?hEs b1 ?hround ?hdone (fun _ _ _ _ _ _ h=>h.elim)
 case hit=>
  intro W2 p a6;exact Su t _ _ _ _ W2 (b2.same p) (a5.same p) hok fun b c f=>.inr sM
 case hSb=>exact fun b o hb r=>.inr fun c f e=>by subst e;cases r
 case hSi=>exact fun _ _ _ _ _=>trivial
 case hI=>exact fun i A B h hk=>hk.boxed h ⟨.inr rfl,trivial⟩
 case hE=>
  exact xI
 case hEs=>
  rintro i v A ⟨hi,lv,rfl,_⟩;rfl
 case hround=>
  intro i v hv;obtain⟨x,rfl⟩:=E7 rfl hv;apply Exists.intro;apply And.intro
  ·exact LX
  ·rintro l2 A a7 _ hi z _;have a2:wrap64 (wrap64 (i:Int)+1)=wrap64 ((i+1:Nat):Int):=NL i;obtain⟨q,u⟩:=X0 (wrap64 (i:Int));obtain⟨q2,m⟩:∃q,wrap64 ((i+1:Nat):Int)=q:=⟨_,rfl⟩;rw[u,m]at a2;rw[u]at z;have a1:=Qc m;have c0:=z.cell;clear u m;have f0:=z.frozen;gi_wp2;refine⟨(Ac.refl _ A).setCell _ fun o r d _=>?_,by show Boxed _ _ _ (i6 (wrap64 ((i+1:Nat):Int)));rw[a1.out];exact z.set (i6 q2)⟩;have a4:A.heap[w.heap.size+1]? =some (.cells #[i6 q] 3 (0,0)):=z;rw[show((ad (w.heap.size+1) 0):Addr).block=w.heap.size+1 from rfl,a4]at r;cases r;rcases d with d|d
   ·exact d rfl
   ·exact d _ _ rfl
 case hdone=>
  rintro D A hD z _ hk hDB;have c0:=z.cell;have a0:Qd w A:=Ho k hk fun b o hb=>⟨.inl (Ku hb),trivial⟩
  have a3:=DU t;rw[a3]at c0;rw[HQ.out]at c0;gi_wp2;refine Sm ?_;exact⟨_,Gn rfl _ _ _,rfl,a0.putObj _ fun o _ _ h=>oM⟩
end Go.Tm
namespace Go.Tm
open Go.Extern Go.Extern.Stop Go.Proofs Go.RowKit Go.Stop Go.Proofs.Tryz
def xJ(v:Q0)(w:Qm):(Extern.ReflectliteType.typeOf #[.iface G6 v]).run prog w=.ok (.iface 179 (.agg #[.pointer (some ⟨12,G6,none⟩)])) w:=by kernel_rfl
def YD(w:Qm):((Extern.ReflectliteType.method fun t=>do Extern.Rtype.noPackHeld "Comparable" t;(fun a=>Value.bool a.comparable)<$>typeInfo t) #[.agg #[.pointer (some ⟨12,G6,none⟩)]]).run prog w=.ok (.bool true) w:=by kernel_rfl
def Me(v:Q0)(w:Qm):(Go.method 470 179 v "Comparable").run prog w=.ok (429,v) w:=by kernel_rfl
def Ly(v:Q0)(w:Qm):(Go.method 538 179 v "Comparable").run prog w=.ok (429,v) w:=by kernel_rfl
def Qgn:(prog.info? G6).map (·.comparable)=some true:=by kernel_rfl
def Qgo:(prog.info? 397).map (·.size)=some 1:=by kernel_rfl
def Qhw(v:Q0)(xT:TypeId)(w:Qm):(Instr.typeAssert (.iface G6 v) xT 181 true).run prog w=.ok (.tuple #[.nilIface,.bool false]) w:=run_typeAssert_lacksB underlying181 kM kM v xT w
def rP(v:Q0)(xT:TypeId)(w:Qm):(Instr.typeAssert (.iface G6 v) xT 184 true).run prog w=.ok (.tuple #[.nilIface,.bool false]) w:=run_typeAssert_lacksB underlying184 kM kM v xT w
def iN(v:Q0)(xT:TypeId)(w:Qm):(Instr.typeAssert (.iface G6 v) xT 186 true).run prog w=.ok (.tuple #[.nilIface,.bool false]) w:=run_typeAssert_lacksB underlying186 kM kM v xT w
def Qfm{P Q:Prop}(h:Q)(f:Wz Q->P:=by
 intro zz;obtain⟨i,hi,hcmp⟩:=Hi.1 Qgn;obtain⟨j,hj,hjs⟩:=Hi.1 Qgo;have h8:=@run_callFunc_extern prog 102 _ Extern.ReflectliteType.typeOf func102 kM kM kM kM;have h32:=@run_callFunc_extern prog 429 _ (Extern.ReflectliteType.method fun t=>do Extern.Rtype.noPackHeld "Comparable" t;pure (.bool (<-typeInfo t).comparable)) func429 kM kM kM kM;have tT:=xJ;have cT:=YD;have mR:=Me;have mR2:=Ly;revert i hi hcmp j hj hjs h8 h32 tT cT mR mR2;exact zz.o):P:=f ⟨h⟩
def MX(a:Addr)(w:Qm):
  Calls prog 55 #[.iface G6 (.pointer (some a)),.iface G6 (.pointer (some a))] w fun e w'=>e=.returned (.bool true)/\w'=w:=by
 refine Qfm ?_
 intro i hi hcmp j hj hjs h8 h32 tT cT mR mR2
 have q:=run_eql_iface_ptr_same (P:=prog) w a underlying66 underlying395 hi hcmp hj
 go_in
 go_wp2
 refine Ev ?_
 exact Nv
def YE(b:Addr)(w:Qm):
  Calls prog 55 #[.nilIface,.iface G6 (.pointer (some b))] w fun e w'=>e=.returned (.bool false)/\w'=w:=by
 have j:=run_eql_iface_nil_left (P:=prog) w G6 (.pointer (some b)) underlying66
 go_in
 exact Nv
def Ui(a b:Addr)(ca cb:Array Q0)(ta tb:TypeId)(w:Qm)(hne:a≠b)(ha:w.heap[a.block]? =some (.cells ca ta (0,0)))(hb:w.heap[b.block]? =some (.cells cb tb (0,0))):
  Calls prog 55 #[.iface G6 (.pointer (some a)),.iface G6 (.pointer (some b))] w fun e w'=>e=.returned (.bool false)/\w'=w:=by
 refine Qfm ?_
 intro i hi hcmp j hj hjs h8 h32 tT cT mR mR2
 have v:=Qhw
 have z:=rP
 have y:=iN
 have q:=run_eql_iface_ptr_other (P:=prog) w underlying66 underlying395 hi hcmp hj (by rw[hjs];decide) hne ha hb
 go_in
 go_wp2
 refine Ev ?_
 exact Nv
end Go.Tm
namespace Go.Tm
open Go.Proofs Go.RowKit Go.Proofs.Tryz
variable{B N b g i k:Nat}{w w':Qm}{ty:TypeId}{E:Am}{S:Qz}{l:Qp}{a0 a1 a2 a3 a4 a5 a6 a7 a8 lv u:Q0}{x:Aa}{fr:Nat × Nat}{a:Act}
def Yt:=@Nat.and_le_right
def FB:=@Calls.quiet_of_same
def Uj:=@Nat.or_lt_two_pow
def Ez:=@wpIn_label
def Pr:=@run_loadVar_row
def Mf:=@results_cell_tmp
def EC:=@IntWalk.i64_in
def Ip:=@wp_scope_jumps
def Ni:=@wp_goto
def Jl:=@Nat.lt_of_le_of_lt
def Mg:=@run_makeMap
def MY:=@Bool.true_and
def Uk:=@Nat.div_lt_of_lt_mul
def Dw:=@Option.some.inj
def Iq:=@results_tmp2
abbrev Ir(fr ex wd:Nat):Q0:=.agg #[.int .i64 fr,.int .i64 ex,.int .i64 wd]
def Xk(n:Nat)(w:Qm)(h:n<=63):Calls prog 210 #[.int .i64 n] w fun e w'=>e=.returned (.int .u64 (Qw n))/\w'=w:=by
 have y:2^n<=2^63:=Rj dM h;have z:0<2^n:=Hn dM;have e:((2:Int)^n)=((2^n:Nat):Int):=by push_cast;rfl
 have v:(2:Nat)^63=9223372036854775808:=dM;have j:IntKind.u64.wrap (IntKind.u64.wrap ((2:Int)^n)-1)=((Qw n:Nat):Int):=by
  have q:IntKind.u64.wrap ((2^n:Nat):Int)=((2^n:Nat):Int):=X7 oM oM;rw[e,q,X7 oM oM];unfold Qw;omega
 have m:=Qc j;clear j e v y z;go_in;go_wp2;go_ret;exact⟨by rw[m.out];rfl,rfl⟩
abbrev iO:Q0:=.agg #[.int .i64 10,.int .i64 5,.int .i64 16,.int .i64 23,.int .i64 8,.int .i64 32,.int .i64 52,.int .i64 11,.int .i64 64]
def Qio(w:Qm):(Instr.index 276 iO (.int .i64 0)).run prog w=.ok (Ir 10 5 16) w:=by kernel_rfl
def Qip(w:Qm):(Instr.index 276 iO (.int .i64 1)).run prog w=.ok (Ir 23 8 32) w:=by kernel_rfl
def Qhx(w:Qm):(Instr.index 276 iO (.int .i64 2)).run prog w=.ok (Ir 52 11 64) w:=by kernel_rfl
def ZO(w:Qm):Calls prog 263 #[] w fun e w'=>e=.returned (.agg #[.int .i64 10,.int .i64 5,.int .i64 16,.int .i64 23,.int .i64 8,.int .i64 32,.int .i64 52,.int .i64 11,.int .i64 64])/\w'=w.alloc (.cells #[.int .i64 10,.int .i64 5,.int .i64 16,.int .i64 23,.int .i64 8,.int .i64 32,.int .i64 52,.int .i64 11,.int .i64 64] 276):=by
 go_in;go_wp2;refine Xs (Dv rfl _ _ w.heap.size 276 _ (0,0) _ rfl (Ew _ _) underlying276 rfl kM) rfl ⟨rfl,rfl⟩
def V0(w:Qm):Calls prog 204 #[] w fun e w'=>e=.returned (Ir 52 11 64)/\w'=(w.alloc (.cells #[.int .i64 52,.int .i64 11,.int .i64 64] 215)).alloc (.cells #[.int .i64 10,.int .i64 5,.int .i64 16,.int .i64 23,.int .i64 8,.int .i64 32,.int .i64 52,.int .i64 11,.int .i64 64] 276):=by
 have j:=Qhx;go_in;go_wp2_with(first| (go_at_call 263;refine(ZO _).mono ?_;rintro e w' ⟨rfl,rfl⟩));refine Xs (Dv rfl _ _ w.heap.size 215 _ (0,0) _ rfl (by repeat(first|exact Ql sM|refine Qb ?_)) underlying215 rfl kM) rfl ⟨rfl,rfl⟩
def FL(a b:Nat)(ha:a<18446744073709551616)(hb:b<18446744073709551616):bits BinOp.and IntKind.u64 (a:Int) (b:Int)=((a&&&b:Nat):Int):=bits_and_u64_nat a b ha hb
def bor(a b:Nat)(ha:a<18446744073709551616)(hb:b<18446744073709551616):bits BinOp.or IntKind.u64 (a:Int) (b:Int)=((a|||b:Nat):Int):=bits_or_u64_nat a b ha hb
def G7(b k:Nat):((b:Int)/2^k)=((b>>>k:Nat):Int):=by rw[Fd];push_cast;rfl
def Dx(b k:Nat):b>>>k<=b:=by rw[Fd];exact Nat.div_le_self _ _
def Rl(n:Nat)(h:n<=63):Qw n<=9223372036854775807:=by
 have j:2^n<=2^63:=Rj dM h;unfold Qw;have:(2:Nat)^63=9223372036854775808:=dM;omega
def nK(n:Nat)(h:n<=9223372036854775807):wrap64 (n:Int)=(n:Int):=F9 _ oM
def Vu(fr ex wd b:Nat)(w:Qm)(hw:wd=16∨wd=32∨wd=64)(h1:fr<=52)(h2:ex<=11)(hb:b<18446744073709551616):Calls prog 213 #[Ir fr ex wd,.int .u64 b] w fun e w'=>e=.returned (.tuple #[.int .u64 (b>>>(wd-1)&&&1:Nat),.int .i64 (b>>>fr&&&Qw ex:Nat),.int .u64 (b&&&Qw fr:Nat)])/\Qd w w':=by
 have n:=Dx b (wd-1);have y:=Dx b fr;have u:=Rl ex oM;have m:=Rl fr oM;have z:b>>>fr&&&Qw ex<=Qw ex:=Yt;have v:=Qc (show bits BinOp.and IntKind.u64 ((b:Int)/2^(wd-1)) 1=((b>>>(wd-1)&&&1:Nat):Int) from by rw[G7];exact FL _ 1 oM dM);have q:=Qc (show wrap64 (bits BinOp.and IntKind.u64 ((b:Int)/2^fr) (Qw ex:Int))=((b>>>fr&&&Qw ex:Nat):Int) from by rw[G7,FL _ _ oM oM];exact nK _ oM);have j:=Qc (show bits BinOp.and IntKind.u64 (b:Int) (Qw fr:Int)=((b&&&Qw fr:Nat):Int) from FL _ _ hb oM);go_in;go_upto_region 1 with fail;go_quiet (first| (go_at_call_of 210 (Value.int IntKind.i64 ex);exact FB (Xk ex _ oM))| (go_at_call_of 210 (Value.int IntKind.i64 fr);exact FB (Xk fr _ oM)));go_wp2;go_ret3;exact⟨by rw[v.out,q.out,j.out];rfl,Xd⟩
def Kh(fr ex wd sign exp frac:Nat)(w:Qm)(hw:wd=16∨wd=32∨wd=64)(h1:fr<=52)(h2:sign<=1)(h3:exp<=2047)(h4:frac<18446744073709551616):Calls prog 208 #[Ir fr ex wd,.int .u64 sign,.int .i64 exp,.int .u64 frac] w fun e w'=>e=.returned (.int .u64 (Kg fr wd sign exp frac:Nat))/\Qd w w':=by
 have b:2^(wd-1)<=2^63:=Rj dM oM;have u:2^fr<=2^52:=Rj dM h1;have q:(2:Nat)^63=9223372036854775808:=dM;have j:(2:Nat)^52=4503599627370496:=dM;have d:sign*2^(wd-1)<=1*2^63:=LR h2 b;have f:exp*2^fr<=2047*2^52:=LR h3 u;have c:IntKind.u64.wrap ((sign:Int)*2^(wd-1))=((sign<<<(wd-1):Nat):Int):=by
  rw[Y5,show((sign:Int)*2^(wd-1))=((sign*2^(wd-1):Nat):Int) by push_cast;rfl,X7 oM oM]
 have m:IntKind.u64.wrap ((exp:Int)*2^fr)=((exp<<<fr:Nat):Int):=by
  rw[Y5,show((exp:Int)*2^fr)=((exp*2^fr:Nat):Int) by push_cast;rfl,X7 oM oM]
 have y:sign<<<(wd-1)<18446744073709551616:=by rw[Y5];omega
 have v:exp<<<fr<18446744073709551616:=by rw[Y5];omega
 have z:(sign<<<(wd-1)|||exp<<<fr)<18446744073709551616:=Uj (n:=64) y v;have t:=Qc (show bits BinOp.or IntKind.u64 (bits BinOp.or IntKind.u64 (IntKind.u64.wrap ((sign:Int)*2^(wd-1))) (IntKind.u64.wrap ((exp:Int)*2^fr))) (frac:Int)=((Kg fr wd sign exp frac:Nat):Int) from by
  rw[c,m,bor _ _ y v,bor _ _ z h4];rfl)
 clear b u q j d f c m y v z;go_in;go_upto_region 1 with fail;go_quiet (fail);go_wp2;go_ret;exact⟨by rw[t.out];rfl,Xd⟩
def ZP{P:Prop}(h:P:=by
 go_ret;exact⟨rfl,rfl⟩):P:=h
def Gp(fr ex wd:Nat)(w:Qm)(h1:1<=ex)(h2:ex<=11):Calls prog 209 #[Ir fr ex wd] w fun e w'=>e=.returned (.int .i64 (Qw (ex-1):Nat))/\w'=w.alloc (.cells #[.int .i64 fr,.int .i64 ex,.int .i64 wd] 215):=by
 have q:=Rl (ex-1) oM;have hx:((ex:Int)-1)=((ex-1:Nat):Int):=oM;have v:=Qc (nK (Qw (ex-1)) q);replace hx:=Qc hx;go_in;go_wp2_with(first| (go_at_call 210;rw[hx.out];refine(Xk (ex-1) _ oM).mono ?_;rintro e w' ⟨rfl,j⟩;replace j:=j.symm;subst j));exact ZP
def f3(i:Nat):Nat × Nat × Nat:=if i=0 then(10,5,16)else if i=1 then(23,8,32)else(52,11,64)
abbrev aJ(f:Nat × Nat × Nat):Array Q0:=#[.int .i64 f.1,.int .i64 f.2.1,.int .i64 f.2.2]
def Fi(i:Nat):Q0:=.agg (aJ (f3 i))
def iP{x:Int}(hi:i<3)(h:((f3 i).2.2:Int)=x):Gf x=some (f3 i):=by
 subst h;obtain rfl|rfl|rfl:i=0∨i=1∨i=2:=oM;all_goals rfl
def iQ{x:Int}(h:∀i,i<3->((f3 i).2.2:Int)≠x):Gf x=none:=by
 have q:=h 0 oM;have j:=h 1 oM;have v:=h 2 oM;simp[f3]at q j v;unfold Gf;rw[Qa (fun e=>q e.symm),Qa (fun e=>j e.symm),Qa (fun e=>v e.symm)]
def aL{P Q:Prop}(h:Q)(f:Wz Q->P:=by
 intro zz;refine Xs (Dr rfl _ _ _) rfl ?_;exact zz.o):P:=f ⟨h⟩
def Ul{P:Prop}(h:P:=by
 gi_wp2;go_end0;exact⟨⟨_,rfl⟩,.inl ⟨hj,trivial⟩⟩):P:=h
def MZ(Sb Si:Nat->Obj->Prop)(W:Qm):
  Hk prog 268 #[] 3 (fun i v _=>v=#[Fi i]) Sb Si (fun _=>True) (fun _ _=>True) W:=by
 rintro l J Jx p t x c r
 have i0:=Qio
 have i1:=Qip
 have i2:=Qhx
 refine Nf func268 rfl trivial ?_ rfl
 simp only[ntmps268,Gj,Xf,Vp,Nat.reduceAdd,Nat.reduceSub,Qdi,Qdj,VO,nC,Ri,Y0]
 gi_wp2_with(gi_at_call 263;refine(Qr (ZO _)).mono ?_;rintro e w' ⟨rfl,rfl⟩)
 gi_loopw [5] (fun i wr=>∃k:Nat,k<=3/\i=.int .i64 k/\J k wr) (fun i _=>3-(RowKit.intOf i).toNat)
 case atStart=>exact⟨0,oM,rfl,t _ _ _ r (Ac.of_same ((Ac.refl _ _).alloc _))⟩
 case round=>
  obtain⟨k,hk,rfl,hj⟩:=hrel;have n:∀o,J k (wr.alloc o):=fun o=>t _ _ _ hj (Ac.of_same ((Ac.refl _ _).alloc o))
  by_cases y:k<3
  ·obtain rfl|rfl|rfl:k=0∨k=1∨k=2:=oM
   ·obtain⟨fn,m,q,z,f,u⟩:=c 0 #[.agg #[.int .i64 10,.int .i64 5,.int .i64 16]] (wr.alloc (.cells #[.int .i64 10,.int .i64 5,.int .i64 16] 215)) y (n _) rfl;gi_wp2;refine u.mono ?_;rintro e d ⟨b,(⟨rfl,j⟩| ⟨rfl,j⟩)⟩
    ·gi_wp2;exact⟨⟨1,oM,rfl,j⟩,by simp[RowKit.intOf]⟩
    ·gi_wp2;refine aL ?_;exact⟨⟨_,rfl⟩,.inr ⟨0,y,j,trivial⟩⟩
   ·obtain⟨fn,m,q,z,f,u⟩:=c 1 #[.agg #[.int .i64 23,.int .i64 8,.int .i64 32]] (wr.alloc (.cells #[.int .i64 23,.int .i64 8,.int .i64 32] 215)) y (n _) rfl;gi_wp2;refine u.mono ?_;rintro e d ⟨b,(⟨rfl,j⟩| ⟨rfl,j⟩)⟩
    ·gi_wp2;exact⟨⟨2,oM,rfl,j⟩,by simp[RowKit.intOf]⟩
    ·gi_wp2;refine aL ?_;exact⟨⟨_,rfl⟩,.inr ⟨1,y,j,trivial⟩⟩
   ·obtain⟨fn,m,q,z,f,u⟩:=c 2 #[.agg #[.int .i64 52,.int .i64 11,.int .i64 64]] (wr.alloc (.cells #[.int .i64 52,.int .i64 11,.int .i64 64] 215)) y (n _) rfl;gi_wp2;refine u.mono ?_;rintro e d ⟨b,(⟨rfl,j⟩| ⟨rfl,j⟩)⟩
    ·gi_wp2;exact⟨⟨3,oM,rfl,j⟩,by simp[RowKit.intOf]⟩
    ·gi_wp2;refine aL ?_;exact⟨⟨_,rfl⟩,.inr ⟨2,y,j,trivial⟩⟩
  ·obtain rfl:k=3:=oM;exact Ul
def Fj(w:Qm):Calls prog 211 #[] w fun e w'=>e=.returned (.func (.func 268) #[] #[])/\w'=w:=by
 go_in;exact Nv
def Qk{arr:Array Q0}{t:TypeId}{f:Nat × Nat}(h:w.heap[b]? =some (.cells arr t f))(j:Nat)(v:Q0):(w.setCell ⟨b,j,none⟩ v).heap[b]? =some (.cells (arr.setIfInBounds j v) t f):=by
 unfold World.setCell;rw[xA,Qe rfl,h];rfl
def Um(x:Int)(w:Qm):Calls prog 212 #[.int .i64 x] w fun e w'=>e=.returned (match Gf x with|none=>.tuple #[Ir 0 0 0,.bool false]|some (fr,ex,wd)=>.tuple #[Ir fr ex wd,.bool true])/\Qd w w':=by
 refine(J5 (n:=0)).1 ?_;refine Vy func212 rfl trivial ?_ rfl;simp only[ntmps212,Gj,Xf,Vp,Nat.reduceAdd,Nat.reduceSub,Qdi,Qdj,VO,nC,Ri,Y0];gi_wp2_with(gi_at_call 211;refine(Qr (Fj _)).mono ?_;rintro e w' ⟨rfl,rfl⟩);refine Jy ?_;gi_wp2_with(gi_at_call 211;refine(Qr (Fj _)).mono ?_;rintro e w' ⟨rfl,h9⟩;replace h9:=h9.symm;subst h9);refine Ez ?_;gi_wp2_with(gi_at_call 211;refine(Qr (Fj _)).mono ?_;rintro e w' ⟨rfl,h9⟩;replace h9:=h9.symm;subst h9);generalize a0:World.alloc _ (.cells #[.bool false] 4)=W1;have hz:W1.heap.size=w.heap.size+4:=by rw[<-a0];simp
 have m:Qd w W1:=by rw[<-a0];exact(((((Ac.refl _ w).alloc _).alloc _).alloc _).alloc _)
 have b0:Boxed W1 w.heap.size 3 (.int .i64 x):=by rw[<-a0];repeat(first|exact Ql sM|refine Qb ?_)
 have b1:W1.heap[w.heap.size+1]? =some (.cells #[.int .i64 0,.int .i64 0,.int .i64 0] 215 (0,0)):=by rw[<-a0];exact Qb (Qb (Ql sM))
 have b2:W1.heap[w.heap.size+1+1]? =some (.cells #[.int .i64 0,.int .i64 0,.int .i64 0] 215 (0,0)):=by rw[<-a0];exact Qb (Ql sM)
 have b3:Boxed W1 (w.heap.size+1+1+1) 4 (.bool false):=by rw[<-a0];exact Ql sM
 clear a0;refine Jt (gf:=268) (lb:=#[])
  rfl (X3 func268 kM rfl) 3 (fun i v _=>v=#[Fi i]) (fun b o=>b≠w.heap.size+1+1/\b≠w.heap.size+1+1+1) (fun _ _=>True)
  (fun _=>True) (fun _ _=>True) (fun W2 _ _=>MZ _ _ W2) ?hSb (fun _ _ _ _ _=>trivial)
  (fun i A=>(∀j,j<i->((f3 j).2.2:Int)≠x)/\Boxed A w.heap.size 3 (.int .i64 x)/\A.heap[w.heap.size+1]? =some (.cells #[.int .i64 0,.int .i64 0,.int .i64 0] 215 (0,0))/\A.heap[w.heap.size+1+1]? =some (.cells #[.int .i64 0,.int .i64 0,.int .i64 0] 215 (0,0))/\Boxed A (w.heap.size+1+1+1) 4 (.bool false))
  (fun i c A=>c=.exit 0/\((f3 i).2.2:Int)=x/\A.heap[w.heap.size+1]? =some (.cells #[.int .i64 0,.int .i64 0,.int .i64 0] 215 (0,0))/\A.heap[w.heap.size+1+1]? =some (.cells (aJ (f3 i)) 215 (0,0))/\Boxed A (w.heap.size+1+1+1) 4 (.bool true))
  ?hI ?hIx (fun _ _ _ _ h _=>h) (fun _ _ _ _=>trivial) (fun _ _ _ _ _=>trivial) (fun i v A h=>by rw[h];rfl) ⟨fun _ h=>oM,b0,b1,b2,b3⟩
  (fun i v a' A=>∃bx,A.heap[bx]? =some (.cells (aJ (f3 i)) 215 (0,0))/\a'={tmps:=#[.int .i64 x,.pointer (some ⟨w.heap.size,0,none⟩),.pointer (some ⟨w.heap.size+1,0,none⟩),.bool false,.pointer (some ⟨w.heap.size+1+1,0,none⟩),.pointer (some ⟨w.heap.size+1+1+1,0,none⟩),.pointer (some ⟨bx,0,none⟩),.func (.func 268) #[] #[],Fi i,undef,undef,undef,undef,undef,undef,undef],defers:=[]}) ?hAx ?hassign ?hbody ?hdone ?hstop
 case hSb=>exact fun b o hb ho=>⟨oM,oM⟩
 case hI=>
  rintro i A B ⟨h1,h2,r,d,t⟩ z;exact⟨h1,z.boxed h2 ⟨.inr rfl,trivial⟩,z.same _ _ r ⟨.inr rfl,trivial⟩,z.same _ _ d ⟨.inr rfl,trivial⟩,z.boxed t ⟨.inr rfl,trivial⟩⟩
 case hIx=>
  rintro i c A B ⟨h0,h1,r,d,t⟩ z;exact⟨h0,h1,z.same _ _ r ⟨.inr rfl,trivial⟩,z.same _ _ d ⟨.inr rfl,trivial⟩,z.boxed t ⟨.inr rfl,trivial⟩⟩
 case hAx=>
  rintro i v a' A B ⟨bx,h1,h2⟩ z;exact⟨bx,z.same _ _ h1 (.inr rfl),h2⟩
 case hassign=>
  intro l i v A K hi a9 aa y;subst aa;obtain⟨f,hf⟩:=X0 (f3 i);unfold Fi at y|-;rw[hf]at y|-;gi_wp2;refine y _ _ ((Ac.refl _ _).alloc _) ?_ trivial ⟨A.heap.size,Qt A _,rfl⟩;obtain⟨h1,h2,r,d,t⟩:=a9;exact⟨h1,h2.alloc _,Qb r,Qb d,t.alloc _⟩
 case hbody=>
  rintro l i v a' A hl _ hi ⟨h1,h2,r,d,t⟩ hv ⟨bx,a7,rfl⟩;unfold Fi;obtain⟨f,hf⟩:=X0 (f3 i);have Hf:=Qc hf;rw[hf]at a7|-;clear hf;have c0:=h2.cell;obtain⟨e0,e1,e2⟩:=Q1 a7;obtain⟨g0,g1,g2⟩:=Q1 d;have c5:=t.cell;have z5:=t.frozen;have z4:∀j,A.frozen? ⟨w.heap.size+1+1,j,none⟩=false:=Je d;by_cases hx:(f.2.2:Int)=x
  ·have ab:((f.2.2:Int)==x)=true:=by simpa using hx
   have HX:=Qc hx;clear hx;gi_wp2;have n4:=Qk (Qk (Qk d 0 (.int .i64 (f.1:Int))) 1 (.int .i64 (f.2.1:Int))) 2 (.int .i64 (f.2.2:Int));have q:∀(X:Qm) (p:Addr) (v:Q0) (b:Nat),p.block≠b->(X.setCell p v).heap[b]? =X.heap[b]?:=fun X p v b h=>Sg X p v b (fun e=>h e.symm)
   refine⟨?_,rfl,by rw[Hf.out];exact HX.out,?_,?_,?_⟩
   ·exact((((Ac.refl _ A).setCell _ fun o _ hs _=>hs.1 rfl).setCell _ fun o _ hs _=>hs.1 rfl).setCell _ fun o _ hs _=>hs.1 rfl).setCell _ fun o _ hs _=>hs.2 rfl
   ·rw[q _ _ _ _ (by show w.heap.size+1+1+1≠_;omega),q _ _ _ _ (by show w.heap.size+1+1≠_;omega),q _ _ _ _ (by show w.heap.size+1+1≠_;omega),q _ _ _ _ (by show w.heap.size+1+1≠_;omega)];exact r
   ·rw[q _ _ _ _ (by show w.heap.size+1+1+1≠_;omega),n4,Hf.out];rfl
   ·refine Boxed.set (v:=.bool false) _ ?_;unfold Boxed;rw[q _ _ _ _ (by show w.heap.size+1+1≠_;omega),q _ _ _ _ (by show w.heap.size+1+1≠_;omega),q _ _ _ _ (by show w.heap.size+1+1≠_;omega)];exact t
  ·have ab:((f.2.2:Int)==x)=false:=by simpa using hx
   have HX:=Qc hx;clear hx;gi_wp2;refine⟨Ac.refl _ _,fun j hj=>?_,h2,r,d,t⟩;rcases Ce j i with h|h
   ·exact h1 j h
   ·obtain rfl:j=i:=oM;rw[Hf.out];exact HX.out
 case hdone=>
  rintro D A hD ⟨h1,h2,r,d,t⟩ _ z a6;have a1:Qd w A:=⟨z.os.trans m.os,z.tape.trans m.tape,z.output.trans m.output,Qj m.size z.size,fun b o hb _=>z.same b o (m.same b o hb trivial) ⟨⟨Ku hb,Ku hb⟩,trivial⟩⟩;have a8:=a1.size;have u:=iQ h1;obtain⟨f,hf⟩:∃f:Nat × Nat × Nat,f=(0,0,0):=⟨_,rfl⟩;have HR:=Qc u;clear u;obtain⟨p0,p1,p2⟩:=Q1 d;have p5:=t.cell;gi_wp2;refine Zq (fun X=>X.heap[w.heap.size+1+1]? =some (.cells #[.int .i64 0,.int .i64 0,.int .i64 0] 215 (0,0))/\Boxed X (w.heap.size+1+1+1) 4 (.bool false)) reads (fun _=>trivial) rfl kM kM ⟨d,t⟩ ?_;refine Dt rfl rfl ?_;intro K y w' ⟨s1,s2⟩;obtain⟨q0,q1,q2⟩:=Q1 s1;go_simp;refine y _ _ ?_;clear y K q0 q1 q2 s1 s2 w';refine Dt rfl rfl ?_;intro K y w' ⟨s1,s2⟩;have q0:=s2.cell;go_simp;refine y _ _ ?_;clear y K q0 s1 s2 w';refine TL rfl rfl ?_;intro K y;obtain⟨q0,q1,q2⟩:=Q1 r;have z3:∀j,A.frozen? ⟨w.heap.size+1,j,none⟩=false:=Je r;go_simp;have n3:=Qk (w:=(A.setCell ⟨w.heap.size+1,0,none⟩ (.int .i64 0)).setCell ⟨w.heap.size+1,1,none⟩ (.int .i64 0)) (Qk (Qk r 0 (.int .i64 0)) 1 (.int .i64 0)) 2 (.int .i64 0);have q:∀(X:Qm) (p:Addr) (v:Q0) (b:Nat),p.block≠b->(X.setCell p v).heap[b]? =X.heap[b]?:=fun X p v b h=>Sg X p v b (fun e=>h e.symm)
  have a3:Qd w (((A.setCell ⟨w.heap.size+1,0,none⟩ (.int .i64 0)).setCell ⟨w.heap.size+1,1,none⟩ (.int .i64 0)).setCell ⟨w.heap.size+1,2,none⟩ (.int .i64 0)):=
   ((a1.setCell _ fun o _ _ h=>absurd h (by show¬w.heap.size+1<_;omega)).setCell _ fun o _ _ h=>absurd h (by show¬w.heap.size+1<_;omega)).setCell _ fun o _ _ h=>absurd h (by show¬w.heap.size+1<_;omega)
  have k:(((A.setCell ⟨w.heap.size+1,0,none⟩ (.int .i64 0)).setCell ⟨w.heap.size+1,1,none⟩ (.int .i64 0)).setCell ⟨w.heap.size+1,2,none⟩ (.int .i64 0)).heap[D]? =some (.deferred (some [])):=by
   rw[q _ _ _ _ (by show w.heap.size+1≠_;omega),q _ _ _ _ (by show w.heap.size+1≠_;omega),q _ _ _ _ (by show w.heap.size+1≠_;omega)];exact a6
  refine y _ _ ⟨?_,?_⟩ ?_
  ·show(((A.setCell ⟨w.heap.size+1,0,none⟩ (.int .i64 0)).setCell ⟨w.heap.size+1,1,none⟩ (.int .i64 0)).setCell ⟨w.heap.size+1,2,none⟩ (.int .i64 0)).heap[_]? =_;rw[q _ _ _ _ (by show w.heap.size+1≠_;omega),q _ _ _ _ (by show w.heap.size+1≠_;omega),q _ _ _ _ (by show w.heap.size+1≠_;omega)];exact d
  ·unfold Boxed;show(((A.setCell ⟨w.heap.size+1,0,none⟩ (.int .i64 0)).setCell ⟨w.heap.size+1,1,none⟩ (.int .i64 0)).setCell ⟨w.heap.size+1,2,none⟩ (.int .i64 0)).heap[_]? =_;rw[q _ _ _ _ (by show w.heap.size+1≠_;omega),q _ _ _ _ (by show w.heap.size+1≠_;omega),q _ _ _ _ (by show w.heap.size+1≠_;omega)];exact t
  clear y K q0 q1 q2 z3;refine Dt rfl rfl ?_;intro K y w' a5;go_simp;refine y _ _ ?_;clear y K a5 w';refine H7 ?_;generalize(((A.setCell ⟨w.heap.size+1,0,none⟩ (.int .i64 0)).setCell ⟨w.heap.size+1,1,none⟩ (.int .i64 0)).setCell ⟨w.heap.size+1,2,none⟩ (.int .i64 0))=B at n3 a3 k|-;gi_wp2;refine⟨sM,.inl ⟨_,_,rfl,Vx (w:=B.drew) k,?_⟩⟩;have a2:(B.drew.putObj D (.deferred none)).heap[w.heap.size+1]? =some (.cells #[.int .i64 0,.int .i64 0,.int .i64 0] 215 (0,0)):=(N3 oM).trans n3;have a4:=Pr (P:=prog) _ (w.heap.size+1) 215 215 _ (0,0) _ a2 underlying215 rfl kM;refine⟨.tuple #[.agg #[.int .i64 0,.int .i64 0,.int .i64 0],.bool false],?_,by rw[HR.out];rfl,a3.drew.putObj _ fun o _ _ h=>oM⟩;rw[Mf rfl];simp[asAddr,a4,Result.andThen]
 case hstop=>
  rintro D i c A hD hi ⟨rfl,h1,r,d,t⟩ _ z a6;have a1:Qd w A:=⟨z.os.trans m.os,z.tape.trans m.tape,z.output.trans m.output,Qj m.size z.size,fun b o hb _=>z.same b o (m.same b o hb trivial) ⟨⟨Ku hb,Ku hb⟩,trivial⟩⟩;have a8:=a1.size;have u:=iP hi h1;obtain⟨f,hf⟩:=X0 (f3 i);rw[hf]at u d;have HR:=Qc u;clear u hf h1;obtain⟨p0,p1,p2⟩:=Q1 d;have p5:=t.cell;gi_wp2;refine Zq (fun X=>X.heap[w.heap.size+1+1]? =some (.cells (aJ f) 215 (0,0))/\Boxed X (w.heap.size+1+1+1) 4 (.bool true)) reads (fun _=>trivial) rfl kM kM ⟨d,t⟩ ?_;refine Dt rfl rfl ?_;intro K y w' ⟨s1,s2⟩;obtain⟨q0,q1,q2⟩:=Q1 s1;go_simp;refine y _ _ ?_;clear y K q0 q1 q2 s1 s2 w';refine Dt rfl rfl ?_;intro K y w' ⟨s1,s2⟩;have q0:=s2.cell;go_simp;refine y _ _ ?_;clear y K q0 s1 s2 w';refine TL rfl rfl ?_;intro K y;obtain⟨q0,q1,q2⟩:=Q1 r;have z3:∀j,A.frozen? ⟨w.heap.size+1,j,none⟩=false:=Je r;go_simp;have n3:=Qk (w:=(A.setCell ⟨w.heap.size+1,0,none⟩ (.int .i64 (f.1:Int))).setCell ⟨w.heap.size+1,1,none⟩ (.int .i64 (f.2.1:Int))) (Qk (Qk r 0 (.int .i64 (f.1:Int))) 1 (.int .i64 (f.2.1:Int))) 2 (.int .i64 (f.2.2:Int));have q:∀(X:Qm) (p:Addr) (v:Q0) (b:Nat),p.block≠b->(X.setCell p v).heap[b]? =X.heap[b]?:=fun X p v b h=>Sg X p v b (fun e=>h e.symm)
  have a3:Qd w (((A.setCell ⟨w.heap.size+1,0,none⟩ (.int .i64 (f.1:Int))).setCell ⟨w.heap.size+1,1,none⟩ (.int .i64 (f.2.1:Int))).setCell ⟨w.heap.size+1,2,none⟩ (.int .i64 (f.2.2:Int))):=
   ((a1.setCell _ fun o _ _ h=>absurd h (by show¬w.heap.size+1<_;omega)).setCell _ fun o _ _ h=>absurd h (by show¬w.heap.size+1<_;omega)).setCell _ fun o _ _ h=>absurd h (by show¬w.heap.size+1<_;omega)
  have k:(((A.setCell ⟨w.heap.size+1,0,none⟩ (.int .i64 (f.1:Int))).setCell ⟨w.heap.size+1,1,none⟩ (.int .i64 (f.2.1:Int))).setCell ⟨w.heap.size+1,2,none⟩ (.int .i64 (f.2.2:Int))).heap[D]? =some (.deferred (some [])):=by
   rw[q _ _ _ _ (by show w.heap.size+1≠_;omega),q _ _ _ _ (by show w.heap.size+1≠_;omega),q _ _ _ _ (by show w.heap.size+1≠_;omega)];exact a6
  refine y _ _ ⟨?_,?_⟩ ?_
  ·show(((A.setCell ⟨w.heap.size+1,0,none⟩ (.int .i64 (f.1:Int))).setCell ⟨w.heap.size+1,1,none⟩ (.int .i64 (f.2.1:Int))).setCell ⟨w.heap.size+1,2,none⟩ (.int .i64 (f.2.2:Int))).heap[_]? =_;rw[q _ _ _ _ (by show w.heap.size+1≠_;omega),q _ _ _ _ (by show w.heap.size+1≠_;omega),q _ _ _ _ (by show w.heap.size+1≠_;omega)];exact d
  ·unfold Boxed;show(((A.setCell ⟨w.heap.size+1,0,none⟩ (.int .i64 (f.1:Int))).setCell ⟨w.heap.size+1,1,none⟩ (.int .i64 (f.2.1:Int))).setCell ⟨w.heap.size+1,2,none⟩ (.int .i64 (f.2.2:Int))).heap[_]? =_;rw[q _ _ _ _ (by show w.heap.size+1≠_;omega),q _ _ _ _ (by show w.heap.size+1≠_;omega),q _ _ _ _ (by show w.heap.size+1≠_;omega)];exact t
  clear y K q0 q1 q2 z3;refine Dt rfl rfl ?_;intro K y w' a5;go_simp;refine y _ _ ?_;clear y K a5 w';refine H7 ?_;generalize(((A.setCell ⟨w.heap.size+1,0,none⟩ (.int .i64 (f.1:Int))).setCell ⟨w.heap.size+1,1,none⟩ (.int .i64 (f.2.1:Int))).setCell ⟨w.heap.size+1,2,none⟩ (.int .i64 (f.2.2:Int)))=B at n3 a3 k|-;gi_wp2;refine⟨sM,.inl ⟨_,_,rfl,Vx (w:=B.drew) k,?_⟩⟩;have a2:(B.drew.putObj D (.deferred none)).heap[w.heap.size+1]? =some (.cells #[.int .i64 (f.1:Int),.int .i64 (f.2.1:Int),.int .i64 (f.2.2:Int)] 215 (0,0)):=(N3 oM).trans n3;have a4:=Pr (P:=prog) _ (w.heap.size+1) 215 215 _ (0,0) _ a2 underlying215 rfl kM;refine⟨.tuple #[.agg #[.int .i64 (f.1:Int),.int .i64 (f.2.1:Int),.int .i64 (f.2.2:Int)],.bool true],?_,by rw[HR.out],a3.drew.putObj _ fun o _ _ h=>oM⟩;rw[Mf rfl];simp[asAddr,a4,Result.andThen]
def L5:∀(k n:Nat),n<2^k->Lib.bitLenAux k n=Zl n
 |0,n,h=>by
  obtain rfl:n=0:=by simpa using h
  rfl
 |k+1,n,h=>by
  unfold Lib.bitLenAux Zl;by_cases j:n=0
  ·simp[j]
  ·rw[Qa j,Qa j,L5 k (n/2) (by rw[Gb]at h;omega)];unfold Zl;rw[Nat.log2_def n];by_cases q:n<2
   ·obtain rfl:n=1:=oM;rfl
   ·rw[Qa oM,Qe oM];omega
def Gq(n:Nat)(h:n<18446744073709551616):Zl n=Lib.bitLen n:=(L5 64 n h).symm
def ED(k n:Nat)(h:n<2^k):Zl n<=k:=by
 unfold Zl;split
 ·omega
 ·exact(Nat.log2_lt oM).2 h
def Un(n:Nat)(h:0<n):1<=Zl n:=by
 unfold Zl;rw[Qa oM];omega
def Qhy(w:Qm):Calls prog 212 #[.int .i64 16] w fun e w'=>e=.returned (.tuple #[.agg #[.int .i64 10,.int .i64 5,.int .i64 16],.bool true])/\Qd w w':=Um 16 w
def Qhz(w:Qm):Calls prog 212 #[.int .i64 32] w fun e w'=>e=.returned (.tuple #[.agg #[.int .i64 23,.int .i64 8,.int .i64 32],.bool true])/\Qd w w':=Um 32 w
def Qh0(w:Qm):Calls prog 212 #[.int .i64 64] w fun e w'=>e=.returned (.tuple #[.agg #[.int .i64 52,.int .i64 11,.int .i64 64],.bool true])/\Qd w w':=Um 64 w
def Oa{P Q:Prop}(h:Q)(f:Wz Q->P:=by
 intro zz;go_at_call 212;refine(Qhy _).mono ?_;rintro x w1 ⟨rfl,hk1⟩;revert w1 hk1;exact zz.o):P:=f ⟨h⟩
def Cu{P Q:Prop}(h:Q)(f:Wz Q->P:=by
 intro zz;go_at_call 207;refine(bits_Len64 b _ oM oM).mono ?_;rintro x w' ⟨rfl,h9⟩;replace h9:=h9.symm;subst h9;rw[Ig];exact zz.o):P:=f ⟨h⟩
def Tq{P Q:Prop}(h:Q)(f:Wz Q->P:=by
 intro zz;have f0:=Q1 hbf;have g0:=Q1 hbt;obtain⟨w2,hz2⟩:∃z,z=w2':=⟨_,rfl⟩;revert f0 g0 w2 hz2;exact zz.o):P:=f ⟨h⟩
def nL{P Q:Prop}(h:Q)(f:Wz Q->P:=by
 intro zz;have hS0:w2.heap[w1.heap.size]? =some (.cells #[.int .i64 10,.int .i64 5,.int .i64 16] 215 (0,0))/\w2.heap[w1.heap.size+1+1+1]? =some (.cells #[.int .i64 52,.int .i64 11,.int .i64 64] 215 (0,0)):=⟨hbf,hbt⟩;refine(Vd (n:=0)).1 ?_;refine Zq (n:=0) (fun X=>X.heap[w1.heap.size]? =some (.cells #[.int .i64 10,.int .i64 5,.int .i64 16] 215 (0,0))/\X.heap[w1.heap.size+1+1+1]? =some (.cells #[.int .i64 52,.int .i64 11,.int .i64 64] 215 (0,0))) reads (fun _=>trivial) rfl kM kM hS0 ?_;revert hS0;exact zz.o):P:=f ⟨h⟩
def Nb{P Q:Prop}(h:Q)(f:Wz Q->P:=by
 intro zz;refine TL rfl rfl ?_;intro K hK;go_simp;revert K hK;exact zz.o):P:=f ⟨h⟩
def nM{P Q:Prop}(h:Q)(f:Wz Q->P:=by
 intro zz;refine hK _ _ ⟨Qb (w:=w2.drew) hbf,Qb (w:=w2.drew) hbt⟩ ?_;have hc1:=Qb (w:=w2) (o:=.cells #[.int .i64 10,.int .i64 5,.int .i64 16] 215) hbf;have hc2:=Qb (w:=w2) (o:=.cells #[.int .i64 10,.int .i64 5,.int .i64 16] 215) hbt;have r0:=Q1 hc2;revert hc1 hc2 r0;exact zz.o):P:=f ⟨h⟩
def Tr{P Q:Prop}(h:Q)(f:Wz Q->P:=by
 intro zz;refine(Qr (Gp 52 11 64 _ oM oM)).mono ?_;exact zz.o):P:=f ⟨h⟩
def Ts{P Q:Prop}(h:Q)(f:Wz Q->P:=by
 intro zz;refine hK _ _ ⟨Qb hc1,Qb hc2⟩ ?_;exact zz.o):P:=f ⟨h⟩
def Tt{P:Prop}(h:P:=by
 rintro x w3 ⟨rfl,hk3⟩;refine hK _ _ ⟨hk3.s (Qb hc1),hk3.s (Qb hc2)⟩ ?_;clear hK K wex;repeat refine sX ?_
 refine H7 ?_;go_wp2;go_ret2;exact⟨by rw[HQ.out];rfl,Xd⟩):P:=h
def aM(b:Nat)(w:Qm)(hb:b<18446744073709551616):Calls prog 181 #[.int .u64 b,.int .i64 16] w fun e w'=>e=.returned (.tuple #[.int .u64 ((Kx b 16).1:Nat),.int .i64 (Kx b 16).2])/\Qd w w':=by
 by_cases z:16<Zl b
 ·have k:Kx b 16=(0,2):=by show(if 16<Zl b then _ else _)=_;rw[Qe z]
  have hl:decide ((16:Int)< ((Lib.bitLen b:Nat):Int))=true:=by rw[<-Gq b hb];simp;omega
  have r:=Qc k;clear k z;go_in;go_wp2_with(first
   | (refine Oa ?_;intro w1 hk1)
   | (refine Cu ?_))
  go_ret2;exact⟨by rw[r.out];rfl,Xd⟩
 ·have hl:decide ((16:Int)< ((Lib.bitLen b:Nat):Int))=false:=by rw[<-Gq b hb];simp;omega
  obtain⟨s,hs⟩:=X0 (b>>>(16-1)&&&1);obtain⟨e,he⟩:=X0 (b>>>10&&&Qw 5);obtain⟨f,hf⟩:=X0 (b&&&Qw 10);have c:s<=1:=by rw[<-hs];exact Yt
  have a7:e<=31:=by rw[<-he];exact Yt
  have a0:f<=1023:=by rw[<-hf];exact Yt
  have k:Kx b 16=(if e=31 then(Kg 52 64 s 2047 (f<<<42),(0:Int))else if e=0/\f=0 then(Kg 52 64 s 0 0,0)else if e=0 then(Kg 52 64 s (1+1023-15-(10+1-Zl f)) ((f<<<(10+1-Zl f)&&&Qw 10)<<<42),0)else(Kg 52 64 s (e+1023-15) (f<<<42),0)):=by
   show(if 16<Zl b then _ else _)=_;rw[Qa z,<-hs,<-he,<-hf];rfl
  have y:f<<<42=f*4398046511104:=by rw[Y5]
  have d:f<<<42<18446744073709551616:=by rw[y];omega
  have m:IntKind.u64.wrap ((f:Int)*4398046511104)=((f<<<42:Nat):Int):=by rw[y,<-X7 (x:=((f*4398046511104:Nat):Int)) oM oM];rfl
  have HS:=Qc hs;have HE:=Qc he;have HF:=Qc hf;have r:=Qc k;have o1:Qw 5=31:=dM;have o2:Qw 11=2047:=dM;have p:=Qc m;clear k z hs he hf y m;go_in;by_cases c1:e=31
  ·have k1:((e:Int)==31)=true:=by simp;omega
   have j:Kx b 16=(Kg 52 64 s 2047 (f<<<42),0):=by rw[r.out,Qe c1]
   have HQ:=Qc j;clear j c1;go_wp2_with(first
    | (refine Oa ?_;intro w1 hk1)
    | (refine Cu ?_)
    | (go_at_call 204;refine(V0 _).mono ?_;rintro x w' ⟨rfl,rfl⟩)
    | (go_at_call 213;refine(Vu 10 5 16 b _ oM oM oM hb).mono ?_;rintro x w2 ⟨rfl,q⟩;rw[HS.out,HE.out,HF.out];have hbf:=q.same w1.heap.size _ (show _=some (.cells #[.int .i64 10,.int .i64 5,.int .i64 16] 215 (0,0)) from BR) trivial;have f0:=Q1 hbf;have hbt:=q.same (w1.heap.size+1+1+1) _ (show _=some (.cells #[.int .i64 52,.int .i64 11,.int .i64 64] 215 (0,0)) from BR) trivial;have g0:=Q1 hbt)
    | (go_at_call 210;refine(Xk 5 _ oM).mono ?_;rintro x w' ⟨rfl,h9⟩;replace h9:=h9.symm;subst h9))
   go_region_with (first
    | (go_at_call 210;refine(Xk 11 _ oM).mono ?_;rintro x w' ⟨rfl,h9⟩;replace h9:=h9.symm;subst h9)
    | (go_at_call 208;rw[show IntKind.i64.wrap 2047=2047 from rfl,p.out];refine(Kh 52 11 64 s 2047 (f<<<42) _ oM oM c oM d).mono ?_;rintro x w3 ⟨rfl,hk3⟩))
   all_goals go_wp2
   all_goals go_ret2
   all_goals exact⟨by rw[HQ.out];rfl,Xd⟩
  ·have k1:((e:Int)==31)=false:=by rw[X6];omega
   have j:=r.out;rw[Qa c1]at j;clear c1;by_cases c2:e=0/\f=0
   ·rw[Qe c2]at j;have HQ:=Qc j;clear j;have k2:((e:Int)==0)=true:=by simp;omega
    have k3:((f:Int)==0)=true:=by simp;omega
    clear c2;go_wp2_with(first
    | (refine Oa ?_;intro w1 hk1)
    | (refine Cu ?_)
    | (go_at_call 204;refine(V0 _).mono ?_;rintro x w' ⟨rfl,rfl⟩)
    | (go_at_call 213;refine(Vu 10 5 16 b _ oM oM oM hb).mono ?_;rintro x w2 ⟨rfl,q⟩;rw[HS.out,HE.out,HF.out];have hbf:=q.same w1.heap.size _ (show _=some (.cells #[.int .i64 10,.int .i64 5,.int .i64 16] 215 (0,0)) from BR) trivial;have f0:=Q1 hbf;have hbt:=q.same (w1.heap.size+1+1+1) _ (show _=some (.cells #[.int .i64 52,.int .i64 11,.int .i64 64] 215 (0,0)) from BR) trivial;have g0:=Q1 hbt)
    | (go_at_call 210;refine(Xk 5 _ oM).mono ?_;rintro x w' ⟨rfl,h9⟩;replace h9:=h9.symm;subst h9)
    | (go_at_call 208;refine(Kh 52 11 64 s 0 0 _ oM oM c oM oM).mono ?_;rintro x w3 ⟨rfl,hk3⟩))
    go_ret2;exact⟨by rw[HQ.out];rfl,Xd⟩
   ·rw[Qa c2]at j;by_cases c3:e=0
    ·rw[Qe c3]at j;have HQ:=Qc j;clear j;have k2:((e:Int)==0)=true:=by simp;omega
     have k3:((f:Int)==0)=false:=by rw[X6];omega
     have a1:0<f:=oM;have t:=Gq f oM;have a4:=ED 10 f oM;have a2:=Un f a1;obtain⟨u,hu⟩:=X0 (10+1-Zl f);have a5:1<=u/\u<=10:=oM;have a8:((10:Int)+1-((Lib.bitLen f:Nat):Int))=(u:Int):=by rw[<-t];omega
     have a6:((11:Int)-((Lib.bitLen f:Nat):Int))=(u:Int):=by rw[<-t];omega
     have HU:=Qc hu;clear hu t a4 a2;go_wp2_with(first
    | (refine Oa ?_;intro w1 hk1)
    | (refine Cu ?_)
    | (go_at_call 204;refine(V0 _).mono ?_;rintro x w' ⟨rfl,rfl⟩)
    | (go_at_call 213;refine(Vu 10 5 16 b _ oM oM oM hb).mono ?_;rintro x w2 ⟨rfl,q⟩;rw[HS.out,HE.out,HF.out];have hbf:=q.same w1.heap.size _ (show _=some (.cells #[.int .i64 10,.int .i64 5,.int .i64 16] 215 (0,0)) from BR) trivial;have f0:=Q1 hbf;have hbt:=q.same (w1.heap.size+1+1+1) _ (show _=some (.cells #[.int .i64 52,.int .i64 11,.int .i64 64] 215 (0,0)) from BR) trivial;have g0:=Q1 hbt)
    | (go_at_call 210;refine(Xk 5 _ oM).mono ?_;rintro x w' ⟨rfl,h9⟩;replace h9:=h9.symm;subst h9))
     go_upto_region 14 with fail
     go_quiet (first| (go_at_call_of 207 (Value.int IntKind.u64 f);exact FB (bits_Len64 f _ oM oM)))
     generalize n:w2.drewN nq=w2'
     have v:Qd w2 w2':=by rw[<-n];exact Xd
     clear n
     replace q:=q.trans v
     replace hbf:=v.s hbf
     replace hbt:=v.s hbt
     clear v f0 g0 w2
     refine Tq ?_
     intro f0 g0 w2 hz2
     subst hz2
     go_upto_region 15 with fail
     go_quiet (first| (go_at_call_of 210 (Value.int IntKind.i64 10);exact FB (Xk 10 _ oM)))
     have gb:bits .and .u64 (IntKind.u64.wrap ((f:Int)*2^u)) ((Qw 10:Nat):Int)=((f<<<u&&&Qw 10:Nat):Int):=by
      have p1:(2:Nat)^u<=2^10:=Rj dM a5.2;have p2:f*2^u<18446744073709551616:=Cf (Nat.mul_lt_mul_of_lt_of_le (Nat.lt_succ_of_le a0) p1 dM) dM;have p3:((f:Int)*2^u)=((f*2^u:Nat):Int):=by push_cast;rfl
      rw[p3,X7 oM oM,Y5,FL _ _ p2 dM]
     rw[gb]
     clear gb
     have gr:Kx b 16=(Kg 52 64 s (1+1023-15-u) ((f<<<u&&&Qw 10)<<<42),0):=by rw[HQ.out,HU.out]
     clear HQ
     have HQ:=Qc gr
     clear gr
     obtain⟨g,hg⟩:=X0 (f<<<u&&&Qw 10)
     have a9:g<=1023:=by rw[<-hg];exact Yt
     rw[hg]
     rw[hg]at HQ
     clear hg
     have y:g<<<42=g*4398046511104:=by rw[Y5]
     have a3:g<<<42<18446744073709551616:=by rw[y];omega
     have m:IntKind.u64.wrap ((g:Int)*4398046511104)=((g<<<42:Nat):Int):=by rw[y,<-X7 (x:=((g*4398046511104:Nat):Int)) oM oM];rfl
     replace m:=Qc m
     clear y
     generalize n:w2.drewN nq=w2'
     have v:Qd w2 w2':=by rw[<-n];exact Xd
     clear n
     replace q:=q.trans v
     replace hbf:=v.s hbf
     replace hbt:=v.s hbt
     clear v f0 g0 w2
     refine Tq ?_
     intro f0 g0 w2 hz2
     subst hz2
     go_wp2
     refine nL ?_
     intro hS0
     repeat refine sX ?_
     refine Nb ?_
     intro K hK
     refine(Qr (Gp 10 5 16 _ oM oM)).mono ?_
     rintro x w' ⟨rfl,rfl⟩
     refine nM ?_
     intro hc1 hc2 r0
     clear hK K
     repeat refine sX ?_
     refine Nb ?_
     intro K hK
     refine Tr ?_
     rintro x w' ⟨rfl,rfl⟩
     refine Ts ?_
     clear hK K
     repeat refine sX ?_
     refine Nb ?_
     intro K hK
     have wex:IntKind.i64.wrap (IntKind.i64.wrap ((1-(u:Int))-((Qw 4:Nat):Int))+((Qw 10:Nat):Int))=((1+1023-15-u:Nat):Int):=by
      rw[show Qw 4=15 from rfl,show Qw 10=1023 from rfl,EC ((1-(u:Int))-((15:Nat):Int)) oM,EC _ oM];omega
     rw[wex,m.out]
     refine(Qr (Kh 52 11 64 s (1+1023-15-u) (g<<<42) _ oM oM c oM a3)).mono ?_
     exact Tt
    ·rw[Qa c3]at j;have HQ:=Qc j;clear j;have k2:((e:Int)==0)=false:=by rw[X6];omega
     clear c2 c3;go_wp2_with(first
    | (refine Oa ?_;intro w1 hk1)
    | (refine Cu ?_)
    | (go_at_call 204;refine(V0 _).mono ?_;rintro x w' ⟨rfl,rfl⟩)
    | (go_at_call 213;refine(Vu 10 5 16 b _ oM oM oM hb).mono ?_;rintro x w2 ⟨rfl,q⟩;rw[HS.out,HE.out,HF.out];have hbf:=q.same w1.heap.size _ (show _=some (.cells #[.int .i64 10,.int .i64 5,.int .i64 16] 215 (0,0)) from BR) trivial;have f0:=Q1 hbf;have hbt:=q.same (w1.heap.size+1+1+1) _ (show _=some (.cells #[.int .i64 52,.int .i64 11,.int .i64 64] 215 (0,0)) from BR) trivial;have g0:=Q1 hbt)
    | (go_at_call 210;refine(Xk 5 _ oM).mono ?_;rintro x w' ⟨rfl,h9⟩;replace h9:=h9.symm;subst h9))
     refine nL ?_
     intro hS0
     repeat refine sX ?_
     refine Nb ?_
     intro K hK
     refine(Qr (Gp 10 5 16 _ oM oM)).mono ?_
     rintro x w' ⟨rfl,rfl⟩
     refine nM ?_
     intro hc1 hc2 r0
     clear hK K
     repeat refine sX ?_
     refine Nb ?_
     intro K hK
     refine Tr ?_
     rintro x w' ⟨rfl,rfl⟩
     refine Ts ?_
     clear hK K
     repeat refine sX ?_
     refine Nb ?_
     intro K hK
     have wex:IntKind.i64.wrap (IntKind.i64.wrap ((e:Int)-((Qw 4:Nat):Int))+((Qw 10:Nat):Int))=((e+1023-15:Nat):Int):=by
      rw[show Qw 4=15 from rfl,show Qw 10=1023 from rfl,EC ((e:Int)-((15:Nat):Int)) oM,EC _ oM];omega
     rw[wex,p.out]
     refine(Qr (Kh 52 11 64 s (e+1023-15) (f<<<42) _ oM oM c oM d)).mono ?_
     exact Tt
def Ob{P Q:Prop}(h:Q)(f:Wz Q->P:=by
 intro zz;go_at_call 212;refine(Qhz _).mono ?_;rintro x w1 ⟨rfl,hk1⟩;revert w1 hk1;exact zz.o):P:=f ⟨h⟩
def nN{P Q:Prop}(h:Q)(f:Wz Q->P:=by
 intro zz;have hS0:w2.heap[w1.heap.size]? =some (.cells #[.int .i64 23,.int .i64 8,.int .i64 32] 215 (0,0))/\w2.heap[w1.heap.size+1+1+1]? =some (.cells #[.int .i64 52,.int .i64 11,.int .i64 64] 215 (0,0)):=⟨hbf,hbt⟩;refine(Vd (n:=0)).1 ?_;refine Zq (n:=0) (fun X=>X.heap[w1.heap.size]? =some (.cells #[.int .i64 23,.int .i64 8,.int .i64 32] 215 (0,0))/\X.heap[w1.heap.size+1+1+1]? =some (.cells #[.int .i64 52,.int .i64 11,.int .i64 64] 215 (0,0))) reads (fun _=>trivial) rfl kM kM hS0 ?_;revert hS0;exact zz.o):P:=f ⟨h⟩
def nO{P Q:Prop}(h:Q)(f:Wz Q->P:=by
 intro zz;refine hK _ _ ⟨Qb (w:=w2.drew) hbf,Qb (w:=w2.drew) hbt⟩ ?_;have hc1:=Qb (w:=w2) (o:=.cells #[.int .i64 23,.int .i64 8,.int .i64 32] 215) hbf;have hc2:=Qb (w:=w2) (o:=.cells #[.int .i64 23,.int .i64 8,.int .i64 32] 215) hbt;have r0:=Q1 hc2;revert hc1 hc2 r0;exact zz.o):P:=f ⟨h⟩
def aN(b:Nat)(w:Qm)(hb:b<18446744073709551616):Calls prog 181 #[.int .u64 b,.int .i64 32] w fun e w'=>e=.returned (.tuple #[.int .u64 ((Kx b 32).1:Nat),.int .i64 (Kx b 32).2])/\Qd w w':=by
 by_cases z:32<Zl b
 ·have k:Kx b 32=(0,2):=by show(if 32<Zl b then _ else _)=_;rw[Qe z]
  have hl:decide ((32:Int)< ((Lib.bitLen b:Nat):Int))=true:=by rw[<-Gq b hb];simp;omega
  have r:=Qc k;clear k z;go_in;go_wp2_with(first
   | (refine Ob ?_;intro w1 hk1)
   | (refine Cu ?_))
  go_ret2;exact⟨by rw[r.out];rfl,Xd⟩
 ·have hl:decide ((32:Int)< ((Lib.bitLen b:Nat):Int))=false:=by rw[<-Gq b hb];simp;omega
  obtain⟨s,hs⟩:=X0 (b>>>(32-1)&&&1);obtain⟨e,he⟩:=X0 (b>>>23&&&Qw 8);obtain⟨f,hf⟩:=X0 (b&&&Qw 23);have c:s<=1:=by rw[<-hs];exact Yt
  have a7:e<=255:=by rw[<-he];exact Yt
  have a0:f<=8388607:=by rw[<-hf];exact Yt
  have k:Kx b 32=(if e=255 then(Kg 52 64 s 2047 (f<<<29),(0:Int))else if e=0/\f=0 then(Kg 52 64 s 0 0,0)else if e=0 then(Kg 52 64 s (1+1023-127-(23+1-Zl f)) ((f<<<(23+1-Zl f)&&&Qw 23)<<<29),0)else(Kg 52 64 s (e+1023-127) (f<<<29),0)):=by
   show(if 32<Zl b then _ else _)=_;rw[Qa z,<-hs,<-he,<-hf];rfl
  have y:f<<<29=f*536870912:=by rw[Y5]
  have d:f<<<29<18446744073709551616:=by rw[y];omega
  have m:IntKind.u64.wrap ((f:Int)*536870912)=((f<<<29:Nat):Int):=by rw[y,<-X7 (x:=((f*536870912:Nat):Int)) oM oM];rfl
  have HS:=Qc hs;have HE:=Qc he;have HF:=Qc hf;have r:=Qc k;have o1:Qw 8=255:=dM;have o2:Qw 11=2047:=dM;have p:=Qc m;clear k z hs he hf y m;go_in;by_cases c1:e=255
  ·have k1:((e:Int)==255)=true:=by simp;omega
   have j:Kx b 32=(Kg 52 64 s 2047 (f<<<29),0):=by rw[r.out,Qe c1]
   have HQ:=Qc j;clear j c1;go_wp2_with(first
    | (refine Ob ?_;intro w1 hk1)
    | (refine Cu ?_)
    | (go_at_call 204;refine(V0 _).mono ?_;rintro x w' ⟨rfl,rfl⟩)
    | (go_at_call 213;refine(Vu 23 8 32 b _ oM oM oM hb).mono ?_;rintro x w2 ⟨rfl,q⟩;rw[HS.out,HE.out,HF.out];have hbf:=q.same w1.heap.size _ (show _=some (.cells #[.int .i64 23,.int .i64 8,.int .i64 32] 215 (0,0)) from BR) trivial;have f0:=Q1 hbf;have hbt:=q.same (w1.heap.size+1+1+1) _ (show _=some (.cells #[.int .i64 52,.int .i64 11,.int .i64 64] 215 (0,0)) from BR) trivial;have g0:=Q1 hbt)
    | (go_at_call 210;refine(Xk 8 _ oM).mono ?_;rintro x w' ⟨rfl,h9⟩;replace h9:=h9.symm;subst h9))
   go_region_with (first
    | (go_at_call 210;refine(Xk 11 _ oM).mono ?_;rintro x w' ⟨rfl,h9⟩;replace h9:=h9.symm;subst h9)
    | (go_at_call 208;rw[show IntKind.i64.wrap 2047=2047 from rfl,p.out];refine(Kh 52 11 64 s 2047 (f<<<29) _ oM oM c oM d).mono ?_;rintro x w3 ⟨rfl,hk3⟩))
   all_goals go_wp2
   all_goals go_ret2
   all_goals exact⟨by rw[HQ.out];rfl,Xd⟩
  ·have k1:((e:Int)==255)=false:=by rw[X6];omega
   have j:=r.out;rw[Qa c1]at j;clear c1;by_cases c2:e=0/\f=0
   ·rw[Qe c2]at j;have HQ:=Qc j;clear j;have k2:((e:Int)==0)=true:=by simp;omega
    have k3:((f:Int)==0)=true:=by simp;omega
    clear c2;go_wp2_with(first
    | (refine Ob ?_;intro w1 hk1)
    | (refine Cu ?_)
    | (go_at_call 204;refine(V0 _).mono ?_;rintro x w' ⟨rfl,rfl⟩)
    | (go_at_call 213;refine(Vu 23 8 32 b _ oM oM oM hb).mono ?_;rintro x w2 ⟨rfl,q⟩;rw[HS.out,HE.out,HF.out];have hbf:=q.same w1.heap.size _ (show _=some (.cells #[.int .i64 23,.int .i64 8,.int .i64 32] 215 (0,0)) from BR) trivial;have f0:=Q1 hbf;have hbt:=q.same (w1.heap.size+1+1+1) _ (show _=some (.cells #[.int .i64 52,.int .i64 11,.int .i64 64] 215 (0,0)) from BR) trivial;have g0:=Q1 hbt)
    | (go_at_call 210;refine(Xk 8 _ oM).mono ?_;rintro x w' ⟨rfl,h9⟩;replace h9:=h9.symm;subst h9)
    | (go_at_call 208;refine(Kh 52 11 64 s 0 0 _ oM oM c oM oM).mono ?_;rintro x w3 ⟨rfl,hk3⟩))
    go_ret2;exact⟨by rw[HQ.out];rfl,Xd⟩
   ·rw[Qa c2]at j;by_cases c3:e=0
    ·rw[Qe c3]at j;have HQ:=Qc j;clear j;have k2:((e:Int)==0)=true:=by simp;omega
     have k3:((f:Int)==0)=false:=by rw[X6];omega
     have a1:0<f:=oM;have t:=Gq f oM;have a4:=ED 23 f oM;have a2:=Un f a1;obtain⟨u,hu⟩:=X0 (23+1-Zl f);have a5:1<=u/\u<=23:=oM;have a8:((23:Int)+1-((Lib.bitLen f:Nat):Int))=(u:Int):=by rw[<-t];omega
     have a6:((24:Int)-((Lib.bitLen f:Nat):Int))=(u:Int):=by rw[<-t];omega
     have HU:=Qc hu;clear hu t a4 a2;go_wp2_with(first
    | (refine Ob ?_;intro w1 hk1)
    | (refine Cu ?_)
    | (go_at_call 204;refine(V0 _).mono ?_;rintro x w' ⟨rfl,rfl⟩)
    | (go_at_call 213;refine(Vu 23 8 32 b _ oM oM oM hb).mono ?_;rintro x w2 ⟨rfl,q⟩;rw[HS.out,HE.out,HF.out];have hbf:=q.same w1.heap.size _ (show _=some (.cells #[.int .i64 23,.int .i64 8,.int .i64 32] 215 (0,0)) from BR) trivial;have f0:=Q1 hbf;have hbt:=q.same (w1.heap.size+1+1+1) _ (show _=some (.cells #[.int .i64 52,.int .i64 11,.int .i64 64] 215 (0,0)) from BR) trivial;have g0:=Q1 hbt)
    | (go_at_call 210;refine(Xk 8 _ oM).mono ?_;rintro x w' ⟨rfl,h9⟩;replace h9:=h9.symm;subst h9))
     go_upto_region 14 with fail
     go_quiet (first| (go_at_call_of 207 (Value.int IntKind.u64 f);exact FB (bits_Len64 f _ oM oM)))
     generalize n:w2.drewN nq=w2'
     have v:Qd w2 w2':=by rw[<-n];exact Xd
     clear n
     replace q:=q.trans v
     replace hbf:=v.s hbf
     replace hbt:=v.s hbt
     clear v f0 g0 w2
     refine Tq ?_
     intro f0 g0 w2 hz2
     subst hz2
     go_upto_region 15 with fail
     go_quiet (first| (go_at_call_of 210 (Value.int IntKind.i64 23);exact FB (Xk 23 _ oM)))
     have gb:bits .and .u64 (IntKind.u64.wrap ((f:Int)*2^u)) ((Qw 23:Nat):Int)=((f<<<u&&&Qw 23:Nat):Int):=by
      have p1:(2:Nat)^u<=2^23:=Rj dM a5.2;have p2:f*2^u<18446744073709551616:=Cf (Nat.mul_lt_mul_of_lt_of_le (Nat.lt_succ_of_le a0) p1 dM) dM;have p3:((f:Int)*2^u)=((f*2^u:Nat):Int):=by push_cast;rfl
      rw[p3,X7 oM oM,Y5,FL _ _ p2 dM]
     rw[gb]
     clear gb
     have gr:Kx b 32=(Kg 52 64 s (1+1023-127-u) ((f<<<u&&&Qw 23)<<<29),0):=by rw[HQ.out,HU.out]
     clear HQ
     have HQ:=Qc gr
     clear gr
     obtain⟨g,hg⟩:=X0 (f<<<u&&&Qw 23)
     have a9:g<=8388607:=by rw[<-hg];exact Yt
     rw[hg]
     rw[hg]at HQ
     clear hg
     have y:g<<<29=g*536870912:=by rw[Y5]
     have a3:g<<<29<18446744073709551616:=by rw[y];omega
     have m:IntKind.u64.wrap ((g:Int)*536870912)=((g<<<29:Nat):Int):=by rw[y,<-X7 (x:=((g*536870912:Nat):Int)) oM oM];rfl
     replace m:=Qc m
     clear y
     generalize n:w2.drewN nq=w2'
     have v:Qd w2 w2':=by rw[<-n];exact Xd
     clear n
     replace q:=q.trans v
     replace hbf:=v.s hbf
     replace hbt:=v.s hbt
     clear v f0 g0 w2
     refine Tq ?_
     intro f0 g0 w2 hz2
     subst hz2
     go_wp2
     refine nN ?_
     intro hS0
     repeat refine sX ?_
     refine Nb ?_
     intro K hK
     refine(Qr (Gp 23 8 32 _ oM oM)).mono ?_
     rintro x w' ⟨rfl,rfl⟩
     refine nO ?_
     intro hc1 hc2 r0
     clear hK K
     repeat refine sX ?_
     refine Nb ?_
     intro K hK
     refine Tr ?_
     rintro x w' ⟨rfl,rfl⟩
     refine Ts ?_
     clear hK K
     repeat refine sX ?_
     refine Nb ?_
     intro K hK
     have wex:IntKind.i64.wrap (IntKind.i64.wrap ((1-(u:Int))-((Qw 7:Nat):Int))+((Qw 10:Nat):Int))=((1+1023-127-u:Nat):Int):=by
      rw[show Qw 7=127 from rfl,show Qw 10=1023 from rfl,EC ((1-(u:Int))-((127:Nat):Int)) oM,EC _ oM];omega
     rw[wex,m.out]
     refine(Qr (Kh 52 11 64 s (1+1023-127-u) (g<<<29) _ oM oM c oM a3)).mono ?_
     exact Tt
    ·rw[Qa c3]at j;have HQ:=Qc j;clear j;have k2:((e:Int)==0)=false:=by rw[X6];omega
     clear c2 c3;go_wp2_with(first
    | (refine Ob ?_;intro w1 hk1)
    | (refine Cu ?_)
    | (go_at_call 204;refine(V0 _).mono ?_;rintro x w' ⟨rfl,rfl⟩)
    | (go_at_call 213;refine(Vu 23 8 32 b _ oM oM oM hb).mono ?_;rintro x w2 ⟨rfl,q⟩;rw[HS.out,HE.out,HF.out];have hbf:=q.same w1.heap.size _ (show _=some (.cells #[.int .i64 23,.int .i64 8,.int .i64 32] 215 (0,0)) from BR) trivial;have f0:=Q1 hbf;have hbt:=q.same (w1.heap.size+1+1+1) _ (show _=some (.cells #[.int .i64 52,.int .i64 11,.int .i64 64] 215 (0,0)) from BR) trivial;have g0:=Q1 hbt)
    | (go_at_call 210;refine(Xk 8 _ oM).mono ?_;rintro x w' ⟨rfl,h9⟩;replace h9:=h9.symm;subst h9))
     refine nN ?_
     intro hS0
     repeat refine sX ?_
     refine Nb ?_
     intro K hK
     refine(Qr (Gp 23 8 32 _ oM oM)).mono ?_
     rintro x w' ⟨rfl,rfl⟩
     refine nO ?_
     intro hc1 hc2 r0
     clear hK K
     repeat refine sX ?_
     refine Nb ?_
     intro K hK
     refine Tr ?_
     rintro x w' ⟨rfl,rfl⟩
     refine Ts ?_
     clear hK K
     repeat refine sX ?_
     refine Nb ?_
     intro K hK
     have wex:IntKind.i64.wrap (IntKind.i64.wrap ((e:Int)-((Qw 7:Nat):Int))+((Qw 10:Nat):Int))=((e+1023-127:Nat):Int):=by
      rw[show Qw 7=127 from rfl,show Qw 10=1023 from rfl,EC ((e:Int)-((127:Nat):Int)) oM,EC _ oM];omega
     rw[wex,p.out]
     refine(Qr (Kh 52 11 64 s (e+1023-127) (f<<<29) _ oM oM c oM d)).mono ?_
     exact Tt
def Qdr{P Q:Prop}(h:Q)(f:Wz Q->P:=by
 intro zz;go_at_call 207;refine(bits_Len64 b _ oM oM).mono ?_;rintro x w' ⟨rfl,h9⟩;replace h9:=h9.symm;subst h9;rw[Ig];exact zz.o):P:=f ⟨h⟩
def aO(b:Nat)(w:Qm)(hb:b<18446744073709551616):Calls prog 181 #[.int .u64 b,.int .i64 64] w fun e w'=>e=.returned (.tuple #[.int .u64 (b:Nat),.int .i64 0])/\Qd w w':=by
 have c:decide ((64:Int)< ((Lib.bitLen b:Nat):Int))=false:=by rw[<-Gq b hb];have:=ED 64 b hb;simp;omega
 obtain⟨s,m⟩:=X0 (b>>>(64-1)&&&1);obtain⟨e,q⟩:=X0 (b>>>52&&&Qw 11);obtain⟨f,z⟩:=X0 (b&&&Qw 52);replace m:=Qc m;replace q:=Qc q;replace z:=Qc z;go_in;go_wp2_with(first
    | (go_at_call 212;refine(Qh0 _).mono ?_;rintro x n ⟨rfl,u⟩)
    | (refine Qdr ?_)
    | (go_at_call 204;refine(V0 _).mono ?_;rintro x w' ⟨rfl,rfl⟩)
    | (go_at_call 213;refine(Vu 52 11 64 b _ oM oM oM hb).mono ?_;rintro x d ⟨rfl,j⟩;rw[m.out,q.out,z.out];have y:=j.same n.heap.size _ (show _=some (.cells #[i6 52,i6 11,i6 64] 215 (0,0)) from Qb (Qb (Qb (Ql sM)))) trivial;have t:=Q1 y;have v:=j.same (n.heap.size+1+1+1) _ (show _=some (.cells #[i6 52,i6 11,i6 64] 215 (0,0)) from Ql sM) trivial;have k:=Q1 v)
    | (go_at_call 210;refine(Xk 11 _ oM).mono ?_;rintro x w' ⟨rfl,h9⟩;replace h9:=h9.symm;subst h9))
 go_ret2;exact⟨rfl,Xd⟩
def XA(b:Nat)(x:Int)(w:Qm)(hx:Gf x=none):Calls prog 181 #[.int .u64 b,.int .i64 x] w fun e w'=>e=.returned (.tuple #[.int .u64 (0:Nat),.int .i64 2])/\Qd w w':=by
 have j:Calls prog 212 #[i6 x] w fun e w'=>e=.returned (.tuple #[.agg #[i6 0,i6 0,i6 0],.bool false])/\Qd w w':=(Um x w).mono fun e w' h=>by rw[hx]at h;exact h
 go_in;go_wp2_with(first
    | (go_at_call 212;refine j.mono ?_;rintro x v ⟨rfl,q⟩))
 go_ret2;exact⟨rfl,Xd⟩
def Ps(b:Nat)(x:Int)(w:Qm)(hb:b<18446744073709551616):Calls prog 181 #[.int .u64 b,.int .i64 x] w fun e w'=>e=.returned (.tuple #[.int .u64 ((Kx b x).1:Nat),.int .i64 (Kx b x).2])/\Qd w w':=by
 by_cases j:x=16
 ·subst j;exact aM b w hb
 by_cases q:x=32
 ·subst q;exact aN b w hb
 by_cases v:x=64
 ·subst v;have:Kx b 64=(b,0):=by
   show(if 64<Zl b then _ else _)=_;rw[Qa (by have:=ED 64 b hb;omega)];rfl
  rw[this];exact aO b w hb
 have y:Gf x=none:=by unfold Gf;rw[Qa j,Qa q,Qa v]
 have:Kx b x=(0,2):=by unfold Kx;rw[y]
 rw[this];exact XA b x w y
def xK{P Q:Prop}(h:Q)(f:Wz Q->P:=by
 intro zz;go_at_call 204;refine(V0 _).mono ?_;rintro x w' ⟨rfl,h9⟩;replace h9:=h9.symm;subst h9;exact zz.o):P:=f ⟨h⟩
def Uo(b:Nat)(x:Int)(w:Qm)(hx:Gf x=none):Calls prog 130 #[.int .u64 b,.int .i64 x] w fun e w'=>e=.returned (.tuple #[.int .u64 (0:Nat),.bool false])/\Qd w w':=by
 go_in;go_wp2;refine Ip (rest:=?rest) 0 (fun a w'=>a.tmps.size=119/\a.defers=[]/\Qd w w') (fun _ _=>0) ?hf ?_ ?_
 case hf=>rfl
 ·go_wp2_with(first
    | (refine xK ?_)
    | (go_at_call 212;refine(Um x _).mono ?_;rintro x v ⟨rfl,q⟩;rw[hx]))
  refine Ni ?_;exact⟨rfl,rfl,rfl,Xd⟩
 ·rintro a v ⟨y,hd,j⟩;go_wp2;simp only[Exit.jump];go_ret2;exact⟨by simp[Array.getD,y],j⟩
def nP{P Q:Prop}(h:Q)(f:Wz Q->P:=by
 intro zz;obtain⟨e,he⟩:=X0 (b>>>52&&&Qw 11);obtain⟨f,hf⟩:=X0 (b&&&Qw 52);revert e he f hf;exact zz.o):P:=f ⟨h⟩
def nQ{P Q:Prop}(h:Q)(f:Wz Q->P:=by
 intro zz;have HS:=Qc hs;have HE:=Qc he;have HF:=Qc hf;have HR:=Qc hr;revert HS HE HF HR;exact zz.o):P:=f ⟨h⟩
def Tu{P Q:Prop}(h:Q)(f:Wz Q->P:=by
 intro zz;refine TL rfl rfl ?_;intro K hK;go_simp;revert K hK;exact zz.o):P:=f ⟨h⟩
def nS{P Q:Prop}(h:Q)(f:Wz Q->P:=by
 intro zz;refine(Qr (Gp 52 11 64 _ oM oM)).mono ?_;exact zz.o):P:=f ⟨h⟩
def nT{P Q:Prop}(h:Q)(f:Wz Q->P:=by
 intro zz;refine hK _ _ ⟨Qb (w:=w2.drew) hbf,Qb (w:=w2.drew) hbt⟩ ?_;exact zz.o):P:=f ⟨h⟩
def nU{P Q:Prop}(h:Q)(f:Wz Q->P:=by
 intro zz;have hc1:=Qb (w:=w2) (o:=.cells #[i6 52,i6 11,i6 64] 215) hbf;have hc2:=Qb (w:=w2) (o:=.cells #[i6 52,i6 11,i6 64] 215) hbt;have r0:=Q1 hc1;revert hc1 hc2 r0;exact zz.o):P:=f ⟨h⟩
def nV{P Q:Prop}(h:Q)(f:Wz Q->P:=by
 intro zz;refine hK _ _ ⟨Qb hc1,Qb hc2⟩ ?_;exact zz.o):P:=f ⟨h⟩
def YF{P:Prop}(h:P:=by
 have hz:(bits .and .u64 ((f:Nat):Int) ((Qw (42):Nat):Int)==0)=false:=by rw[FL _ _ oM (Jl (Rl _ oM) dM),X6];omega
 have hq:Xx b 16=(0,false):=by rw[HQ.out];unfold X2;rw[Qe cz]
 clear HQ cz;go_wp2_with(first| (go_at_call 210;refine(Xk (42) _ oM).mono ?_;rintro x w' ⟨rfl,h9⟩;replace h9:=h9.symm;subst h9));refine Ni ?_;exact⟨rfl,rfl,rfl,Xd,hq⟩):P:=h
def YG{P:Prop}(h:P:=by
 go_wp2_with(first| (go_at_call 210;first| (refine(Xk 11 _ oM).mono ?_;rintro x w' ⟨rfl,h9⟩;replace h9:=h9.symm;subst h9)| (refine(Xk 5 _ oM).mono ?_;rintro x w' ⟨rfl,h9⟩;replace h9:=h9.symm;subst h9)));refine Ni ?_;exact⟨rfl,rfl,rfl,Xd,hq⟩):P:=h
def nW{P Q:Prop}(h:Q)(f:Wz Q->P:=by
 intro zz;have gb:bits .or .u64 (f:Int) 4503599627370496=((f|||4503599627370496:Nat):Int):=bor f 4503599627370496 oM oM;rw[gb];clear gb;have hg:f|||4503599627370496<2^53:=Uj oM oM;generalize hg2:f|||4503599627370496=g;revert hg g hg2;exact zz.o):P:=f ⟨h⟩
def nX{P Q:Prop}(h:Q)(f:Wz Q->P:=by
 intro zz;have hres:=Qc hq;have hsr:@HDiv.hDiv Int Int Int _ ((g:Nat):Int) (2^L:Int)=((g>>>(L):Nat):Int):=by exact G7 _ _
 replace hsr:=Qc hsr;revert hres hsr;exact zz.o):P:=f ⟨h⟩
def nY{P:Prop}(h:P:=by
 clear hres cz;go_wp2_with(first| (go_at_call 210;refine(Xk (L) _ oM).mono ?_;rintro x w' ⟨rfl,h9⟩;replace h9:=h9.symm;subst h9));refine Ni ?_;exact⟨rfl,rfl,rfl,Xd,hq⟩):P:=h
def nZ{P:Prop}(h:P:=by
 rintro a w1 ⟨hs,hd,hk,hn⟩;go_wp2;simp only[Exit.jump];go_ret2;exact⟨by rw[hn];simp[Array.getD,hs],hk⟩):P:=h
def YH(b:Nat)(w:Qm)(hb:b<18446744073709551616):Calls prog 130 #[.int .u64 b,.int .i64 16] w fun e w'=>e=.returned (.tuple #[.int .u64 ((Xx b 16).1:Nat),.bool (Xx b 16).2])/\Qd w w':=by
 obtain⟨s,hs⟩:=X0 (b>>>63&&&1);refine nP ?_;intro e he f hf;have u:s<=1:=by rw[<-hs];exact Yt
 have a8:e<=2047:=by rw[<-he];exact Yt
 have ab:f<=4503599627370495:=by rw[<-hf];exact Yt
 obtain⟨E,hE⟩:∃E:Int,(e:Int)-1023+15=E:=⟨_,rfl⟩;have hr:Xx b 16=(if e=2047 then X2 10 16 s 31 f 42 else if e=0/\f=0 then X2 10 16 s 0 0 42 else if 0<E/\E<31 then X2 10 16 s E.toNat f 42 else if 0<e/\E<=0/\ -10<E then X2 10 16 s 0 (f|||2^52) (42+1-E).toNat else(0,false)):=by
  rw[<-hE,<-hs,<-he,<-hf];rfl
 refine nQ ?_;intro HS HE HF HR;have o1:Qw 5=31:=dM;have o2:Qw 11=2047:=dM;clear hr hs he hf;go_in;go_wp2;refine Ip (rest:=?rest) 0 (fun a w'=>a.tmps.size=119/\a.defers=[]/\Qd w w'/\Xx b 16=(0,false)) (fun _ _=>0) ?hf ?_ ?_
 case hf=>rfl
 ·go_wp2_with(first
    | (go_at_call 204;refine(V0 _).mono ?_;rintro x w' ⟨rfl,h9⟩;replace h9:=h9.symm;subst h9)
    | (go_at_call 212;refine(Qhy _).mono ?_;rintro x w1 ⟨rfl,a7⟩;have d:=a7.same (w.heap.size+1+1) _ (show _=some (.cells #[i6 52,i6 11,i6 64] 215 (0,0)) from Ql sM) trivial;have g0:=Q1 (Qb (o:=.cells #[i6 10,i6 5,i6 16] 215) d))
    | (go_at_call 213;refine(Vu 52 11 64 b _ oM oM oM hb).mono ?_;rintro x w2 ⟨rfl,a1⟩;rw[show 64-1=63 from rfl,HS.out,HE.out,HF.out];have hbt:=a1.same (w.heap.size+1+1) _ (show _=some (.cells #[i6 52,i6 11,i6 64] 215 (0,0)) from Qb d) trivial;have hbf:=a1.same w1.heap.size _ (show _=some (.cells #[i6 10,i6 5,i6 16] 215 (0,0)) from Ql sM) trivial;have f0:=Q1 hbf;clear g0;have g0:=Q1 hbt))
  have a0:w2.heap[w1.heap.size]? =some (.cells #[i6 10,i6 5,i6 16] 215 (0,0))/\w2.heap[w.heap.size+1+1]? =some (.cells #[i6 52,i6 11,i6 64] 215 (0,0)):=⟨hbf,hbt⟩;refine(Vd (n:=0)).1 ?_;refine Zq (n:=0) (fun X=>X.heap[w1.heap.size]? =some (.cells #[i6 10,i6 5,i6 16] 215 (0,0))/\X.heap[w.heap.size+1+1]? =some (.cells #[i6 52,i6 11,i6 64] 215 (0,0))) reads (fun _=>trivial) rfl kM kM a0 ?_;repeat refine sX ?_
  refine Tu ?_;intro K hK;refine nS ?_;rintro x w' ⟨rfl,rfl⟩;refine nT ?_;clear hK K;refine nU ?_;intro hc1 hc2 r0;repeat refine sX ?_
  refine Tu ?_;intro K hK;refine(Qr (Gp 10 5 16 _ oM oM)).mono ?_;rintro x w' ⟨rfl,rfl⟩;refine nV ?_;clear hK K;repeat refine sX ?_
  refine H7 ?_;have wE:IntKind.i64.wrap (IntKind.i64.wrap ((e:Int)-((Qw 10:Nat):Int))+((Qw 4:Nat):Int))=E:=by
   rw[show Qw 4=15 from rfl,show Qw 10=1023 from rfl,EC ((e:Int)-((1023:Nat):Int)) oM,EC _ oM];omega
  rw[wE];clear wE r0 f0 g0 a0;generalize a2:World.drew _=w3;have y:Qd w2 w3:=by rw[<-a2];exact Xd
  clear a2 hc1 hc2;replace hbf:=y.s hbf;replace hbt:=y.s hbt;have f0:=Q1 hbf;have g0:=Q1 hbt;by_cases c:e=2047
  ·have k1:((e:Int)==2047)=true:=by simp;omega
   have hres:Xx b 16=X2 10 16 s 31 f 42:=by rw[HR.out,Qe c]
   have HQ:=Qc hres;clear hres c;go_wp2_with(first| (go_at_call 210;first| (refine(Xk 11 _ oM).mono ?_;rintro x w' ⟨rfl,h9⟩;replace h9:=h9.symm;subst h9)| (refine(Xk 5 _ oM).mono ?_;rintro x w' ⟨rfl,h9⟩;replace h9:=h9.symm;subst h9)));have p:f<=9007199254740991:=oM;have t:42<=52:=oM;by_cases cz:f&&&Qw (42)=0
   ·have hz:(bits .and .u64 ((f:Nat):Int) ((Qw (42):Nat):Int)==0)=true:=by rw[FL _ _ oM (Jl (Rl _ oM) dM),cz];rfl
    have hq:Xx b 16=(Kg 10 16 s (31) (f>>>(42)),true):=by rw[HQ.out];unfold X2;rw[Qa (by rw[cz];simp)]
    clear HQ cz;have HQ:=Qc hq;clear hq;have hsr:@HDiv.hDiv Int Int Int _ ((f:Nat):Int) (4398046511104:Int)=((f>>>(42):Nat):Int):=by have h:=G7 (f) (42);rw[show((2:Int)^42)=4398046511104 from dM]at h;exact h
    have q:=Qc hsr;clear hsr;go_wp2_with(first| (go_at_call 210;refine(Xk (42) _ oM).mono ?_;rintro x w' ⟨rfl,h9⟩;replace h9:=h9.symm;subst h9));go_region_with (first
     | (go_at_call 208;rw[q.out];refine(Kh 10 5 16 s (31) (f>>>(42)) _ oM oM u oM (Jl (Dx _ _) oM)).mono ?_;rintro x w4 ⟨rfl,r⟩))
    all_goals go_wp2
    all_goals simp only[Exit.jump]
    all_goals go_ret2
    all_goals exact⟨by rw[HQ.out];rfl,Xd⟩
   ·exact YF
  ·have k1:((e:Int)==2047)=false:=by rw[X6];omega
   have hres:=HR.out;rw[Qa c]at hres;by_cases v:e=0/\f=0
   ·have j:Xx b 16=X2 10 16 s e f 42:=by rw[hres,Qe v,v.1,v.2]
    have HQ:=Qc j;have k2:((e:Int)==0)=true:=by simp;omega
    have k3:((f:Int)==0)=true:=by simp;omega
    clear hres j c v;go_wp2_with(first| (go_at_call 210;first| (refine(Xk 11 _ oM).mono ?_;rintro x w' ⟨rfl,h9⟩;replace h9:=h9.symm;subst h9)| (refine(Xk 5 _ oM).mono ?_;rintro x w' ⟨rfl,h9⟩;replace h9:=h9.symm;subst h9)));have p:f<=9007199254740991:=oM;have t:42<=52:=oM;by_cases cz:f&&&Qw (42)=0
    ·have hz:(bits .and .u64 ((f:Nat):Int) ((Qw (42):Nat):Int)==0)=true:=by rw[FL _ _ oM (Jl (Rl _ oM) dM),cz];rfl
     have hq:Xx b 16=(Kg 10 16 s (e) (f>>>(42)),true):=by rw[HQ.out];unfold X2;rw[Qa (by rw[cz];simp)]
     clear HQ cz;have HQ:=Qc hq;clear hq;have hsr:@HDiv.hDiv Int Int Int _ ((f:Nat):Int) (4398046511104:Int)=((f>>>(42):Nat):Int):=by have h:=G7 (f) (42);rw[show((2:Int)^42)=4398046511104 from dM]at h;exact h
     have q:=Qc hsr;clear hsr;go_wp2_with(first| (go_at_call 210;refine(Xk (42) _ oM).mono ?_;rintro x w' ⟨rfl,h9⟩;replace h9:=h9.symm;subst h9));go_region_with (first
      | (go_at_call 208;rw[q.out];refine(Kh 10 5 16 s (e) (f>>>(42)) _ oM oM u oM (Jl (Dx _ _) oM)).mono ?_;rintro x w4 ⟨rfl,r⟩))
     all_goals go_wp2
     all_goals simp only[Exit.jump]
     all_goals go_ret2
     all_goals exact⟨by rw[HQ.out];rfl,Xd⟩
    ·exact YF
   ·rw[Qa v]at hres;by_cases k:0<E/\E<31
    ·rw[Qe k]at hres;obtain⟨n,hn⟩:∃n:Nat,E.toNat=n:=⟨_,rfl⟩;rw[hn]at hres;have a4:E=(n:Int):=oM;have HQ:=Qc hres;have HN:=Qc a4;have k4:decide (0<E)=true:=by simp;omega
     have k5:decide (E<31)=true:=by simp;omega
     have a9:n<31:=oM;have k2:((e:Int)==0)=false:=by rw[X6];omega
     clear hres c v k hn a4;go_wp2_with(first| (go_at_call 210;first| (refine(Xk 11 _ oM).mono ?_;rintro x w' ⟨rfl,h9⟩;replace h9:=h9.symm;subst h9)| (refine(Xk 5 _ oM).mono ?_;rintro x w' ⟨rfl,h9⟩;replace h9:=h9.symm;subst h9)));have p:f<=9007199254740991:=oM;have t:42<=52:=oM;by_cases cz:f&&&Qw (42)=0
     ·have hz:(bits .and .u64 ((f:Nat):Int) ((Qw (42):Nat):Int)==0)=true:=by rw[FL _ _ oM (Jl (Rl _ oM) dM),cz];rfl
      have hq:Xx b 16=(Kg 10 16 s (n) (f>>>(42)),true):=by rw[HQ.out];unfold X2;rw[Qa (by rw[cz];simp)]
      clear HQ cz;have HQ:=Qc hq;clear hq;have hsr:@HDiv.hDiv Int Int Int _ ((f:Nat):Int) (4398046511104:Int)=((f>>>(42):Nat):Int):=by have h:=G7 (f) (42);rw[show((2:Int)^42)=4398046511104 from dM]at h;exact h
      have q:=Qc hsr;clear hsr;go_wp2_with(first| (go_at_call 210;refine(Xk (42) _ oM).mono ?_;rintro x w' ⟨rfl,h9⟩;replace h9:=h9.symm;subst h9));go_region_with (first
       | (go_at_call 208;rw[q.out,HN.out];refine(Kh 10 5 16 s (n) (f>>>(42)) _ oM oM u oM (Jl (Dx _ _) oM)).mono ?_;rintro x w4 ⟨rfl,r⟩))
      all_goals go_wp2
      all_goals simp only[Exit.jump]
      all_goals go_ret2
      all_goals exact⟨by rw[HQ.out];rfl,Xd⟩
     ·exact YF
    ·rw[Qa k]at hres;by_cases d1:0<E
     ·have k4:decide (0<E)=true:=by simp;omega
      have k5:decide (E<31)=false:=by simp;omega
      have k2:((e:Int)==0)=false:=by rw[X6];omega
      have k6:decide (0<e)=true:=by simp;omega
      have k7:decide (E<=0)=false:=by simp;omega
      have hq:Xx b 16=(0,false):=by rw[hres,Qa oM]
      clear hres c v k d1;exact YG
     ·have k4:decide (0<E)=false:=by simp;omega
      have k7:decide (E<=0)=true:=by simp;omega
      by_cases d2:e=0
      ·have k2:((e:Int)==0)=true:=by simp;omega
       have k3:((f:Int)==0)=false:=by rw[X6];omega
       have k6:decide (0<e)=false:=by simp;omega
       have hq:Xx b 16=(0,false):=by rw[hres,Qa oM]
       clear hres c v k d1 d2;exact YG
      ·have k2:((e:Int)==0)=false:=by rw[X6];omega
       have k6:decide (0<e)=true:=by simp;omega
       by_cases d3: -10<E
       ·have k8:decide ((-10:Int)<E)=true:=by simp;omega
        obtain⟨L,hL⟩:∃L:Nat,(42+1-E).toNat=L:=⟨_,rfl⟩;rw[Qe oM,hL,show(2:Nat)^52=4503599627370496 from dM]at hres;have a6:((43:Int)-E)=(L:Int):=oM;have aa:L<=52:=oM;replace hres:=Qc hres;have HL:=Qc a6;clear c v k d1 d2 d3 hL;go_wp2_with(first| (go_at_call 210;first| (refine(Xk 11 _ oM).mono ?_;rintro x w' ⟨rfl,h9⟩;replace h9:=h9.symm;subst h9)| (refine(Xk 5 _ oM).mono ?_;rintro x w' ⟨rfl,h9⟩;replace h9:=h9.symm;subst h9)));go_quiet (fail);refine nW ?_;intro hg g hg2;rw[hg2]at hg hres;replace hg:g<=9007199254740991:=oM;clear hg2;generalize a3:w3.drewN nq=w3';have m:Qd w3 w3':=by rw[<-a3];exact Xd
        clear a3;replace y:=y.trans m;replace hbf:=m.s hbf;replace hbt:=m.s hbt;clear m f0 g0 w3;have f0:=Q1 hbf;have g0:=Q1 hbt;obtain⟨w3,a5⟩:∃z,z=w3':=⟨_,rfl⟩;subst a5;have p:g<=9007199254740991:=oM;have t:L<=52:=oM;by_cases cz:g&&&Qw (L)=0
        ·have hz:(bits .and .u64 ((g:Nat):Int) ((Qw (L):Nat):Int)==0)=true:=by rw[FL _ _ oM (Jl (Rl _ oM) dM),cz];rfl
         have hq:Xx b 16=(Kg 10 16 s (0) (g>>>(L)),true):=by rw[hres.out];unfold X2;rw[Qa (by rw[cz];simp)]
         clear hres cz;refine nX ?_;intro hres hsr;clear hq;go_wp2_with(first| (go_at_call 210;refine(Xk (L) _ oM).mono ?_;rintro x w' ⟨rfl,h9⟩;replace h9:=h9.symm;subst h9));go_region_with (first
          | (go_at_call 208;rw[hsr.out];refine(Kh 10 5 16 s (0) (g>>>(L)) _ oM oM u oM (Jl (Dx _ _) oM)).mono ?_;rintro x w4 ⟨rfl,r⟩))
         all_goals go_wp2
         all_goals simp only[Exit.jump]
         all_goals go_ret2
         all_goals exact⟨by rw[hres.out];rfl,Xd⟩
        ·have hz:(bits .and .u64 ((g:Nat):Int) ((Qw (L):Nat):Int)==0)=false:=by rw[FL _ _ oM (Jl (Rl _ oM) dM),X6];omega
         have hq:Xx b 16=(0,false):=by rw[hres.out];unfold X2;rw[Qe cz]
         exact nY
       ·have k8:decide ((-10:Int)<E)=false:=by simp;omega
        have hq:Xx b 16=(0,false):=by rw[hres,Qa oM]
        clear hres c v k d1 d2 d3;exact YG
 ·exact nZ
def YI{P:Prop}(h:P:=by
 have hz:(bits .and .u64 ((f:Nat):Int) ((Qw (29):Nat):Int)==0)=false:=by rw[FL _ _ oM (Jl (Rl _ oM) dM),X6];omega
 have hq:Xx b 32=(0,false):=by rw[HQ.out];unfold X2;rw[Qe cz]
 clear HQ cz;go_wp2_with(first| (go_at_call 210;refine(Xk (29) _ oM).mono ?_;rintro x w' ⟨rfl,h9⟩;replace h9:=h9.symm;subst h9));refine Ni ?_;exact⟨rfl,rfl,rfl,Xd,hq⟩):P:=h
def YJ{P:Prop}(h:P:=by
 go_wp2_with(first| (go_at_call 210;first| (refine(Xk 11 _ oM).mono ?_;rintro x w' ⟨rfl,h9⟩;replace h9:=h9.symm;subst h9)| (refine(Xk 8 _ oM).mono ?_;rintro x w' ⟨rfl,h9⟩;replace h9:=h9.symm;subst h9)));refine Ni ?_;exact⟨rfl,rfl,rfl,Xd,hq⟩):P:=h
def YK(b:Nat)(w:Qm)(hb:b<18446744073709551616):Calls prog 130 #[.int .u64 b,.int .i64 32] w fun e w'=>e=.returned (.tuple #[.int .u64 ((Xx b 32).1:Nat),.bool (Xx b 32).2])/\Qd w w':=by
 obtain⟨s,hs⟩:=X0 (b>>>63&&&1);refine nP ?_;intro e he f hf;have u:s<=1:=by rw[<-hs];exact Yt
 have a8:e<=2047:=by rw[<-he];exact Yt
 have ab:f<=4503599627370495:=by rw[<-hf];exact Yt
 obtain⟨E,hE⟩:∃E:Int,(e:Int)-1023+127=E:=⟨_,rfl⟩;have hr:Xx b 32=(if e=2047 then X2 23 32 s 255 f 29 else if e=0/\f=0 then X2 23 32 s 0 0 29 else if 0<E/\E<255 then X2 23 32 s E.toNat f 29 else if 0<e/\E<=0/\ -23<E then X2 23 32 s 0 (f|||2^52) (29+1-E).toNat else(0,false)):=by
  rw[<-hE,<-hs,<-he,<-hf];rfl
 refine nQ ?_;intro HS HE HF HR;have o1:Qw 8=255:=dM;have o2:Qw 11=2047:=dM;clear hr hs he hf;go_in;go_wp2;refine Ip (rest:=?rest) 0 (fun a w'=>a.tmps.size=119/\a.defers=[]/\Qd w w'/\Xx b 32=(0,false)) (fun _ _=>0) ?hf ?_ ?_
 case hf=>rfl
 ·go_wp2_with(first
    | (go_at_call 204;refine(V0 _).mono ?_;rintro x w' ⟨rfl,h9⟩;replace h9:=h9.symm;subst h9)
    | (go_at_call 212;refine(Qhz _).mono ?_;rintro x w1 ⟨rfl,a7⟩;have d:=a7.same (w.heap.size+1+1) _ (show _=some (.cells #[i6 52,i6 11,i6 64] 215 (0,0)) from Ql sM) trivial;have g0:=Q1 (Qb (o:=.cells #[i6 23,i6 8,i6 32] 215) d))
    | (go_at_call 213;refine(Vu 52 11 64 b _ oM oM oM hb).mono ?_;rintro x w2 ⟨rfl,a1⟩;rw[show 64-1=63 from rfl,HS.out,HE.out,HF.out];have hbt:=a1.same (w.heap.size+1+1) _ (show _=some (.cells #[i6 52,i6 11,i6 64] 215 (0,0)) from Qb d) trivial;have hbf:=a1.same w1.heap.size _ (show _=some (.cells #[i6 23,i6 8,i6 32] 215 (0,0)) from Ql sM) trivial;have f0:=Q1 hbf;clear g0;have g0:=Q1 hbt))
  have a0:w2.heap[w1.heap.size]? =some (.cells #[i6 23,i6 8,i6 32] 215 (0,0))/\w2.heap[w.heap.size+1+1]? =some (.cells #[i6 52,i6 11,i6 64] 215 (0,0)):=⟨hbf,hbt⟩;refine(Vd (n:=0)).1 ?_;refine Zq (n:=0) (fun X=>X.heap[w1.heap.size]? =some (.cells #[i6 23,i6 8,i6 32] 215 (0,0))/\X.heap[w.heap.size+1+1]? =some (.cells #[i6 52,i6 11,i6 64] 215 (0,0))) reads (fun _=>trivial) rfl kM kM a0 ?_;repeat refine sX ?_
  refine Tu ?_;intro K hK;refine nS ?_;rintro x w' ⟨rfl,rfl⟩;refine nT ?_;clear hK K;refine nU ?_;intro hc1 hc2 r0;repeat refine sX ?_
  refine Tu ?_;intro K hK;refine(Qr (Gp 23 8 32 _ oM oM)).mono ?_;rintro x w' ⟨rfl,rfl⟩;refine nV ?_;clear hK K;repeat refine sX ?_
  refine H7 ?_;have wE:IntKind.i64.wrap (IntKind.i64.wrap ((e:Int)-((Qw 10:Nat):Int))+((Qw 7:Nat):Int))=E:=by
   rw[show Qw 7=127 from rfl,show Qw 10=1023 from rfl,EC ((e:Int)-((1023:Nat):Int)) oM,EC _ oM];omega
  rw[wE];clear wE r0 f0 g0 a0;generalize a2:World.drew _=w3;have y:Qd w2 w3:=by rw[<-a2];exact Xd
  clear a2 hc1 hc2;replace hbf:=y.s hbf;replace hbt:=y.s hbt;have f0:=Q1 hbf;have g0:=Q1 hbt;by_cases c:e=2047
  ·have k1:((e:Int)==2047)=true:=by simp;omega
   have hres:Xx b 32=X2 23 32 s 255 f 29:=by rw[HR.out,Qe c]
   have HQ:=Qc hres;clear hres c;go_wp2_with(first| (go_at_call 210;first| (refine(Xk 11 _ oM).mono ?_;rintro x w' ⟨rfl,h9⟩;replace h9:=h9.symm;subst h9)| (refine(Xk 8 _ oM).mono ?_;rintro x w' ⟨rfl,h9⟩;replace h9:=h9.symm;subst h9)));have p:f<=9007199254740991:=oM;have t:29<=52:=oM;by_cases cz:f&&&Qw (29)=0
   ·have hz:(bits .and .u64 ((f:Nat):Int) ((Qw (29):Nat):Int)==0)=true:=by rw[FL _ _ oM (Jl (Rl _ oM) dM),cz];rfl
    have hq:Xx b 32=(Kg 23 32 s (255) (f>>>(29)),true):=by rw[HQ.out];unfold X2;rw[Qa (by rw[cz];simp)]
    clear HQ cz;have HQ:=Qc hq;clear hq;have hsr:@HDiv.hDiv Int Int Int _ ((f:Nat):Int) (536870912:Int)=((f>>>(29):Nat):Int):=by have h:=G7 (f) (29);rw[show((2:Int)^29)=536870912 from dM]at h;exact h
    have q:=Qc hsr;clear hsr;go_wp2_with(first| (go_at_call 210;refine(Xk (29) _ oM).mono ?_;rintro x w' ⟨rfl,h9⟩;replace h9:=h9.symm;subst h9));go_region_with (first
     | (go_at_call 208;rw[q.out];refine(Kh 23 8 32 s (255) (f>>>(29)) _ oM oM u oM (Jl (Dx _ _) oM)).mono ?_;rintro x w4 ⟨rfl,r⟩))
    all_goals go_wp2
    all_goals simp only[Exit.jump]
    all_goals go_ret2
    all_goals exact⟨by rw[HQ.out];rfl,Xd⟩
   ·exact YI
  ·have k1:((e:Int)==2047)=false:=by rw[X6];omega
   have hres:=HR.out;rw[Qa c]at hres;by_cases v:e=0/\f=0
   ·have j:Xx b 32=X2 23 32 s e f 29:=by rw[hres,Qe v,v.1,v.2]
    have HQ:=Qc j;have k2:((e:Int)==0)=true:=by simp;omega
    have k3:((f:Int)==0)=true:=by simp;omega
    clear hres j c v;go_wp2_with(first| (go_at_call 210;first| (refine(Xk 11 _ oM).mono ?_;rintro x w' ⟨rfl,h9⟩;replace h9:=h9.symm;subst h9)| (refine(Xk 8 _ oM).mono ?_;rintro x w' ⟨rfl,h9⟩;replace h9:=h9.symm;subst h9)));have p:f<=9007199254740991:=oM;have t:29<=52:=oM;by_cases cz:f&&&Qw (29)=0
    ·have hz:(bits .and .u64 ((f:Nat):Int) ((Qw (29):Nat):Int)==0)=true:=by rw[FL _ _ oM (Jl (Rl _ oM) dM),cz];rfl
     have hq:Xx b 32=(Kg 23 32 s (e) (f>>>(29)),true):=by rw[HQ.out];unfold X2;rw[Qa (by rw[cz];simp)]
     clear HQ cz;have HQ:=Qc hq;clear hq;have hsr:@HDiv.hDiv Int Int Int _ ((f:Nat):Int) (536870912:Int)=((f>>>(29):Nat):Int):=by have h:=G7 (f) (29);rw[show((2:Int)^29)=536870912 from dM]at h;exact h
     have q:=Qc hsr;clear hsr;go_wp2_with(first| (go_at_call 210;refine(Xk (29) _ oM).mono ?_;rintro x w' ⟨rfl,h9⟩;replace h9:=h9.symm;subst h9));go_region_with (first
      | (go_at_call 208;rw[q.out];refine(Kh 23 8 32 s (e) (f>>>(29)) _ oM oM u oM (Jl (Dx _ _) oM)).mono ?_;rintro x w4 ⟨rfl,r⟩))
     all_goals go_wp2
     all_goals simp only[Exit.jump]
     all_goals go_ret2
     all_goals exact⟨by rw[HQ.out];rfl,Xd⟩
    ·exact YI
   ·rw[Qa v]at hres;by_cases k:0<E/\E<255
    ·rw[Qe k]at hres;obtain⟨n,hn⟩:∃n:Nat,E.toNat=n:=⟨_,rfl⟩;rw[hn]at hres;have a4:E=(n:Int):=oM;have HQ:=Qc hres;have HN:=Qc a4;have k4:decide (0<E)=true:=by simp;omega
     have k5:decide (E<255)=true:=by simp;omega
     have a9:n<255:=oM;have k2:((e:Int)==0)=false:=by rw[X6];omega
     clear hres c v k hn a4;go_wp2_with(first| (go_at_call 210;first| (refine(Xk 11 _ oM).mono ?_;rintro x w' ⟨rfl,h9⟩;replace h9:=h9.symm;subst h9)| (refine(Xk 8 _ oM).mono ?_;rintro x w' ⟨rfl,h9⟩;replace h9:=h9.symm;subst h9)));have p:f<=9007199254740991:=oM;have t:29<=52:=oM;by_cases cz:f&&&Qw (29)=0
     ·have hz:(bits .and .u64 ((f:Nat):Int) ((Qw (29):Nat):Int)==0)=true:=by rw[FL _ _ oM (Jl (Rl _ oM) dM),cz];rfl
      have hq:Xx b 32=(Kg 23 32 s (n) (f>>>(29)),true):=by rw[HQ.out];unfold X2;rw[Qa (by rw[cz];simp)]
      clear HQ cz;have HQ:=Qc hq;clear hq;have hsr:@HDiv.hDiv Int Int Int _ ((f:Nat):Int) (536870912:Int)=((f>>>(29):Nat):Int):=by have h:=G7 (f) (29);rw[show((2:Int)^29)=536870912 from dM]at h;exact h
      have q:=Qc hsr;clear hsr;go_wp2_with(first| (go_at_call 210;refine(Xk (29) _ oM).mono ?_;rintro x w' ⟨rfl,h9⟩;replace h9:=h9.symm;subst h9));go_region_with (first
       | (go_at_call 208;rw[q.out,HN.out];refine(Kh 23 8 32 s (n) (f>>>(29)) _ oM oM u oM (Jl (Dx _ _) oM)).mono ?_;rintro x w4 ⟨rfl,r⟩))
      all_goals go_wp2
      all_goals simp only[Exit.jump]
      all_goals go_ret2
      all_goals exact⟨by rw[HQ.out];rfl,Xd⟩
     ·exact YI
    ·rw[Qa k]at hres;by_cases d1:0<E
     ·have k4:decide (0<E)=true:=by simp;omega
      have k5:decide (E<255)=false:=by simp;omega
      have k2:((e:Int)==0)=false:=by rw[X6];omega
      have k6:decide (0<e)=true:=by simp;omega
      have k7:decide (E<=0)=false:=by simp;omega
      have hq:Xx b 32=(0,false):=by rw[hres,Qa oM]
      clear hres c v k d1;exact YJ
     ·have k4:decide (0<E)=false:=by simp;omega
      have k7:decide (E<=0)=true:=by simp;omega
      by_cases d2:e=0
      ·have k2:((e:Int)==0)=true:=by simp;omega
       have k3:((f:Int)==0)=false:=by rw[X6];omega
       have k6:decide (0<e)=false:=by simp;omega
       have hq:Xx b 32=(0,false):=by rw[hres,Qa oM]
       clear hres c v k d1 d2;exact YJ
      ·have k2:((e:Int)==0)=false:=by rw[X6];omega
       have k6:decide (0<e)=true:=by simp;omega
       by_cases d3: -23<E
       ·have k8:decide ((-23:Int)<E)=true:=by simp;omega
        obtain⟨L,hL⟩:∃L:Nat,(29+1-E).toNat=L:=⟨_,rfl⟩;rw[Qe oM,hL,show(2:Nat)^52=4503599627370496 from dM]at hres;have a6:((30:Int)-E)=(L:Int):=oM;have aa:L<=52:=oM;replace hres:=Qc hres;have HL:=Qc a6;clear c v k d1 d2 d3 hL;go_wp2_with(first| (go_at_call 210;first| (refine(Xk 11 _ oM).mono ?_;rintro x w' ⟨rfl,h9⟩;replace h9:=h9.symm;subst h9)| (refine(Xk 8 _ oM).mono ?_;rintro x w' ⟨rfl,h9⟩;replace h9:=h9.symm;subst h9)));go_quiet (fail);refine nW ?_;intro hg g hg2;rw[hg2]at hg hres;replace hg:g<=9007199254740991:=oM;clear hg2;generalize a3:w3.drewN nq=w3';have m:Qd w3 w3':=by rw[<-a3];exact Xd
        clear a3;replace y:=y.trans m;replace hbf:=m.s hbf;replace hbt:=m.s hbt;clear m f0 g0 w3;have f0:=Q1 hbf;have g0:=Q1 hbt;obtain⟨w3,a5⟩:∃z,z=w3':=⟨_,rfl⟩;subst a5;have p:g<=9007199254740991:=oM;have t:L<=52:=oM;by_cases cz:g&&&Qw (L)=0
        ·have hz:(bits .and .u64 ((g:Nat):Int) ((Qw (L):Nat):Int)==0)=true:=by rw[FL _ _ oM (Jl (Rl _ oM) dM),cz];rfl
         have hq:Xx b 32=(Kg 23 32 s (0) (g>>>(L)),true):=by rw[hres.out];unfold X2;rw[Qa (by rw[cz];simp)]
         clear hres cz;refine nX ?_;intro hres hsr;clear hq;go_wp2_with(first| (go_at_call 210;refine(Xk (L) _ oM).mono ?_;rintro x w' ⟨rfl,h9⟩;replace h9:=h9.symm;subst h9));go_region_with (first
          | (go_at_call 208;rw[hsr.out];refine(Kh 23 8 32 s (0) (g>>>(L)) _ oM oM u oM (Jl (Dx _ _) oM)).mono ?_;rintro x w4 ⟨rfl,r⟩))
         all_goals go_wp2
         all_goals simp only[Exit.jump]
         all_goals go_ret2
         all_goals exact⟨by rw[hres.out];rfl,Xd⟩
        ·have hz:(bits .and .u64 ((g:Nat):Int) ((Qw (L):Nat):Int)==0)=false:=by rw[FL _ _ oM (Jl (Rl _ oM) dM),X6];omega
         have hq:Xx b 32=(0,false):=by rw[hres.out];unfold X2;rw[Qe cz]
         exact nY
       ·have k8:decide ((-23:Int)<E)=false:=by simp;omega
        have hq:Xx b 32=(0,false):=by rw[hres,Qa oM]
        clear hres c v k d1 d2 d3;exact YJ
 ·exact nZ
def YL(b:Nat)(w:Qm):Calls prog 130 #[.int .u64 b,.int .i64 64] w fun e w'=>e=.returned (.tuple #[.int .u64 (b:Nat),.bool true])/\Qd w w':=by
 go_in;go_wp2;refine Ip (rest:=?rest) 0 (fun a w'=>False) (fun _ _=>0) ?hf ?_ ?_
 case hf=>rfl
 ·go_wp2_with(first
    | (refine xK ?_)
    | (go_at_call 212;refine(Qh0 _).mono ?_;rintro x v ⟨rfl,q⟩;have j:=q.same (w.heap.size+1+1) _ (show _=some (.cells #[i6 52,i6 11,i6 64] 215 (0,0)) from Ql sM) trivial;have z:=Q1 (Qb (o:=.cells #[i6 52,i6 11,i6 64] 215) j)))
  simp only[Exit.jump];go_ret2;exact⟨rfl,Xd⟩
 ·rintro a v y;exact y.elim
def Fk(b:Nat)(x:Int)(w:Qm)(hb:b<18446744073709551616):Calls prog 130 #[.int .u64 b,.int .i64 x] w fun e w'=>e=.returned (.tuple #[.int .u64 ((Xx b x).1:Nat),.bool (Xx b x).2])/\Qd w w':=by
 by_cases j:x=16
 ·subst j;exact YH b w hb
 by_cases q:x=32
 ·subst q;exact YK b w hb
 by_cases v:x=64
 ·subst v;exact YL b w
 have y:Gf x=none:=by unfold Gf;rw[Qa j,Qa q,Qa v]
 have:Xx b x=(0,false):=by unfold Xx;rw[y]
 rw[this];exact Uo b x w y
def YM{fn:Func}{p:Tmp}(h:fn.results=#[.cell p ty])(tmps:Array Q0)(P:Program)(w:Qm):
  (results fn tmps).run P w=((asAddr (tmps.getD p undef)).run P w).andThen fun a w₁=>(loadVar ty a).run P w₁:=by
 simp only[results,h]
 simp[Vv,Result.andThen]
def xL(b i:Nat):Bool:=(Xx b ((f3 i).2.2:Nat)).2
def xM(hi:i<3)(h1:∀j,j<i->xL b j=false)(h2:xL b i=true):Rt b=((f3 i).2.2:Nat):=by
 show(if xL b 0=true then(16:Int)else if xL b 1=true then 32 else 64)=_;obtain rfl|rfl|rfl:i=0∨i=1∨i=2:=oM
 ·rw[Qe h2];rfl
 ·rw[Qa (fun h=>by have q:=h1 0 oM;rw[q]at h;cases h),Qe h2];rfl
 ·rw[Qa (fun h=>by have q:=h1 0 oM;rw[q]at h;cases h),Qa (fun h=>by have q:=h1 1 oM;rw[q]at h;cases h)];rfl
def iR(h1:∀j,j<3->xL b j=false):False:=by
 have v:=h1 2 oM;have q:xL b 2=true:=rfl;rw[v]at q;cases q
def xN{P:Prop}(h:P:=by
 rintro i v a' A B ⟨bx,h1,h2⟩ hk;exact⟨bx,hk.same _ _ h1 (.inr rfl),h2⟩):P:=h
def xO{P Q:Prop}(h:Q)(f:Wz Q->P:=by
 intro zz;refine hK _ _ ((Ac.refl _ _).alloc _) ?_ trivial ⟨A.heap.size,Qt A _,rfl⟩;exact zz.o):P:=f ⟨h⟩
def Le(b:Nat)(w:Qm)(hb:b<18446744073709551616):Calls prog 129 #[.int .u64 b] w fun e w'=>e=.returned (.int .i64 (Rt b))/\Qd w w':=by
 refine(J5 (n:=0)).1 (Vy func129 rfl trivial ?_ rfl);simp only[ntmps129];refine Ie ?_;gi_wp2_with(gi_at_call 211;refine(Qr (Fj _)).mono ?_;rintro e w' ⟨rfl,h9⟩;replace h9:=h9.symm;subst h9);generalize y:World.alloc _ (.cells #[i6 0] 3)=W1;have hz:W1.heap.size=w.heap.size+2:=by rw[<-y];simp
 have a3:Qd w W1:=by rw[<-y];exact(((Ac.refl _ w).alloc _).alloc _)
 have b0:Boxed W1 w.heap.size 24 (.int .u64 b):=by rw[<-y];exact CH
 have b1:Boxed W1 (w.heap.size+1) 3 (i6 0):=by rw[<-y];exact Ql sM
 clear y;refine Jt (gf:=268) (lb:=#[])
  rfl (X3 func268 kM rfl) 3 (fun i v _=>v=#[Fi i]) (fun b o=>b≠w.heap.size+1) (fun _ _=>True)
  (fun _=>True) (fun _ _=>True) (fun W2 _ _=>MZ _ _ W2) ?hSb (fun _ _ _ _ _=>trivial)
  (fun i A=>(∀j,j<i->xL b j=false)/\Boxed A w.heap.size 24 (.int .u64 b)/\Boxed A (w.heap.size+1) 3 (i6 0))
  (fun i c A=>c=.ret/\(∀j,j<i->xL b j=false)/\xL b i=true/\Boxed A (w.heap.size+1) 3 (i6 ((f3 i).2.2:Nat)))
  ?hI ?hIx (fun _ _ _ _ h _=>h) (fun _ _ _ _=>trivial) (fun _ _ _ _ _=>trivial) (fun i v A h=>by rw[h];rfl) ⟨fun _ h=>oM,b0,b1⟩
  (fun i v a' A=>∃bx,A.heap[bx]? =some (.cells (aJ (f3 i)) 215 (0,0))/\a'={tmps:=#[.int .u64 b,pt w.heap.size,pt (w.heap.size+1),pt bx,undef,undef,.func (.func 268) #[] #[],Fi i,undef,undef,undef,undef,undef,undef,undef,undef,undef,undef],defers:=[]}) ?hAx ?hassign ?hbody ?hdone ?hstop
 case hSb=>exact fun b o hb ho=>oM
 case hI=>
  rintro i A B ⟨h1,h2,q⟩ hk;exact⟨h1,hk.boxed h2 ⟨.inr rfl,trivial⟩,hk.boxed q ⟨.inr rfl,trivial⟩⟩
 case hIx=>
  rintro i c A B ⟨h0,h1,q,h4⟩ hk;exact⟨h0,h1,q,hk.boxed h4 ⟨.inr rfl,trivial⟩⟩
 case hAx=>
  exact xN
 case hassign=>
  intro l i v A K hi a2 a1 hK;subst a1;obtain⟨f,t⟩:=X0 (f3 i);unfold Fi at hK|-;rw[t]at hK|-;gi_wp2;refine xO ?_;obtain⟨h1,h2,q⟩:=a2;exact⟨h1,h2.alloc _,q.alloc _⟩
 case hbody=>
  rintro l i v a' A hl _ hi ⟨h1,h2,q⟩ hv ⟨bx,z,rfl⟩;unfold Fi;obtain⟨f,t⟩:=X0 (f3 i);have Hf:=Qc t;rw[t]at z|-;clear t;have c0:=h2.cell;have e0:=Q1 z;obtain⟨r,k⟩:=X0 (Xx b (f.2.2:Int));have p:xL b i=r.2:=by unfold xL;rw[Hf.out,k]
  replace k:=Qc k;by_cases hx:r.2=true
  ·have HN:=Qc (p.trans hx);clear p;gi_wp2_with(gi_at_call 130;refine(Hl l (Fk b (f.2.2:Int) _ hb)).mono ?_;rintro e w' ⟨rfl,hk⟩;rw[k.out];have u:=hk.boxed q trivial;have g2:=u.cell;have g3:=u.frozen;have p0:=Q1 (hk.s z));refine⟨(hk.mono fun _ _ _ _=>trivial).setCell _ fun o _ hs=>absurd rfl hs,rfl,h1,HN.out,?_⟩;rw[Hf.out];exact u.set _
  ·replace hx:r.2=false:=by simpa using hx
   have HN:=Qc (p.trans hx);clear p;gi_wp2_with(gi_at_call 130;refine(Hl l (Fk b (f.2.2:Int) _ hb)).mono ?_;rintro e w' ⟨rfl,hk⟩;rw[k.out];have u:=hk.boxed q trivial;have g2:=u.cell;have g3:=u.frozen;have p0:=Q1 (hk.s z));refine⟨hk.mono fun _ _ _ _=>trivial,fun j hj=>?_,hk.boxed h2 trivial,u⟩;rcases Ce j i with h|h
   ·exact h1 j h
   ·obtain rfl:j=i:=oM;exact HN.out
 case hdone=>
  rintro D A hD ⟨h1,h2,q⟩ _ hk hDB;exact(iR h1).elim
 case hstop=>
  rintro D i c A hD hi ⟨rfl,h1,h2,q⟩ _ hk hDB;have a0:Qd w A:=Ho a3 hk fun b o hb=>⟨Ku hb,trivial⟩
  have d:=xM hi h1 h2;gi_wp2;refine Sm ?_;have x:(A.putObj D (.deferred none)).heap[w.heap.size+1]? =some (.cells #[i6 ((f3 i).2.2:Nat)] 3 (0,0)):=(N3 oM).trans q;have m:(A.putObj D (.deferred none)).cell? (ad (w.heap.size+1) 0)=some (i6 ((f3 i).2.2:Nat)):=Boxed.cell x;refine⟨i6 (Rt b),?_,rfl,a0.putObj _ fun o _ _ h=>oM⟩;rw[YM rfl,d];have hu:=underlying3;simp[asAddr,loadVar,isAgg,m,Result.andThen,Vv,go_sem]
def aQ(id:Int)(h:Hd)(l:Qp)(S:Qz)(lv:Q0)(w:Qm)(hG:Ah N E w)(ho:h.ok)(hl:Ad S w l lv):
  Calls prog 171 #[.agg #[.int .i64 id],Qu h lv] w fun e w'=>e=.returned (.bool (Zr (.node h l) {Qh 0 with u:=h.u,w:=h.w}&&decide ((Kx h.u h.w).2=0)))/\Qd w w':=by
 obtain⟨a,j,rfl⟩:=hl.Ab
 have y:=hl.shape.1
 obtain⟨f,c,d,a0,a2,k⟩:=ho
 obtain⟨r0,m⟩:∃r,Zr (.node h l) {Qh 0 with u:=h.u,w:=h.w}=r:=⟨_,rfl⟩
 have z:=Qc m
 obtain⟨n,v⟩:∃r,decide ((Kx h.u h.w).2=0)=r:=⟨_,rfl⟩
 have p:=Qc v
 obtain⟨x,hx⟩:=X0 (Kx h.u h.w)
 have t:(x.2==0)=n:=by rw[<-v,<-hx];exact To _ _
 replace hx:=Qc hx
 clear m v
 go_in
 go_wp2_with(first
  | (go_at_call 181;refine(Ps h.u h.w _ oM).mono ?_;rintro e w1 ⟨rfl,q⟩;rw[hx.out];have b:=q.same (w.heap.size+1) _ (show _=some (.cells (nR h (.slice a l.length j)) 27 (0,0)) from BR) trivial;have n0:=Qi b)
  | (go_at_call 248;refine(N7 h {Qh 0 with u:=h.u,w:=h.w} l S _ _ (hl.same Xd)).mono ?_;rintro e w2 ⟨rfl,a1⟩;rw[z.out]))
 all_goals go_ret
 all_goals exact⟨by rw[z.out,p.out];simp[*],Xd⟩
def rQ(id:Int)(h:Hd)(l:Qp)(S:Qz)(lv:Q0)(c:Nat)(w:Qm)(hG:Ah N E w)(ho:h.ok)(hl:Ad S w l lv)(hc:w.heap[c]? =some (.cells #[.int .i64 id] 81 (0,0))):
  Calls prog 179 #[Qu h lv,.pointer (some ⟨c,0,none⟩)] w fun e w'=>e=.returned (.bool (!Jv id (.node h l)))/\Qd w w':=by
 obtain⟨a,j,rfl⟩:=hl.Ab
 have y:=X9 (Q4 hc) (.cells (Qn h (.slice a l.length j)).toArray 27)
 have q:=hG.same (Ac.of_same (((Ac.refl _ w).alloc (.cells (Qn h (.slice a l.length j)).toArray 27))))
 go_in
 go_wp2_with(first
  | (go_at_call 180;refine(rM id h l S _ _ (hG.same Xd) ho (hl.same Xd)).mono ?_;rintro e z ⟨rfl,v⟩))
 all_goals go_ret
 all_goals exact⟨rfl,Xd⟩
def kindFn(i:Nat):Nat:=if i=1 then 168 else if i=2 then 169 else if i=3 then 170 else if i=4 then 171 else if i=5 then 172 else if i=6 then 173 else if i=7 then 174 else if i=8 then 175 else if i=9 then 176 else if i=10 then 177 else 178
def Nj(n:Nat):Array MapEntry:=((List.range n).map fun i=>{key:=.int .i64 ((i+1:Nat):Int),val:=.func (.func (kindFn (i+1))) #[] #[],born:=i}).toArray
def L6{w X Y:Qm}{o o':Obj}(hX:X.putObj w.heap.size o'=Y)(hs:Qd w X)(hm:X.heap[w.heap.size]? =some o):Qd w Y/\Y.heap[w.heap.size]? =some o':=by
 subst hX;exact⟨hs.putObj _ fun o _ _ h=>by omega,CI (Qg hm)⟩
def YN{P Q:Prop}(h:Q)(f:Wz Q->P:=by
 intro zz;rw[Mg];obtain⟨X,hX⟩:=X0 (w.alloc (.map #[] 0));revert X hX;exact zz.o):P:=f ⟨h⟩
def YO{P:Prop}(h:P:=by
 clear hX;go_wp2;go_ret;exact⟨_,rfl,hm,hs⟩):P:=h
def rR(w:Qm):Calls prog 100 #[] w fun e w'=>∃b,e=.returned (.map (some b))/\w'.heap[b]? =some (.map (Nj 11) 11)/\Qd w w':=by
 go_in;go_wp2;refine YN ?_;intro X hX;have hs:Qd w X:=by rw[<-hX];exact Xd
 have hm:X.heap[w.heap.size]? =some (.map (Nj 0) 0):=by rw[<-hX];exact Qt w _
 rw[hX];clear hX;go_wp2;rw[Qs (d:=.int .i64) (i6 1) (.func (.func 168) #[] #[]) underlying125 underlying3 rfl hm (by rfl)];generalize hX:World.putObj _ _ _=X;obtain⟨hs,hm⟩:=L6 (o':=.map (Nj 1) 1) hX hs hm;clear hX;go_wp2;rw[Qs (d:=.int .i64) (i6 2) (.func (.func 169) #[] #[]) underlying125 underlying3 rfl hm (by rfl)];generalize hX:World.putObj _ _ _=X;obtain⟨hs,hm⟩:=L6 (o':=.map (Nj 2) 2) hX hs hm;clear hX;go_wp2;rw[Qs (d:=.int .i64) (i6 3) (.func (.func 170) #[] #[]) underlying125 underlying3 rfl hm (by rfl)];generalize hX:World.putObj _ _ _=X;obtain⟨hs,hm⟩:=L6 (o':=.map (Nj 3) 3) hX hs hm;clear hX;go_wp2;rw[Qs (d:=.int .i64) (i6 4) (.func (.func 171) #[] #[]) underlying125 underlying3 rfl hm (by rfl)];generalize hX:World.putObj _ _ _=X;obtain⟨hs,hm⟩:=L6 (o':=.map (Nj 4) 4) hX hs hm;clear hX;go_wp2;rw[Qs (d:=.int .i64) (i6 5) (.func (.func 172) #[] #[]) underlying125 underlying3 rfl hm (by rfl)];generalize hX:World.putObj _ _ _=X;obtain⟨hs,hm⟩:=L6 (o':=.map (Nj 5) 5) hX hs hm;clear hX;go_wp2;rw[Qs (d:=.int .i64) (i6 6) (.func (.func 173) #[] #[]) underlying125 underlying3 rfl hm (by rfl)];generalize hX:World.putObj _ _ _=X;obtain⟨hs,hm⟩:=L6 (o':=.map (Nj 6) 6) hX hs hm;clear hX;go_wp2;rw[Qs (d:=.int .i64) (i6 7) (.func (.func 174) #[] #[]) underlying125 underlying3 rfl hm (by rfl)];generalize hX:World.putObj _ _ _=X;obtain⟨hs,hm⟩:=L6 (o':=.map (Nj 7) 7) hX hs hm;clear hX;go_wp2;rw[Qs (d:=.int .i64) (i6 8) (.func (.func 175) #[] #[]) underlying125 underlying3 rfl hm (by rfl)];generalize hX:World.putObj _ _ _=X;obtain⟨hs,hm⟩:=L6 (o':=.map (Nj 8) 8) hX hs hm;clear hX;go_wp2;rw[Qs (d:=.int .i64) (i6 9) (.func (.func 176) #[] #[]) underlying125 underlying3 rfl hm (by rfl)];generalize hX:World.putObj _ _ _=X;obtain⟨hs,hm⟩:=L6 (o':=.map (Nj 9) 9) hX hs hm;clear hX;go_wp2;rw[Qs (d:=.int .i64) (i6 10) (.func (.func 177) #[] #[]) underlying125 underlying3 rfl hm (by rfl)];generalize hX:World.putObj _ _ _=X;obtain⟨hs,hm⟩:=L6 (o':=.map (Nj 10) 10) hX hs hm;clear hX;go_wp2;rw[Qs (d:=.int .i64) (i6 11) (.func (.func 178) #[] #[]) underlying125 underlying3 rfl hm (by rfl)];generalize hX:World.putObj _ _ _=X;replace hs:Qd w X:=by rw[<-hX];exact hs.putObj _ fun o _ _ h=>oM
 replace hm:X.heap[w.heap.size]? =some (.map (Nj 11) 11):=by rw[<-hX];exact CI (Qg hm)
 exact YO
def rS(id k:Int):([k]:List Int).contains id=decide (id=k):=by simp
def has2(id j k:Int):([j,k]:List Int).contains id=(decide (id=j)||decide (id=k)):=by simp
def Qiq(id i j k:Int):([i,j,k]:List Int).contains id=(decide (id=i)||decide (id=j)||decide (id=k)):=by simp[Bool.or_assoc]
def Qh1(id i j k m:Int):([i,j,k,m]:List Int).contains id=(decide (id=i)||decide (id=j)||decide (id=k)||decide (id=m)):=by simp[Bool.or_assoc]
def Oc{s e f:Nat}(hs:s<=1)(he:e<=2047)(hf:f<4503599627370496):Kg 52 64 s e f<18446744073709551616:=by
 have j:s<<<(64-1)<2^64:=by rw[Y5];omega
 have q:e<<<52<2^64:=by rw[Y5];omega
 exact Uj (n:=64) (Uj j q) oM
def aU{x:Int}(hb:b<18446744073709551616):(Kx b x).1<18446744073709551616:=by
 have z:∀W fr ex:Nat,Gf x=some (fr,ex,W)->fr<=52->ex<=11->(Kx b x).1<18446744073709551616:=by
  intro W fr ex j p h2;unfold Kx;rw[j];show(if W<Zl b then((0:Nat),(2:Int))else if W=64 then(b,0)else if b>>>fr&&&Qw ex=Qw ex then(Kg 52 64 (b>>>(W-1)&&&1) 2047 ((b&&&Qw fr)<<<(52-fr)),0)else if b>>>fr&&&Qw ex=0/\b&&&Qw fr=0 then(Kg 52 64 (b>>>(W-1)&&&1) 0 0,0)else if b>>>fr&&&Qw ex=0 then(Kg 52 64 (b>>>(W-1)&&&1) (1+1023-Qw (ex-1)-(fr+1-Zl (b&&&Qw fr))) (((b&&&Qw fr)<<<(fr+1-Zl (b&&&Qw fr))&&&Qw fr)<<<(52-fr)),0)else(Kg 52 64 (b>>>(W-1)&&&1) ((b>>>fr&&&Qw ex)+1023-Qw (ex-1)) ((b&&&Qw fr)<<<(52-fr)),0)).1<_;have c:b>>>(W-1)&&&1<=1:=Yt;have q:∀y,(y&&&Qw fr)<<<(52-fr)<4503599627370496:=by
   intro y;have k:y&&&Qw fr<=Qw fr:=Yt;have t:(y&&&Qw fr)<2^fr:=by have:0<2^fr:=Hn dM;unfold Qw at k|-;omega
   rw[Y5];have f:(y&&&Qw fr)*2^(52-fr)<2^fr*2^(52-fr):=Nat.mul_lt_mul_of_pos_right t (Hn dM);rw[<-Cb,Nat.add_sub_cancel' p]at f;exact f
  have v:∀e,e<=Qw ex->ex=5∨ex=8∨ex=11->e+1023-Qw (ex-1)<=2047:=by
   rintro e r (rfl|rfl|rfl)
   ·have:Qw 5=31:=rfl;have:Qw 4=15:=rfl;show e+1023-Qw 4<=2047;omega
   ·have:Qw 8=255:=rfl;have:Qw 7=127:=rfl;show e+1023-Qw 7<=2047;omega
   ·have:Qw 11=2047:=rfl;have:Qw 10=1023:=rfl;show e+1023-Qw 10<=2047;omega
  have d:ex=5∨ex=8∨ex=11:=by
   unfold Gf at j;split at j
   ·cases j;exact .inl rfl
   ·split at j
    ·cases j;exact .inr (.inl rfl)
    ·split at j
     ·cases j;exact .inr (.inr rfl)
     ·cases j
  repeat' split
  ·exact dM
  ·exact hb
  ·exact Oc c oM (q _)
  ·exact Oc c oM oM
  ·exact Oc c oM (q _)
  ·exact Oc c (v _ Yt d) (q _)
 by_cases m:x=16
 ·exact z 16 10 5 (by subst m;rfl) oM oM
 by_cases n:x=32
 ·exact z 32 23 8 (by subst n;rfl) oM oM
 by_cases u:x=64
 ·exact z 64 52 11 (by subst u;rfl) oM oM
 have:Gf x=none:=by unfold Gf;rw[Qa m,Qa n,Qa u]
 unfold Kx;rw[this];show(0:Nat)<18446744073709551616;omega
def Pt{P Q:Prop}(h:Q)(f:Wz Q->P:=by
 intro zz;go_at_call 181;refine(Ps h.u h.w _ oM).mono ?_;rintro e w1 ⟨rfl,hk1⟩;rw[HX.out];have hb:=hk1.same (w.heap.size+1) _ (show _=some (.cells (nR h (.slice a l.length cap)) 27 (0,0)) from BR) trivial;have n0:=Qi hb;have hi:=hk1.same w.heap.size _ (show _=some (.cells #[i6 id] 81 (0,0)) from BR) trivial;have i0:=Q4 hi;revert w1 hk1 hb n0 hi i0;exact zz.o):P:=f ⟨h⟩
def ZQ{P Q:Prop}(h:Q)(f:Wz Q->P:=by
 intro zz;have hS0:w1.heap[w.heap.size]? =some (.cells #[i6 id] 81 (0,0))/\w1.heap[w.heap.size+1]? =some (.cells (nR h (.slice a l.length cap)) 27 (0,0)):=⟨hi,hb⟩;refine(Vd (n:=0)).1 ?_;refine gR (n:=0) hS0 ?_;have y1:=Q4 hi;have z0:=Qi hb;revert hS0 y1 z0;exact zz.o):P:=f ⟨h⟩
def Qh2{P Q:Prop}(h:Q)(f:Wz Q->P:=by
 intro zz;refine hK _ _ ⟨Qb hi,Qb hb⟩ ?_;exact zz.o):P:=f ⟨h⟩
def Qh3{P Q:Prop}(h:Q)(f:Wz Q->P:=by
 intro zz;refine(Qr (Na id w1.heap.size 1 [2] #[i6 2] 3 (0,0) ((w1.alloc (.cells #[i6 2] 3)).drew) 1 rfl dM (J9 (Qt w1 _)) rfl)).mono ?_;exact zz.o):P:=f ⟨h⟩
def Lf{P Q:Prop}(h:Q)(f:Wz Q->P:=by
 intro zz;refine Vr ?_;intro K hK;refine Qh2 ?_;clear hK K;refine Vr ?_;intro K hK;refine Qh3 ?_;revert K hK;exact zz.o):P:=f ⟨h⟩
def ZR{P Q:Prop}(h:Q)(f:Wz Q->P:=by
 intro zz;rw[H2.out];have hi:=hk_w2.s (J9 (Qb hi));have hb:=hk_w2.s (J9 (Qb hb));revert hi hb;exact zz.o):P:=f ⟨h⟩
def CX{P Q:Prop}(h:Q)(f:Wz Q->P:=by
 intro zz;refine hK _ _ ⟨hi,hb⟩ ?_;have y1:=Q4 hi;have z0:=Qi hb;revert y1 z0;exact zz.o):P:=f ⟨h⟩
def aV{P Q:Prop}(h:Q)(f:Wz Q->P:=by
 intro zz;refine TP kM rfl ?_;intro K hK;go_simp;refine hK _ _ ⟨Qb hi,Qb hb⟩ ?_;clear hK K;refine TP kM rfl ?_;intro K hK;go_simp;refine(Qr (Na id w2.heap.size 1 [3] #[i6 3] 3 (0,0) ((w2.alloc (.cells #[i6 3] 3))) 1 rfl dM (J9 (Qt w2 _)) rfl)).mono ?_;revert K hK;exact zz.o):P:=f ⟨h⟩
def aW{P Q:Prop}(h:Q)(f:Wz Q->P:=by
 intro zz;rw[H3.out];have hi:=hk_w3.s (J9 (Qb hi));have hb:=hk_w3.s (J9 (Qb hb));revert hi hb;exact zz.o):P:=f ⟨h⟩
def oA{P Q:Prop}(h:Q)(f:Wz Q->P:=by
 intro zz;refine TP kM rfl ?_;intro K hK;go_simp;refine hK _ _ ⟨Qb hi,Qb hb⟩ ?_;clear hK K;refine TP kM rfl ?_;intro K hK;go_simp;revert K hK;exact zz.o):P:=f ⟨h⟩
def xP{P Q:Prop}(h:Q)(f:Wz Q->P:=by
 intro zz;refine(Qr (Na id w3.heap.size 1 [4] #[i6 4] 3 (0,0) ((w3.alloc (.cells #[i6 4] 3))) 1 rfl dM (J9 (Qt w3 _)) rfl)).mono ?_;exact zz.o):P:=f ⟨h⟩
def xQ{P Q:Prop}(h:Q)(f:Wz Q->P:=by
 intro zz;rw[H4.out];have hi:=hk_w4.s (J9 (Qb hi));have hb:=hk_w4.s (J9 (Qb hb));revert hi hb;exact zz.o):P:=f ⟨h⟩
def oB{P:Prop}(h:P:=by
 repeat refine sX ?_
 clear y1 z0;refine Jc ?_;go_wp2;go_ret;exact⟨by rw[HR.out];simp[*],Xd⟩):P:=h
def oC{P:Prop}(h:P:=by
 rintro e w4 ⟨rfl,hk_w4⟩;refine xQ ?_;intro hi hb;refine CX ?_;intro y1 z0;clear hK K;refine sG ?_;iterate 3 refine sK ?_
 refine sG ?_;exact oB):P:=h
def oD{P:Prop}(h:P:=by
 rintro e w4 ⟨rfl,hk_w4⟩;refine xQ ?_;intro hi hb;refine CX ?_;intro y1 z0;clear hK K;iterate 5 refine sG ?_
 exact oB):P:=h
def Sv{P Q:Prop}(h:Q)(f:Wz Q->P:=by
 intro zz;refine TP kM rfl ?_;intro K hK;go_simp;revert K hK;exact zz.o):P:=f ⟨h⟩
def xR{P Q:Prop}(h:Q)(f:Wz Q->P:=by
 intro zz;refine(Qr (Na id w5.heap.size 1 [4] #[i6 4] 3 (0,0) ((w5.alloc (.cells #[i6 4] 3))) 1 rfl dM (J9 (Qt w5 _)) rfl)).mono ?_;exact zz.o):P:=f ⟨h⟩
def iS(id:Int)(h:Hd)(l:Qp)(S:Qz)(lv:Q0)(w:Qm)(hG:Ah N E w)(ho:h.ok)(hl:Ad S w l lv)(hk:h.kind=4):
  Calls prog 101 #[.agg #[.int .i64 id],Qu h lv] w fun e w'=>e=.returned (.bool (Zj id (.node h l)))/\Qd w w':=by
 obtain⟨a,cap,rfl⟩:=hl.Ab
 obtain⟨a0,a2,p,b,a3,a1⟩:=ho
 obtain⟨x,hx⟩:=X0 (Kx h.u h.w)
 obtain⟨q,m⟩:=X0 (decide (Rt x.1=h.w))
 have k:(Rt x.1==h.w)=q:=by rw[<-m];exact To _ _
 obtain⟨r,hr⟩:=X0 (decide (16<h.w))
 obtain⟨t,d⟩:∃r,([2]:List Int).contains id=r:=⟨_,rfl⟩
 obtain⟨f,c⟩:∃r,([3]:List Int).contains id=r:=⟨_,rfl⟩
 obtain⟨z,n⟩:∃r,([4]:List Int).contains id=r:=⟨_,rfl⟩
 have v:Zj id (.node h l)=(t||(f&&q)||(z&&r)):=by
  rw[<-d,<-c,<-n,<-m,<-hr,<-hx,rS,rS,rS];show(if h.kind=4 then _ else _)=_;rw[Qe hk];rfl
 have y:x.1<18446744073709551616:=by rw[<-hx];exact aU b
 have HX:=Qc hx
 have H2:=Qc d
 have H3:=Qc c
 have H4:=Qc n
 have HR:=Qc v
 have k4:(h.kind==4)=true:=by rw[hk];rfl
 clear hx m d c n v hk
 cases t
 ·cases f
  ·cases z
   ·go_in;go_wp2_with(first
     | (refine Pt ?_;intro w1 hk1 hb n0 hi i0))
    refine ZQ ?_;intro hS0 y1 z0;repeat refine sX ?_
    refine Lf ?_;intro K hK;clear y1 z0;rintro e w2 ⟨rfl,hk_w2⟩;refine ZR ?_;intro hi hb;refine CX ?_;intro y1 z0;clear hK K;repeat refine sX ?_
    iterate 2 refine sG ?_
    refine aV ?_;intro K hK;clear y1 z0;rintro e w3 ⟨rfl,hk_w3⟩;refine aW ?_;intro hi hb;refine CX ?_;intro y1 z0;clear hK K;refine sG ?_;iterate 5 refine sK ?_
    refine sG ?_;repeat refine sX ?_
    iterate 2 refine sG ?_
    refine oA ?_;intro K hK;clear y1 z0;refine xP ?_;exact oC
   ·go_in;go_wp2_with(first
     | (refine Pt ?_;intro w1 hk1 hb n0 hi i0))
    refine ZQ ?_;intro hS0 y1 z0;repeat refine sX ?_
    refine Lf ?_;intro K hK;clear y1 z0;rintro e w2 ⟨rfl,hk_w2⟩;refine ZR ?_;intro hi hb;refine CX ?_;intro y1 z0;clear hK K;repeat refine sX ?_
    iterate 2 refine sG ?_
    refine aV ?_;intro K hK;clear y1 z0;rintro e w3 ⟨rfl,hk_w3⟩;refine aW ?_;intro hi hb;refine CX ?_;intro y1 z0;clear hK K;refine sG ?_;iterate 5 refine sK ?_
    refine sG ?_;repeat refine sX ?_
    iterate 2 refine sG ?_
    refine oA ?_;intro K hK;clear y1 z0;refine xP ?_;exact oD
  ·cases q
   ·cases z
    ·go_in;go_wp2_with(first
      | (refine Pt ?_;intro w1 hk1 hb n0 hi i0))
     refine ZQ ?_;intro hS0 y1 z0;repeat refine sX ?_
     refine Lf ?_;intro K hK;clear y1 z0;rintro e w2 ⟨rfl,hk_w2⟩;refine ZR ?_;intro hi hb;refine CX ?_;intro y1 z0;clear hK K;repeat refine sX ?_
     iterate 2 refine sG ?_
     refine aV ?_;intro K hK;clear y1 z0;rintro e w3 ⟨rfl,hk_w3⟩;refine aW ?_;intro hi hb;refine CX ?_;intro y1 z0;clear hK K;iterate 2 refine sG ?_
     clear y1 z0;refine Sv ?_;intro K hK;refine(Qr (Le x.1 _ y)).mono ?_;rintro e w5 ⟨rfl,j⟩;have hi:=j.s hi;have hb:=j.s hb;refine CX ?_;intro y1 z0;clear hK K;iterate 4 refine sG ?_
     repeat refine sX ?_
     iterate 2 refine sG ?_
     refine oA ?_;intro K hK;clear y1 z0;refine xR ?_;exact oC
    ·go_in;go_wp2_with(first
      | (refine Pt ?_;intro w1 hk1 hb n0 hi i0))
     refine ZQ ?_;intro hS0 y1 z0;repeat refine sX ?_
     refine Lf ?_;intro K hK;clear y1 z0;rintro e w2 ⟨rfl,hk_w2⟩;refine ZR ?_;intro hi hb;refine CX ?_;intro y1 z0;clear hK K;repeat refine sX ?_
     iterate 2 refine sG ?_
     refine aV ?_;intro K hK;clear y1 z0;rintro e w3 ⟨rfl,hk_w3⟩;refine aW ?_;intro hi hb;refine CX ?_;intro y1 z0;clear hK K;iterate 2 refine sG ?_
     clear y1 z0;refine Sv ?_;intro K hK;refine(Qr (Le x.1 _ y)).mono ?_;rintro e w5 ⟨rfl,j⟩;have hi:=j.s hi;have hb:=j.s hb;refine CX ?_;intro y1 z0;clear hK K;iterate 4 refine sG ?_
     repeat refine sX ?_
     iterate 2 refine sG ?_
     refine oA ?_;intro K hK;clear y1 z0;refine xR ?_;exact oD
   ·go_in;go_wp2_with(first
     | (refine Pt ?_;intro w1 hk1 hb n0 hi i0))
    refine ZQ ?_;intro hS0 y1 z0;repeat refine sX ?_
    refine Lf ?_;intro K hK;clear y1 z0;rintro e w2 ⟨rfl,hk_w2⟩;refine ZR ?_;intro hi hb;refine CX ?_;intro y1 z0;clear hK K;repeat refine sX ?_
    iterate 2 refine sG ?_
    refine aV ?_;intro K hK;clear y1 z0;rintro e w3 ⟨rfl,hk_w3⟩;refine aW ?_;intro hi hb;refine CX ?_;intro y1 z0;clear hK K;iterate 2 refine sG ?_
    clear y1 z0;refine Sv ?_;intro K hK;refine(Qr (Le x.1 _ y)).mono ?_;rintro e w5 ⟨rfl,j⟩;have hi:=j.s hi;have hb:=j.s hb;refine CX ?_;intro y1 z0;clear hK K;iterate 4 refine sG ?_
    repeat refine sX ?_
    iterate 9 refine sK ?_
    exact oB
 ·go_in;go_wp2_with(first
   | (refine Pt ?_;intro w1 hk1 hb n0 hi i0))
  refine ZQ ?_;intro hS0 y1 z0;repeat refine sX ?_
  refine Lf ?_;intro K hK;clear y1 z0;rintro e w2 ⟨rfl,hk_w2⟩;refine ZR ?_;intro hi hb;refine CX ?_;intro y1 z0;clear hK K;repeat refine sX ?_
  iterate 11 refine sK ?_
  repeat refine sX ?_
  iterate 9 refine sK ?_
  exact oB
def Ad.B4(h:Ad S w l lv)(hx:x∈l):x.hd.ok:=by
 obtain⟨_,a,q,_,_,y⟩:=h.shape;obtain⟨k,v,rfl⟩:=ZC hx;obtain⟨b,z,m,_,_,_,_,j,_⟩:=y k v;exact j
def iT{P Q:Prop}(h:Q)(f:Wz Q->P:=by
 intro zz;go_at_call 183;refine(EB h.d _ (hG.same Xd) oM).mono ?_;rintro e w1 ⟨rfl,hkL⟩;rw[HT.out];have hi:=hkL.same w.heap.size _ (show _=some (.cells #[i6 id] 81 (0,0)) from CH) trivial;have i0:=Q4 hi;have hb:=hkL.same (w.heap.size+1) _ (show _=some (.cells (nR h (.slice a l.length cap)) 27 (0,0)) from CH) trivial;have n0:=Qi hb;revert w1 hkL hi i0 hb n0;exact zz.o):P:=f ⟨h⟩
def iU{P Q:Prop}(h:Q)(f:Wz Q->P:=by
 intro zz;refine(Na id _ _ [1] _ _ _ _ _ rfl dM BR (by rfl)).mono ?_;exact zz.o):P:=f ⟨h⟩
def rT{P Q:Prop}(h:Q)(f:Wz Q->P:=by
 intro zz;have hi:=hkL.same w.heap.size _ (show _=some (.cells #[i6 id] 81 (0,0)) from CH) trivial;have i0:=Q4 hi;have hb:=hkL.same (w.heap.size+1) _ (show _=some (.cells (nR h (.slice a l.length cap)) 27 (0,0)) from CH) trivial;have n0:=Qi hb;revert hi i0 hb n0;exact zz.o):P:=f ⟨h⟩
def xS{P Q:Prop}(h:Q)(f:Wz Q->P:=by
 intro zz;refine(Na id _ _ [2,3] _ _ _ _ _ rfl dM BR (by rfl)).mono ?_;exact zz.o):P:=f ⟨h⟩
def iV{P:Prop}(h:P:=by
 go_wp2;all_goals go_ret
 all_goals exact⟨by rw[hres.out];simp[*],Xd⟩):P:=h
def Qds{P:Prop}(h:P:=by
 intro hi i0 hb n0;go_wp2_with(go_at_call 182;fail);refine xS ?_;rintro e w2 ⟨rfl,hkL⟩;rw[gCD.out];refine rT ?_;intro hi i0 hb n0;go_wp2_with(go_at_call 182;fail);refine(Na id _ _ [4] _ _ _ _ _ rfl dM BR (by rfl)).mono ?_;rintro e w2 ⟨rfl,hkL⟩;rw[gM.out];refine rT ?_;intro hi i0 hb n0;exact iV):P:=h
def oE{P:Prop}(h:P:=by
 go_in;go_wp2_with(first
  | (refine iT ?_;intro w1 hkL hi i0 hb n0)
  | (go_at_call 182;fail))
 refine iU ?_;rintro e w2 ⟨rfl,hkL⟩;rw[gJ.out];refine rT ?_;exact Qds):P:=h
def Qdt(id:Int)(h:Hd)(l:Qp)(lv:Q0)(w:Qm)(hG:Ah N E w)(ho:h.ok)(hl:Ad K3 w l lv)(hk:h.kind=3):
  Calls prog 101 #[.agg #[.int .i64 id],Qu h lv] w fun e w'=>e=.returned (.bool (Zj id (.node h l)))/\Qd w w':=by
 obtain⟨a,cap,rfl⟩:=hl.Ab
 have m:=hl.shape.1
 have k:=ho
 obtain⟨f,a1,c,a0,a2,t⟩:=ho
 obtain⟨z,j,q,u⟩:∃z j q,Z9 h.d=(z,j,q):=⟨_,_,_,rfl⟩
 have HT:=Qc u
 obtain⟨p,y⟩:∃r,decide ((j:Int)<=9223372036854775808)=r:=⟨_,rfl⟩
 obtain⟨n,gJ⟩:∃r,([1]:List Int).contains id=r:=⟨_,rfl⟩
 obtain⟨v,gCD⟩:∃r,([2,3]:List Int).contains id=r:=⟨_,rfl⟩
 obtain⟨cM,gM⟩:∃r,([4]:List Int).contains id=r:=⟨_,rfl⟩
 have h4:(h.kind==4)=false:=by rw[hk];rfl
 have h3:(h.kind==3)=true:=by rw[hk];rfl
 have h6:(h.kind==6)=false:=by rw[hk];rfl
 have h9:(h.kind==9)=false:=by rw[hk];rfl
 have x:(h.kind==10)=false:=by rw[hk];rfl
 have b:(h.kind==11)=false:=by rw[hk];rfl
 have h8:(h.kind==8)=false:=by rw[hk];rfl
 have hres:Zj id (.node h l)=(n||(v&&q)||(cM&&q&&(!z||p))):=by
  rw[<-gJ,<-gCD,<-gM,<-y,rS,has2,rS];have e1:decide ((j:Int)<=9223372036854775808)=decide (j<=9223372036854775808):=DY j 9223372036854775808;rw[e1];unfold Zj;simp[Aa.Ae,hk,HT.out]
 replace hres:=Qc hres
 replace gJ:=Qc gJ
 replace gCD:=Qc gCD
 replace gM:=Qc gM
 clear u hk
 cases n
 ·cases v
  ·exact oE
  ·cases q
   ·exact oE
   ·go_in;go_wp2_with(first
     | (refine iT ?_;intro w1 hkL hi i0 hb n0)
     | (go_at_call 182;fail))
    refine iU ?_;rintro e w2 ⟨rfl,hkL⟩;rw[gJ.out];refine rT ?_;intro hi i0 hb n0;go_wp2_with(go_at_call 182;fail);refine xS ?_;rintro e w2 ⟨rfl,hkL⟩;rw[gCD.out];refine rT ?_;intro hi i0 hb n0;exact iV
 ·go_in;go_wp2_with(first
   | (refine iT ?_;intro w1 hkL hi i0 hb n0)
   | (go_at_call 182;fail))
  refine iU ?_;rintro e w2 ⟨rfl,hkL⟩;rw[gJ.out];refine rT ?_;intro hi i0 hb n0;exact iV
def Qdu(id:Int)(h:Hd)(l:Qp)(lv:Q0)(w:Qm)(hG:Ah N E w)(ho:h.ok)(hl:Ad K3 w l lv)(hk:h.kind=6):
  Calls prog 101 #[.agg #[.int .i64 id],Qu h lv] w fun e w'=>e=.returned (.bool (Zj id (.node h l)))/\Qd w w':=by
 obtain⟨a,y,rfl⟩:=hl.Ab
 have z:=hl.shape.1
 have t:=ho
 obtain⟨d,p,u,x,a0,f⟩:=ho
 obtain⟨c,v⟩:∃r,([2,3,4]:List Int).contains id=r:=⟨_,rfl⟩
 have h4:(h.kind==4)=false:=by rw[hk];rfl
 have h3:(h.kind==3)=false:=by rw[hk];rfl
 have h6:(h.kind==6)=true:=by rw[hk];rfl
 have h9:(h.kind==9)=false:=by rw[hk];rfl
 have k:(h.kind==10)=false:=by rw[hk];rfl
 have m:(h.kind==11)=false:=by rw[hk];rfl
 have h8:(h.kind==8)=false:=by rw[hk];rfl
 have j:Zj id (.node h l)=(c):=by
  rw[<-v,Qiq];unfold Zj;simp[Aa.Ae,hk]
 replace j:=Qc j
 replace v:=Qc v
 clear hk
 go_in
 go_wp2_with(first
  | (go_at_call 182;refine(Na id _ _ [2,3,4] _ _ _ _ _ rfl dM BR (by rfl)).mono ?_;rintro e w2 ⟨rfl,q⟩;rw[v.out];have b:=q.same w.heap.size _ (show _=some (.cells #[i6 id] 81 (0,0)) from CH) trivial;have i0:=Q4 b;have n:=q.same (w.heap.size+1) _ (show _=some (.cells (nR h (.slice a l.length y)) 27 (0,0)) from CH) trivial;have n0:=Qi n))
 all_goals go_ret
 all_goals exact⟨by rw[j.out];simp[*],Xd⟩
def Qfn{P:Prop}(h:P:=by
 have h11:(h.kind==11)=false:=by rw[hk];rfl
 have h8:(h.kind==8)=false:=by rw[hk];rfl
 have hres:Zj id (.node h l)=(cCD):=by
  rw[<-gCD,has2];unfold Zj;simp[Aa.Ae,hk]
 replace hres:=Qc hres;replace gCD:=Qc gCD;clear hk;go_in;go_wp2_with(first
  | (go_at_call 182;refine(Na id _ _ [2,3] _ _ _ _ _ rfl dM BR (by rfl)).mono ?_;rintro e w2 ⟨rfl,hkL⟩;rw[gCD.out];have hi:=hkL.same w.heap.size _ (show _=some (.cells #[i6 id] 81 (0,0)) from CH) trivial;have i0:=Q4 hi;have hb:=hkL.same (w.heap.size+1) _ (show _=some (.cells (nR h (.slice a l.length cap)) 27 (0,0)) from CH) trivial;have n0:=Qi hb))
 all_goals go_ret
 all_goals exact⟨by rw[hres.out];simp[*],Xd⟩):P:=h
def Qdv(id:Int)(h:Hd)(l:Qp)(lv:Q0)(w:Qm)(hG:Ah N E w)(ho:h.ok)(hl:Ad K3 w l lv)(hk:h.kind=9):
  Calls prog 101 #[.agg #[.int .i64 id],Qu h lv] w fun e w'=>e=.returned (.bool (Zj id (.node h l)))/\Qd w w':=by
 obtain⟨a,cap,rfl⟩:=hl.Ab
 have j:=hl.shape.1
 have z:=ho
 obtain⟨m,n,v,y,b,q⟩:=ho
 obtain⟨cCD,gCD⟩:∃r,([2,3]:List Int).contains id=r:=⟨_,rfl⟩
 have f:(h.kind==4)=false:=by rw[hk];rfl
 have c:(h.kind==3)=false:=by rw[hk];rfl
 have d:(h.kind==6)=false:=by rw[hk];rfl
 have t:(h.kind==9)=true:=by rw[hk];rfl
 have u:(h.kind==10)=false:=by rw[hk];rfl
 exact Qfn
def xU(id:Int)(h:Hd)(l:Qp)(lv:Q0)(w:Qm)(hG:Ah N E w)(ho:h.ok)(hl:Ad K3 w l lv)(hk:h.kind=10):
  Calls prog 101 #[.agg #[.int .i64 id],Qu h lv] w fun e w'=>e=.returned (.bool (Zj id (.node h l)))/\Qd w w':=by
 obtain⟨a,cap,rfl⟩:=hl.Ab
 have j:=hl.shape.1
 have z:=ho
 obtain⟨m,n,v,y,b,q⟩:=ho
 obtain⟨cCD,gCD⟩:∃r,([2,3]:List Int).contains id=r:=⟨_,rfl⟩
 have f:(h.kind==4)=false:=by rw[hk];rfl
 have c:(h.kind==3)=false:=by rw[hk];rfl
 have d:(h.kind==6)=false:=by rw[hk];rfl
 have t:(h.kind==9)=false:=by rw[hk];rfl
 have u:(h.kind==10)=true:=by rw[hk];rfl
 exact Qfn
def xV(id:Int)(h:Hd)(l:Qp)(lv:Q0)(w:Qm)(hG:Ah N E w)(ho:h.ok)(hl:Ad K3 w l lv)(hk:h.kind=11):
  Calls prog 101 #[.agg #[.int .i64 id],Qu h lv] w fun e w'=>e=.returned (.bool (Zj id (.node h l)))/\Qd w w':=by
 obtain⟨a,y,rfl⟩:=hl.Ab
 have z:=hl.shape.1
 have f:=ho
 obtain⟨c,p,u,x,a0,d⟩:=ho
 obtain⟨k,v⟩:∃r,([4]:List Int).contains id=r:=⟨_,rfl⟩
 have h4:(h.kind==4)=false:=by rw[hk];rfl
 have h3:(h.kind==3)=false:=by rw[hk];rfl
 have h6:(h.kind==6)=false:=by rw[hk];rfl
 have h9:(h.kind==9)=false:=by rw[hk];rfl
 have t:(h.kind==10)=false:=by rw[hk];rfl
 have m:(h.kind==11)=true:=by rw[hk];rfl
 have h8:(h.kind==8)=false:=by rw[hk];rfl
 have j:Zj id (.node h l)=(k):=by
  rw[<-v,rS];unfold Zj;simp[Aa.Ae,hk]
 replace j:=Qc j
 replace v:=Qc v
 clear hk
 go_in
 go_wp2_with(first
  | (go_at_call 182;refine(Na id _ _ [4] _ _ _ _ _ rfl dM BR (by rfl)).mono ?_;rintro e w2 ⟨rfl,q⟩;rw[v.out];have b:=q.same w.heap.size _ (show _=some (.cells #[i6 id] 81 (0,0)) from CH) trivial;have i0:=Q4 b;have n:=q.same (w.heap.size+1) _ (show _=some (.cells (nR h (.slice a l.length y)) 27 (0,0)) from CH) trivial;have n0:=Qi n))
 all_goals go_ret
 all_goals exact⟨by rw[j.out];simp[*],Xd⟩
def xW{P Q:Prop}(h:Q)(f:Wz Q->P:=by
 intro zz;go_at_call 182;refine(Na id _ _ [1,2,3,4] _ _ _ _ _ rfl dM BR (by rfl)).mono ?_;rintro e w2 ⟨rfl,hkL⟩;rw[gA.out];have hi:=hkL.same w.heap.size _ (show _=some (.cells #[i6 id] 81 (0,0)) from CH) trivial;have i0:=Q4 hi;have hb:=hkL.same (w.heap.size+1) _ (show _=some (.cells (nR h (.slice a l.length cap)) 27 (0,0)) from CH) trivial;have n0:=Qi hb;revert w2 hkL hi i0 hb n0;exact zz.o):P:=f ⟨h⟩
def Qdw(id:Int)(h:Hd)(l:Qp)(lv:Q0)(w:Qm)(hG:Ah N E w)(ho:h.ok)(hl:Ad K3 w l lv)(hk:h.kind=8):
  Calls prog 101 #[.agg #[.int .i64 id],Qu h lv] w fun e w'=>e=.returned (.bool (Zj id (.node h l)))/\Qd w w':=by
 obtain⟨a,cap,rfl⟩:=hl.Ab
 have n:=hl.shape.1
 have a1:=ho
 obtain⟨p,a4,k,a3,a5,a0⟩:=ho
 obtain⟨x,v⟩:∃r,(Zb l).any (fun y=> !Jv id y)=r:=⟨_,rfl⟩
 obtain⟨cA,gA⟩:∃r,([1,2,3,4]:List Int).contains id=r:=⟨_,rfl⟩
 have h4:(h.kind==4)=false:=by rw[hk];rfl
 have h3:(h.kind==3)=false:=by rw[hk];rfl
 have h6:(h.kind==6)=false:=by rw[hk];rfl
 have u:(h.kind==9)=false:=by rw[hk];rfl
 have a2:(h.kind==10)=false:=by rw[hk];rfl
 have c:(h.kind==11)=false:=by rw[hk];rfl
 have h8:(h.kind==8)=true:=by rw[hk];rfl
 have j:Zj id (.node h l)=(cA&& !x):=by
  rw[<-gA,<-v,Qh1];have d:(Zb l).all (Jv id)= !(Zb l).any (fun y=> !Jv id y):=by rw[List.all_eq_not_any_not]
  rw[<-d];unfold Zj;simp[Aa.Ae,Aa.Ag,hk]
 replace j:=Qc j
 replace gA:=Qc gA
 replace v:=Qc v
 clear hk
 go_in
 go_wp2_with(first
  | (refine xW ?_;intro w2 hkL hi i0 hb n0)
  | (go_at_call 184;refine(NN l K3 _ _ (fun _ _=>trivial) (hl.same Xd)).mono ?_;rintro e w3 ⟨kv,rfl,q,hkL⟩;obtain⟨ka,kc,rfl⟩:=q.Ab;have hi:=hkL.same w.heap.size _ (show _=some (.cells #[i6 id] 81 (0,0)) from CH) trivial;have i0:=Q4 hi;have hb:=hkL.same (w.heap.size+1) _ (show _=some (.cells (nR h (.slice a l.length cap)) 27 (0,0)) from CH) trivial;have n0:=Qi hb)
  | (go_at_call 116;
     refine(Cd (Zb l) K3 (fun y=> !Jv id y) _ _ _ q ⟨_,_,rfl,X3 func179 kM rfl,fun y f b W t m=>?p1⟩).mono ?_;
     (case p1=>have z:=t.s hi;refine(rQ id y.hd y.l K3 b _ W (hG.same Xd) (q.B4 f) m z).mono ?_;rintro e w9 ⟨rfl,u⟩;exact⟨by rw[Aa.eta],u⟩);
     rintro e w4 ⟨rfl,hkL⟩;rw[v.out];have hi:=hkL.same w.heap.size _ (show _=some (.cells #[i6 id] 81 (0,0)) from CH) trivial;have i0:=Q4 hi;have hb:=hkL.same (w.heap.size+1) _ (show _=some (.cells (nR h (.slice a l.length cap)) 27 (0,0)) from CH) trivial;have n0:=Qi hb))
 all_goals go_ret
 all_goals exact⟨by rw[j.out];simp[*],Xd⟩
def iW(id:Int)(h:Hd)(l:Qp)(lv:Q0)(w:Qm)(hG:Ah N E w)(ho:h.ok)(hl:Ad K3 w l lv)(hk4:h.kind≠4)(hk3:h.kind≠3)(hk6:h.kind≠6)(hk9:h.kind≠9)(hk10:h.kind≠10)(hk11:h.kind≠11)(hk8:h.kind≠8):
  Calls prog 101 #[.agg #[.int .i64 id],Qu h lv] w fun e w'=>e=.returned (.bool (Zj id (.node h l)))/\Qd w w':=by
 obtain⟨a,cap,rfl⟩:=hl.Ab
 have q:=hl.shape.1
 have n:=ho
 obtain⟨z,d,y,c,f,m⟩:=ho
 obtain⟨u,gA⟩:∃r,([1,2,3,4]:List Int).contains id=r:=⟨_,rfl⟩
 have p:(h.kind==4)=false:=by simpa using hk4
 have h3:(h.kind==3)=false:=by simpa using hk3
 have k:(h.kind==6)=false:=by simpa using hk6
 have x:(h.kind==9)=false:=by simpa using hk9
 have b:(h.kind==10)=false:=by simpa using hk10
 have v:(h.kind==11)=false:=by simpa using hk11
 have t:(h.kind==8)=false:=by simpa using hk8
 have j:Zj id (.node h l)=(u):=by
  rw[<-gA,Qh1];unfold Zj;simp[Aa.Ae,hk4,hk3,hk6,hk9,hk10,hk11,hk8]
 replace j:=Qc j
 replace gA:=Qc gA
 clear hk4 hk3 hk6 hk9 hk10 hk11 hk8
 go_in
 go_wp2_with(first
  | (refine xW ?_;intro w2 hkL hi i0 hb n0))
 all_goals go_ret
 all_goals exact⟨by rw[j.out];simp[*],Xd⟩
def xX(id:Int)(h:Hd)(l:Qp)(lv:Q0)(w:Qm)(hG:Ah N E w)(ho:h.ok)(hl:Ad K3 w l lv):
  Calls prog 101 #[.agg #[.int .i64 id],Qu h lv] w fun e w'=>e=.returned (.bool (Zj id (.node h l)))/\Qd w w':=by
 by_cases n:h.kind=4
 ·exact iS id h l K3 lv w hG ho hl n
 by_cases y:h.kind=3
 ·exact Qdt id h l lv w hG ho hl y
 by_cases z:h.kind=6
 ·exact Qdu id h l lv w hG ho hl z
 by_cases m:h.kind=9
 ·exact Qdv id h l lv w hG ho hl m
 by_cases q:h.kind=10
 ·exact xU id h l lv w hG ho hl q
 by_cases j:h.kind=11
 ·exact xV id h l lv w hG ho hl j
 by_cases v:h.kind=8
 ·exact Qdw id h l lv w hG ho hl v
 exact iW id h l lv w hG ho hl n y z m q j v
def Cv(k:Int):Bool:=decide (1<=k)&&decide (k<=11)
def BV(k:Int):Q0:=if Cv k then .func (.func (kindFn k.toNat)) #[] #[]else .nilFunc
def YP(A:Qm)(kb:Nat)(k:Int)(hm:A.heap[kb]? =some (.map (Nj 11) 11)):
  (Instr.lookup 125 (.map (some kb)) (.int .i64 k) true).run prog A=.ok (.tuple #[BV k,.bool (Cv k)]) A:=by
 by_cases q:Cv k=true
 ·have u:1<=k/\k<=11:=by simpa[Cv] using q
  obtain⟨n,rfl⟩:∃n:Nat,k=n:=⟨k.toNat,oM⟩;have f:n=1∨n=2∨n=3∨n=4∨n=5∨n=6∨n=7∨n=8∨n=9∨n=10∨n=11:=oM;rcases f with rfl|rfl|rfl|rfl|rfl|rfl|rfl|rfl|rfl|rfl|rfl
  ·exact Xj (d:=.int .i64) (i:=0) (v:=BV 1) (i6 1) underlying125 underlying3 rfl hm (by rfl) true
  ·exact Xj (d:=.int .i64) (i:=1) (v:=BV 2) (i6 2) underlying125 underlying3 rfl hm (by rfl) true
  ·exact Xj (d:=.int .i64) (i:=2) (v:=BV 3) (i6 3) underlying125 underlying3 rfl hm (by rfl) true
  ·exact Xj (d:=.int .i64) (i:=3) (v:=BV 4) (i6 4) underlying125 underlying3 rfl hm (by rfl) true
  ·exact Xj (d:=.int .i64) (i:=4) (v:=BV 5) (i6 5) underlying125 underlying3 rfl hm (by rfl) true
  ·exact Xj (d:=.int .i64) (i:=5) (v:=BV 6) (i6 6) underlying125 underlying3 rfl hm (by rfl) true
  ·exact Xj (d:=.int .i64) (i:=6) (v:=BV 7) (i6 7) underlying125 underlying3 rfl hm (by rfl) true
  ·exact Xj (d:=.int .i64) (i:=7) (v:=BV 8) (i6 8) underlying125 underlying3 rfl hm (by rfl) true
  ·exact Xj (d:=.int .i64) (i:=8) (v:=BV 9) (i6 9) underlying125 underlying3 rfl hm (by rfl) true
  ·exact Xj (d:=.int .i64) (i:=9) (v:=BV 10) (i6 10) underlying125 underlying3 rfl hm (by rfl) true
  ·exact Xj (d:=.int .i64) (i:=10) (v:=BV 11) (i6 11) underlying125 underlying3 rfl hm (by rfl) true
 ·have u:¬(1<=k/\k<=11):=by simpa[Cv] using q
  have m:BV k=.nilFunc:=by unfold BV;rw[Qa q]
  have y:Cv k=false:=by simpa using q
  rw[m,y];refine H9 (d:=.int .i64) (z:=.nilFunc) _ underlying125 underlying3 ?_ (fun w=>kM) hm ?_ true
  ·rfl
  ·have b:∀j:Int,1<=j->j<=11->Instr.sameNow (.int .i64) (i6 k) (i6 j)=some false:=fun j t x=>by
    have c:(k==j)=false:=by simp;omega
    show some (k==j)=_;rw[c]
   simp[Nj,Instr.findNow,OW,b]
def aZ(n:Nat)(args:Array Q0)(w:Qm)(h:1<=n/\n<=11):(callFunc (kindFn n) args).run prog w=.ok (.enter (kindFn n) args) w:=by
 have j:n=1∨n=2∨n=3∨n=4∨n=5∨n=6∨n=7∨n=8∨n=9∨n=10∨n=11:=oM;rcases j with rfl|rfl|rfl|rfl|rfl|rfl|rfl|rfl|rfl|rfl|rfl
 ·exact X3 func168 kM rfl args w
 ·exact X3 func169 kM rfl args w
 ·exact X3 func170 kM rfl args w
 ·exact X3 func171 kM rfl args w
 ·exact X3 func172 kM rfl args w
 ·exact X3 func173 kM rfl args w
 ·exact X3 func174 kM rfl args w
 ·exact X3 func175 kM rfl args w
 ·exact X3 func176 kM rfl args w
 ·exact X3 func177 kM rfl args w
 ·exact X3 func178 kM rfl args w
def xY(id:Int)(h:Hd)(l:Qp)(lv:Q0)(w:Qm)(n:Nat)(hn:1<=n/\n<=11)(hk:h.kind=n)(hG:Ah N E w)(ho:h.ok)(hl:Ad K3 w l lv):
  Calls prog (kindFn n) #[.agg #[.int .i64 id],Qu h lv] w fun e w'=>e=.returned (.bool (Xc (.node h l)))/\Qd w w':=by
 have q:n=1∨n=2∨n=3∨n=4∨n=5∨n=6∨n=7∨n=8∨n=9∨n=10∨n=11:=oM
 have z:∀(k:Int) (t:Aa) (g:Hd),Zr t {g with kind:=k}=Zr t g:=fun k t g=>rfl
 have v:Zr (.node h []) (Qh 0)=decide (h=Qh h.kind):=by unfold Zr;simp[Qh]<;>rfl
 have y:Zr (.node h []) {Qh 0 with u:=h.u}=decide (h={Qh h.kind with u:=h.u}):=by unfold Zr;simp[Qh]<;>rfl
 rcases q with rfl|rfl|rfl|rfl|rfl|rfl|rfl|rfl|rfl|rfl|rfl
 ·refine(iJ id h l K3 lv w hl).mono ?_;rintro e w' ⟨rfl,j⟩;refine⟨?_,j⟩;unfold Xc;simp only[Aa.Ae,hk];rfl
 ·refine(iK id h l K3 lv w hl).mono ?_;rintro e w' ⟨rfl,j⟩;refine⟨?_,j⟩;unfold Xc;simp only[Aa.Ae,hk];rfl
 ·refine(rI id h l K3 lv w hG ho hl).mono ?_;rintro e w' ⟨rfl,j⟩;refine⟨?_,j⟩;unfold Xc;simp only[Aa.Ae,hk];rfl
 ·refine(aQ id h l K3 lv w hG ho hl).mono ?_;rintro e w' ⟨rfl,j⟩;refine⟨?_,j⟩;unfold Xc;simp only[Aa.Ae,hk];rfl
 ·refine(iM id h l K3 lv w hG ho hl).mono ?_;rintro e w' ⟨rfl,j⟩;refine⟨?_,j⟩;unfold Xc;simp only[Aa.Ae,hk];rfl
 ·refine(aI id h l K3 lv w hG ho hl).mono ?_;rintro e w' ⟨rfl,j⟩;refine⟨?_,j⟩;unfold Xc;simp only[Aa.Ae,hk];rfl
 ·refine(Ss id h l K3 lv w hl).mono ?_;rintro e w' ⟨rfl,j⟩;refine⟨?_,j⟩;rw[v];unfold Xc;simp only[Aa.Ae,hk];rfl
 ·refine(rL (N:=N) (E:=E) id h l lv w hl).mono ?_;rintro e w' ⟨rfl,j⟩;refine⟨?_,j⟩;rw[v];unfold Xc;simp only[Aa.Ae,Aa.Ag,hk];rfl
 ·refine(rK (N:=N) (E:=E) id h l K3 lv w hl).mono ?_;rintro e w' ⟨rfl,j⟩;refine⟨?_,j⟩;rw[y];unfold Xc;simp only[Aa.Ae,Aa.Ag,hk];rfl
 ·refine(YB id h l K3 lv w hG ho hl).mono ?_;rintro e w' ⟨rfl,j⟩;refine⟨?_,j⟩;unfold Xc;simp only[Aa.Ae,hk];rfl
 ·refine(rJ id h l K3 lv w hG ho hl).mono ?_;rintro e w' ⟨rfl,j⟩;refine⟨?_,j⟩;unfold Xc;simp only[Aa.Ae,hk];rfl
def xZ(t:Aa)(h:Cv t.hd.kind=false):Xc t=false:=by
 have q:¬(1<=t.hd.kind/\t.hd.kind<=11):=by intro j;simp[Cv,j.1,j.2]at h
 unfold Xc;rw[Qa oM,Qa oM,Qa oM,Qa oM,Qa oM,Qa oM,Qa oM,Qa oM,Qa oM,Qa oM,Qa oM]
def Yu(form:Int):∀(l:Qp) (e:Int),checkFrom form l e=if l.all Xc then(if l.all (Zj form)then e else 61)else 60
 | [],e=>by simp[checkFrom]
 |x::l,e=>by
  rw[checkFrom,Yu form l];cases h1:Xc x<;>cases h2:Zj form x<;>cases h3:l.all Xc<;>cases h4:l.all (Zj form)<;>simp[h1,h2,h3,h4]
def Up(p:Aa->Bool):∀(l:Qp) (k:Nat) (h:k<l.length),(l.take (k+1)).all p=((l.take k).all p&&p (l[k]))
 |x::l,0,_=>sM
 |x::l,k+1,h=>by simp only[Nc,Il,L0];rw[Up p l k (by simpa using h),Bool.and_assoc]
def Sw(E:Am)(r:Int):Q0:=if r=60 then .iface G6 (.pointer (some E.tree))else if r=61 then .iface G6 (.pointer (some E.form))else .nilIface
def Jd{cs:Array Q0}{t:TypeId}(h:w.heap[b]? =some (.cells cs t (0,0))):∀j,w.frozen? ⟨b,j,none⟩=false:=Je h
def iX{P Q:Prop}(h:Q)(f:Wz Q->P:=by
 intro zz;gi_at_call 99;refine(Qr (rB t K3 _ _ hc (hr.same Xd))).mono ?_;rintro e w1 ⟨rfl,hkL⟩;have hi:=hkL.same w.heap.size _ (show _=some (.cells #[i6 id] 81 (0,0)) from CH) trivial;have i0:=Q4 hi;have hb:=hkL.same (w.heap.size+1) _ (show _=some (.cells (nR t.hd (.slice a t.l.length cap)) 27 (0,0)) from CH) trivial;have n0:=Qi hb;have hGL:=hG.same (Ac.trans Xd hkL);have gT:=hGL.tree;revert w1 hkL hi i0 hb n0 hGL gT;exact zz.o):P:=f ⟨h⟩
def yA{P Q:Prop}(h:Q)(f:Wz Q->P:=by
 intro zz;gi_at_call 29;refine(Qr (Pq t _ _ (hr.same Xd) hok)).mono ?_;rintro e w2 ⟨rfl,hkL⟩;have hi:=hkL.same w.heap.size _ (show _=some (.cells #[i6 id] 81 (0,0)) from CH) trivial;have i0:=Q4 hi;have hb:=hkL.same (w.heap.size+1) _ (show _=some (.cells (nR t.hd (.slice a t.l.length cap)) 27 (0,0)) from CH) trivial;have n0:=Qi hb;have hGL:=hG.same (Ac.trans Xd hkL);have gT:=hGL.tree;revert w2 hkL hi i0 hb n0 hGL gT;exact zz.o):P:=f ⟨h⟩
def It(id:Int)(t:Aa)(lv:Q0)(w:Qm)(hG:Ah N E w)(hc:t.depth<=1099511627776)(hr:Ad K3 w t.l lv)(hok:t.hd.ok):
  Calls prog 54 #[.agg #[.int .i64 id],Qu t.hd lv] w fun e w'=>e=.returned (Sw E (Q5 t id))/\Qd w w':=by
 obtain⟨a,cap,rfl⟩:=hr.Ab
 obtain⟨dd,c8⟩:∃r,decide ((16:Int)< (t.depth:Int))=r:=⟨_,rfl⟩
 obtain⟨dc,cb⟩:∃r,decide ((300:Int)<Yk t)=r:=⟨_,rfl⟩
 have k:Q5 t id=if dd||dc then 60 else checkFrom id t.flat 0:=by
  have e1:decide ((16:Int)< (t.depth:Int))=decide (16<t.depth):=iL 16 t.depth;rw[<-c8,<-cb,e1];unfold Q5;by_cases h1:16<t.depth<;>by_cases j:300<Yk t<;>simp[h1,j]
 replace k:=Qc k
 have ch:∀(W:Qm) (K:Exit->Act->Qm->Prop),True:=fun _ _=>trivial
 refine(J5 (n:=0)).1 (Vy func54 rfl trivial ?_ rfl)
 simp only[ntmps54]
 refine Ie ?_
 gi_wp2
 refine Jy ?_
 cases dd
 ·cases dc
  ·gi_wp2_with(first
    | (refine iX ?_;intro w1 hkL hi i0 hb n0 hGL gT)
    | (refine yA ?_;intro w2 hkL hi i0 hb n0 hGL gT)
    | (gi_at_call 100;refine(Qr (rR _)).mono ?_;rintro e y ⟨kb,rfl,ca,hkL⟩;have hi:=hkL.same w.heap.size _ (show _=some (.cells #[i6 id] 81 (0,0)) from CH) trivial;have i0:=Q4 hi;have hb:=hkL.same (w.heap.size+1) _ (show _=some (.cells (nR t.hd (.slice a t.l.length cap)) 27 (0,0)) from CH) trivial;have n0:=Qi hb;have hGL:=hG.same (Ac.trans Xd hkL);have gT:=hGL.tree)
    | (gi_at_call 63;refine(Qr (Pp t.hd a t.l.length cap _)).mono ?_;rintro e w' ⟨rfl,rfl⟩))
   refine Ez ?_;have b3:=Qb (o:=.cells #[.nilIface] 66) (Qb (o:=.cells #[.map (some kb)] 125) hb);have b4:=Qb (o:=.cells #[.nilIface] 66) (Qb (o:=.cells #[.map (some kb)] 125) hi);have b6:=Qb (o:=.cells #[.nilIface] 66) (Qb (o:=.cells #[.map (some kb)] 125) ca);have b5:((y.alloc (.cells #[.map (some kb)] 125)).alloc (.cells #[.nilIface] 66)).heap[y.heap.size+1]? =some (.cells #[.nilIface] 66 (0,0)):=Ql sM;have b9:((y.alloc (.cells #[.map (some kb)] 125)).alloc (.cells #[.nilIface] 66)).heap[y.heap.size]? =some (.cells #[.map (some kb)] 125 (0,0)):=Qb (Ql sM);have bc:Qd w ((y.alloc (.cells #[.map (some kb)] 125)).alloc (.cells #[.nilIface] 66)):=Xd;have b0:((y.alloc (.cells #[.map (some kb)] 125)).alloc (.cells #[.nilIface] 66)).heap.size=y.heap.size+2:=sM;generalize((y.alloc (.cells #[.map (some kb)] 125)).alloc (.cells #[.nilIface] 66))=W4 at b3 b4 b6 b5 b9 bc b0|-;have m0:=Qi b3;gi_wp2_with(gi_at_call 63;refine(Qr (Pp t.hd a t.l.length cap _)).mono ?_;rintro e w' ⟨rfl,rfl⟩);have b8:A0 (W4.alloc (.cells (Qn t.hd (.slice a t.l.length cap)).toArray 27)) W4.heap.size t.hd (.slice a t.l.length cap):=Qt W4 _;have b7:=Qb (o:=.cells (Qn t.hd (.slice a t.l.length cap)).toArray 27) b4;have ab:=Qb (o:=.cells (Qn t.hd (.slice a t.l.length cap)).toArray 27) b6;have bd:=Qb (o:=.cells (Qn t.hd (.slice a t.l.length cap)).toArray 27) b5;have c2:=Qb (o:=.cells (Qn t.hd (.slice a t.l.length cap)).toArray 27) b9;have af:Qd w (W4.alloc (.cells (Qn t.hd (.slice a t.l.length cap)).toArray 27)):=bc.alloc _;have c9:(W4.alloc (.cells (Qn t.hd (.slice a t.l.length cap)).toArray 27)).heap.size=y.heap.size+3:=by simp[b0]
   rw[b0]at b8;generalize W4.alloc (.cells (Qn t.hd (.slice a t.l.length cap)).toArray 27)=W5 at b8 b7 ab bd c2 af c9|-;have c7:=hr.same af;have d0:w.heap.size<=y.heap.size:=(show Qd w y from Xd).size;have c3:=Qg ab;have be:kb≠y.heap.size+1:=by rintro rfl;rw[bd]at ab;cases ab
   have a5:∀A,Ac (fun b _=>b<W5.heap.size/\b≠y.heap.size+1) W5 A->Qd w A:=fun A c6=>
    (Ho af c6 fun b o hb=>⟨Qg (af.same b o hb trivial),Ku hb⟩)
   clear b3 b4 b6 b5 b9 bc b0 m0;refine Jt (gf:=111) (lb:=#[pt (y.heap.size+2)])
    rfl (X3 func111 kM rfl) t.flat.length (YC t.flat) (fun b o=>b≠y.heap.size+1∨∀c f,o≠ .cells c 66 f) (fun _ _=>True)
    (fun _=>True) (fun _ _=>True) ?hit ?hSb (fun _ _ _ _ _=>trivial)
    (fun i A=>Ac (fun b _=>b<W5.heap.size/\b≠y.heap.size+1) W5 A/\Boxed A (y.heap.size+1) 66 (Sw E (if(t.flat.take i).all (Zj id)then 0 else 61))/\(t.flat.take i).all Xc=true)
    (fun i c A=>c=.exit 0/\Ac (fun b _=>b<W5.heap.size/\b≠y.heap.size+1) W5 A/\Boxed A (y.heap.size+1) 66 (Sw E 60)/\∃hi:i<t.flat.length,Xc (t.flat[i])=false)
    ?hI ?hIx ?hE (fun _ _ _ _=>trivial) (fun _ _ _ _ _=>trivial) ?hEs ?h0
    (fun i v a' A=>∃(hi:i<t.flat.length) (lv:Q0) (xb:Nat),v=#[Qu (t.flat[i]).hd lv]/\A0 A xb (t.flat[i]).hd lv/\a'={tmps:=#[.agg #[i6 id],Qu t.hd (.slice a t.l.length cap),pt w.heap.size,pt (w.heap.size+1),.nilIface,pt y.heap.size,pt (y.heap.size+1),pt xb,undef,undef,.agg (nR t.hd (.slice a t.l.length cap)),i6 t.depth,.bool false,.bool false,.agg (nR t.hd (.slice a t.l.length cap)),i6 (Yk t),.bool false,.bool false,undef,.map (some kb),.agg (nR t.hd (.slice a t.l.length cap)),.func (.func 111) #[] #[pt (y.heap.size+2)],Qu (t.flat[i]).hd lv,undef,undef,undef,undef,undef,undef,undef,undef,undef,undef,undef,undef,undef,undef,undef,undef,undef,undef,undef,undef,undef,undef,undef,undef,undef],defers:=[]})
    ?hAx ?hassign ?hbody ?hdone ?hstop
   case hit=>
    intro W2 bg cf;exact Su t _ _ _ _ W2 (b8.same bg) (c7.same bg) hok fun b c f=>.inr sM
   case hSb=>exact fun b o hb ho=>.inr fun c f e=>by subst e;cases ho
   case hI=>
    rintro i A B ⟨h1,j,h3⟩ hk;exact⟨h1.trans (hk.mono fun b o _ z=>⟨.inl z.1,trivial⟩),hk.boxed j ⟨.inr rfl,trivial⟩,h3⟩
   case hIx=>
    rintro i c A B ⟨h0,h1,j,h3⟩ hk;exact⟨h0,h1.trans (hk.mono fun b o _ z=>⟨.inl z.1,trivial⟩),hk.boxed j ⟨.inr rfl,trivial⟩,h3⟩
   case hE=>
    exact xI
   case hEs=>
    rintro i v A ⟨hi,lv,rfl,_⟩;rfl
   case h0=>exact⟨Ac.refl _ _,bd,rfl⟩
   case hAx=>
    rintro i v a' A B ⟨hi,lv,xb,h0,h1,j⟩ hk;exact⟨hi,lv,xb,h0,h1.Af hk fun _ _=>.inr rfl,j⟩
   case hassign=>
    rintro l i v A K hi ⟨h1,j,h3⟩ ⟨a8,lv,rfl,hrr,a1⟩ hK;obtain⟨xa,xc,rfl⟩:=hrr.Ab;gi_wp2;refine hK _ _ ((Ac.refl _ _).alloc _) ?_ ?_ ⟨a8,_,A.heap.size,rfl,Qt A _,rfl⟩
    ·exact⟨h1.alloc _,j.alloc _,h3⟩
    ·exact⟨a8,_,rfl,hrr.same ((Ac.refl _ _).alloc _),a1⟩
   case hbody=>
    rintro l i v a' A hl _ hi ⟨h1,j,h3⟩ ⟨a8,lv,hv,hrr,a1⟩ ⟨cg,c5,xb,ba,hx,rfl⟩;obtain rfl:lv=c5:=by rw[hv]at ba;simpa using ba
    clear hv ba;have ae:=a5 A h1;have u:=hG.same ae;have ce:=h1.same _ _ ab ⟨c3,be⟩;have cc:=h1.same _ _ c2 ⟨oM,oM⟩;have ah:=h1.same _ _ b7 ⟨Qg b7,oM⟩;have d:=Up Xc t.flat i hi;have a0:=Up (Zj id) t.flat i hi;rw[h3,MY]at d;generalize b1:t.flat[i]=x at d a0 hx hrr a1|-;obtain⟨h,ls,rfl⟩:∃h ls,x=.node h ls:=⟨x.hd,x.l,(Aa.eta x).symm⟩;simp only[Aa.Ae,Aa.Ag]at hx hrr a1|-;obtain⟨xa,xc,rfl⟩:=hrr.Ab;have y0:=Q4 cc;have y1:=Q4 ah;have p0:=Qi hx;have L:=YP A kb h.kind ce;have a3:=j.cell;have c0:=Jd j;have gT:=u.tree;have gF:=u.form;replace b1:=Qc b1;obtain⟨c4,m⟩:∃r,Cv h.kind=r:=⟨_,rfl⟩;cases c4 with
    |false=>
     have aa:=xZ (.node h ls) m;have ac:BV h.kind=.nilFunc:=by unfold BV;rw[m];rfl
     rw[m,ac]at L;replace aa:=Qc aa;clear m ac;gi_wp2;refine⟨?_,rfl,?_,?_,hi,by rw[b1.out];exact aa.out⟩
     ·refine(Ac.refl _ A).setCell _ fun o ho z _=>?_
      have a9:A.heap[y.heap.size+1]? =some (.cells #[_] 66 (0,0)):=j;rw[show((ad (y.heap.size+1) 0):Addr).block=y.heap.size+1 from rfl,a9]at ho;cases ho;rcases z with z|z
      ·exact z rfl
      ·exact z _ _ rfl
     ·exact h1.setCell _ fun o _ z _=>z.2 rfl
     ·exact j.set _
    |true=>
     have cd:1<=h.kind/\h.kind<=11:=by simpa[Cv] using m
     obtain⟨n,hn⟩:∃n:Nat,h.kind=n:=⟨h.kind.toNat,oM⟩;have c1:1<=n/\n<=11:=oM;have ac:BV h.kind=.func (.func (kindFn n)) #[] #[]:=by unfold BV;rw[m,hn];rfl
     rw[m,ac]at L;have a2:=fun W (hW:Ah N E W) (hR:Ad K3 W ls (.slice xa ls.length xc))=>xY id h ls (.slice xa ls.length xc) W n c1 hn hW a1 hR
     have b2:=fun bf W=>aZ n bf W c1
     generalize kindFn n=g at L a2 b2;clear ac hn cd m;obtain⟨r,a7⟩:=X0 (Xc (.node h ls));obtain⟨f,ag⟩:=X0 (Zj id (.node h ls));rw[a7]at d;rw[ag]at a0;simp only[a7]at a2;replace a7:=Qc a7;replace ag:=Qc ag;replace d:=Qc d;replace a0:=Qc a0;gi_wp2_with fail;refine(Hl l (a2 A u hrr)).mono ?_;rintro e B ⟨rfl,p⟩;have hx:=hx.same p;have ah:=p.s ah;have j:=p.boxed j trivial;have u:=u.same p;have hrr:=hrr.same p;have y1:=Q4 ah;have p0:=Qi hx;have a3:=j.cell;have c0:=Jd j;have gT:=u.tree;have gF:=u.form;clear L a2 b2;cases r with
     |false=>
      gi_wp2;refine⟨?_,rfl,?_,?_,hi,by rw[b1.out];exact a7.out⟩
      ·refine((Ac.of_same p).setCell _ fun o ho z _=>?_);have a9:B.heap[y.heap.size+1]? =some (.cells #[_] 66 (0,0)):=j;rw[show((ad (y.heap.size+1) 0):Addr).block=y.heap.size+1 from rfl,a9]at ho;cases ho;rcases z with z|z
       ·exact z rfl
       ·exact z _ _ rfl
      ·exact(h1.trans (Ac.of_same p)).setCell _ fun o _ z _=>z.2 rfl
      ·exact j.set _
     |true=>
      gi_wp2_with fail;refine(Hl l (xX id h ls _ _ u a1 hrr)).mono ?_;rintro e C ⟨rfl,a6⟩;rw[ag.out];have j:=a6.boxed j trivial;have u:=u.same a6;have a3:=j.cell;have c0:=Jd j;have gT:=u.tree;have gF:=u.form;cases f with
      |false=>
       gi_wp2;refine⟨?_,?_,?_,d.out⟩
       ·refine((Ac.of_same (p.trans a6)).setCell _ fun o ho z _=>?_);have a9:C.heap[y.heap.size+1]? =some (.cells #[_] 66 (0,0)):=j;rw[show((ad (y.heap.size+1) 0):Addr).block=y.heap.size+1 from rfl,a9]at ho;cases ho;rcases z with z|z
        ·exact z rfl
        ·exact z _ _ rfl
       ·exact(h1.trans (Ac.of_same (p.trans a6))).setCell _ fun o _ z _=>z.2 rfl
       ·rw[a0.out,Bool.and_false];exact j.set _
      |true=>
       gi_wp2;refine⟨Ac.of_same (p.trans a6),h1.trans (Ac.of_same (p.trans a6)),?_,d.out⟩;rw[a0.out,Bool.and_true];exact j
   case hdone=>
    rintro D A hD ⟨h1,j,h3⟩ _ hk hDB;have ae:=a5 A h1;have a3:=j.cell;rw[Vc]at j h3 a3;have a4:checkFrom id t.flat 0=if t.flat.all (Zj id)then 0 else 61:=by rw[Yu,h3];rfl
    rw[<-a4]at a3;have HC:=Qc a4;clear a4 h3;generalize checkFrom id t.flat 0=q at a3 k;generalize bb:Sw E q=ev at a3;gi_wp2;refine Sm ?_;exact⟨_,Gn rfl _ _ _,by rw[k.out,<-bb];rfl,ae.putObj _ fun o _ _ h=>oM⟩
   case hstop=>
    rintro D i c A hD hi ⟨rfl,h1,j,a8,h3⟩ _ hk hDB;have ae:=a5 A h1;have a3:=j.cell;have a4:checkFrom id t.flat 0=60:=by
     rw[Yu,Qa];intro bh
     have:=Vf.1 bh _ (Zp a8);rw[h3]at this;cases this
    replace a4:=Qc a4;clear h3;generalize bb:Sw E 60=ev at a3;gi_wp2;refine Sm ?_;exact⟨_,Gn rfl _ _ _,by rw[k.out,<-bb,<-a4.out];rfl,ae.putObj _ fun o _ _ h=>oM⟩
  ·gi_wp2_with(first
    | (refine iX ?_;intro w1 hkL hi i0 hb n0 hGL gT)
    | (refine yA ?_;intro w2 hkL hi i0 hb n0 hGL gT))
   exact⟨_,Gn rfl _ _ _,by rw[k.out];rfl,Xd⟩
 ·gi_wp2_with(first
    | (refine iX ?_;intro w1 hkL hi i0 hb n0 hGL gT))
  exact⟨_,Gn rfl _ _ _,by rw[k.out];rfl,Xd⟩
def YQ(t:Aa)(id:Int):Q5 t id=60∨Q5 t id=61∨Q5 t id=0:=by
 unfold Q5;split
 ·exact .inl rfl
 ·rw[Yu];split
  ·split
   ·exact .inr (.inr rfl)
   ·exact .inr (.inl rfl)
  ·exact .inl rfl
def Iu{P:Prop}(h:P:=by
 exact⟨by rw[HR.out];rfl,Xd⟩):P:=h
def YR{P:Prop}(h:P:=by
 rintro e w2 ⟨rfl,h9⟩;replace h9:=h9.symm;subst h9;go_wp2;go_ret;exact Iu):P:=h
def G8(id:Int)(t:Aa)(lv:Q0)(w:Qm)(hG:Ah N E w)(hc:t.depth<=1099511627776)(hr:Ad K3 w t.l lv)(hok:t.hd.ok):
  Calls prog 20 #[Qu t.hd lv,.int .i64 id] w fun e w'=>e=.returned (.int .i64 (Q5 t id))/\Qd w w':=by
 obtain⟨a,k,rfl⟩:=hr.Ab
 have z:=YQ t id
 obtain⟨r,y⟩:=X0 (Q5 t id)
 have HR:=Qc y
 rw[y]at z
 clear y
 rcases z with rfl|rfl|rfl
 ·have v:Sw E 60=.iface G6 (.pointer (some E.tree)):=rfl;go_in;go_wp2_with(go_at_call 54;refine(It id t _ _ (hG.same Xd) hc (hr.same Xd) hok).mono ?_;rintro e d ⟨rfl,q⟩;rw[HR.out,v];have j:=hG.same (Ac.trans Xd q);have u:=j.tree;have c:=j.form);refine(MX E.tree _).mono ?_;exact YR
 ·have v:Sw E 61=.iface G6 (.pointer (some E.form)):=rfl;go_in;go_wp2_with(go_at_call 54;refine(It id t _ _ (hG.same Xd) hc (hr.same Xd) hok).mono ?_;rintro e d ⟨rfl,q⟩;rw[HR.out,v];have j:=hG.same (Ac.trans Xd q);have u:=j.tree;have c:=j.form);obtain⟨n,c1,p,b⟩:=j.obj E.form (.inr (.inl rfl));obtain⟨m,c2,x,f⟩:=j.obj E.tree (.inl rfl);refine(Ui E.form E.tree c1 c2 p x _ (fun e=>hG.apart.1 e.symm) b f).mono ?_;rintro e w2 ⟨rfl,h9⟩;replace h9:=h9.symm;subst h9;clear b f n m;go_wp2_with fail;refine(MX E.form _).mono ?_;exact YR
 ·have v:Sw E 0=.nilIface:=rfl;go_in;go_wp2_with(go_at_call 54;refine(It id t _ _ (hG.same Xd) hc (hr.same Xd) hok).mono ?_;rintro e d ⟨rfl,q⟩;rw[HR.out,v];have j:=hG.same (Ac.trans Xd q);have u:=j.tree;have c:=j.form);refine(YE E.tree _).mono ?_;rintro e w2 ⟨rfl,h9⟩;replace h9:=h9.symm;subst h9;go_wp2_with fail;refine(YE E.form _).mono ?_;exact YR
def E0(t:Aa)(lv:Q0)(w:Qm)(hG:Ah N E w)(hc:t.depth<=1099511627776)(hr:Ad K3 w t.l lv)(hok:t.hd.ok):
  Calls prog 46 #[Qu t.hd lv] w fun e w'=>e=.returned (.bool (!decide (Q5 t 2=60)))/\Qd w w':=by
 obtain⟨a,q,rfl⟩:=hr.Ab
 obtain⟨r,j⟩:=X0 (Q5 t 2)
 replace j:=Qc j
 go_in
 go_wp2_with(go_at_call 20;refine(G8 2 t _ _ (hG.same Xd) hc (hr.same Xd) hok).mono ?_;rintro e y ⟨rfl,v⟩;rw[j.out])
 go_ret
 exact⟨by rw[j.out];simp[bne,To],Xd⟩
def Dd(E:Am)(s:Nat):Q0:=if s=0 then .nilIface else if s=1 then .iface G6 (.pointer (some E.ptree))else .iface G6 (.pointer (some E.keys))
def Uq(s:Nat):Int:=if s=0 then 0 else if s=1 then 60 else 160
def YS{P:Prop}(h:P:=by
 rintro e w2 ⟨rfl,h9⟩;replace h9:=h9.symm;subst h9;exact Nv):P:=h
def bA(s:Nat)(w:Qm)(hG:Ah N E w)(hs:s<=2):
  Calls prog 48 #[Dd E s] w fun e w'=>e=.returned (.int .i64 (Uq s))/\w'=w:=by
 have f:=hG.keys
 have d:=hG.ptree
 obtain⟨v,b,u,c⟩:=hG.obj E.keys (.inr (.inr (.inl rfl)))
 obtain⟨y,z,m,n⟩:=hG.obj E.ptree (.inr (.inr (.inr rfl)))
 have q:s=0∨s=1∨s=2:=oM
 rcases q with rfl|rfl|rfl
 ·have j:Dd E 0=.nilIface:=rfl;rw[j];go_in;go_wp2_with fail;refine(YE E.keys _).mono ?_;rintro e w2 ⟨rfl,h9⟩;replace h9:=h9.symm;subst h9;go_wp2_with fail;refine(YE E.ptree _).mono ?_;exact YS
 ·have j:Dd E 1=.iface G6 (.pointer (some E.ptree)):=rfl;rw[j];go_in;go_wp2_with fail;refine(Ui E.ptree E.keys z b m u _ (fun e=>hG.apart.2 e.symm) n c).mono ?_;rintro e w2 ⟨rfl,h9⟩;replace h9:=h9.symm;subst h9;go_wp2_with fail;refine(MX E.ptree _).mono ?_;exact YS
 ·have j:Dd E 2=.iface G6 (.pointer (some E.keys)):=rfl;rw[j];go_in;go_wp2_with fail;refine(MX E.keys _).mono ?_;exact YS
def yB{P:Prop}(h:P:=by
 go_wp2;go_end0;exact⟨rfl,Qk hb 0 _,(Ac.refl _ _).setCell _ fun o _ h _=>h rfl⟩):P:=h
def Lg(s e b:Nat)(w:Qm)(hG:Ah N E w)(hs:s<=2)(he:e=1∨e=2)(hb:w.heap[b]? =some (.cells #[Dd E s] 68 (0,0))):
  Calls prog 47 #[.pointer (some ⟨b,0,none⟩),Dd E e] w fun x w'=>x=.returned (.tuple #[])/\w'.heap[b]? =some (.cells #[Dd E (max s e)] 68 (0,0))/\Ac (fun k _=>k≠b) w w':=by
 have gK:=hG.keys
 obtain⟨t,c,r,u⟩:=hG.obj E.keys (.inr (.inr (.inl rfl)))
 obtain⟨n,q2,p,d⟩:=hG.obj E.ptree (.inr (.inr (.inr rfl)))
 have m:=Q4 hb
 have a0:=Jd hb
 by_cases h0:s=0
 ·subst h0;have q:Dd E 0=.nilIface:=rfl;rw[q]at m;have j:max 0 e=e:=oM;obtain⟨z,y⟩:∃z:Addr,Dd E e=.iface G6 (.pointer (some z)):=by
   rcases he with rfl|rfl<;>exact⟨_,rfl⟩
  rw[j,y];clear j;go_in;exact yB
 ·obtain⟨z,y⟩:∃z:Addr,Dd E s=.iface G6 (.pointer (some z)):=by
   have:s=1∨s=2:=oM;rcases this with rfl|rfl<;>exact⟨_,rfl⟩
  rw[y]at m;rcases he with rfl|rfl
  ·have j:max s 1=s:=oM;have q:Dd E 1=.iface G6 (.pointer (some E.ptree)):=rfl;rw[q,j];go_in;go_wp2_with fail;refine(Ui E.ptree E.keys q2 c p r _ (fun e=>hG.apart.2 e.symm) d u).mono ?_;rintro x f ⟨rfl,v⟩;replace v:=v.symm;subst v;go_wp2;go_end0;exact⟨rfl,hb,Ac.refl _ _⟩
  ·have j:max s 2=2:=oM;have q:Dd E 2=.iface G6 (.pointer (some E.keys)):=rfl;rw[j,q];go_in;go_wp2_with fail;refine(MX E.keys _).mono ?_;rintro x f ⟨rfl,v⟩;replace v:=v.symm;subst v;exact yB
def AH(w:Qm)(b o:Nat)(ys:Qv):Prop:=∀k,k<ys.length->w.cell? ⟨b,o+k,none⟩=some (.int .u8 (Zi ys k))
def AH.Af{S:Nat->Obj->Prop}{b o:Nat}{ys:Qv}(h:AH w b o ys)(hk:Ac S w w')(hS:∀o',w.heap[b]? =some o'->S b o'):AH w' b o ys:=fun k j=>hk.cell (h k j) hS
def Cw(tb:Nat)(xs:Qv):Qv:=G4 tb 8 (0,0) xs++if 0< (K7 tb 8 xs xs.length).2 then[(K7 tb 8 xs xs.length).1*2^(tb-(K7 tb 8 xs xs.length).2)]else[]
def J3(ys ns:Qv):Qv:=ns.map (Zi ys)
def yC(tb:Nat)(s:St):∀x∈ZG tb s,x<2^tb:=by
 intro x hx;obtain⟨j,q,rfl⟩:=Xq.1 hx;have q:=Vw.1 q;have v:0<tb:=by
  rcases N9 tb with h|h
  ·subst h;simp at q
  ·exact h
 have y:(j+1)*tb<=s.2:=(Nat.le_div_iff_mul_le v).1 q;rw[Pc]at y|-;have z:s.2-j*tb=(s.2-(j*tb+tb))+tb:=oM;rw[z,Cb];exact Uk (Hj _ (Nat.mul_pos (Ng _) (Ng _)))
def oG(tb fr:Nat):∀(s:St) (xs:Qv),∀x∈G4 tb fr s xs,x<2^tb
 |_,[],_,h=>by simp[G4]at h
 |s,y::xs,x,h=>by
  simp only[G4,Kn]at h;rcases h with h|h
  ·exact yC tb _ x h
  ·exact oG tb fr _ xs x h
def ZS(l:Qv)(b:Nat)(hb:0<b)(h:∀x∈l,x<b)(k:Nat):Zi l k<b:=by
 unfold Zi;rw[K9];cases e:l[k]? with
 |none=>exact hb
 |some x=>exact h x (Pm e)
def iY(ys xs:Qv)(k:Nat)(h:k<xs.length):J3 ys (xs.take (k+1))=J3 ys (xs.take k)++[Zi ys (Zi xs k)]:=by
 rw[TW xs k h];simp[J3]
def Qdx(n d:Nat)(hn:n<256)(hd:d<=8):IntKind.u64.wrap ((n:Int)*2^d)=((n*2^d:Nat):Int):=by
 have j:=TU d 8 hd;have q:n*2^d<=255*256:=LR oM j;have e:((n:Int)*2^d)=((n*2^d:Nat):Int):=by push_cast;rfl
 rw[e,X7 oM oM]
def iZ{P:Prop}(h:P:=by
 rcases h with h|h
 ·exact .inl (key _ h)
 ·exact .inr (key _ h)):P:=h
def V1{S:Nat->Obj->Prop}{xs:Qv}(h:EU B b xs w)(hk:Ac S w w')(h1:∀c f,S b (.cells c 118 f))(h2:∀g c f,B<=g->w.heap[g]? =some (.cells c 5 f)->S g (.cells c 5 f)):EU B b xs w':=by
 have key:∀p,Lib.BuilderAt 118 5 B b p (Xl xs) w->Lib.BuilderAt 118 5 B b p (Xl xs) w':=by
  rintro p ⟨d,v,t,j,n⟩;refine⟨d,v,hk.same _ _ t (h1 _ _),⟨j.1,?_⟩,n⟩;rcases j.2 with h| ⟨g,m,z,k,u,q,y⟩
  ·exact .inl h
  ·exact .inr ⟨g,m,z,k,u,hk.same _ _ q (h2 _ _ _ u q),y⟩
 exact iZ
def J4(B b:Nat)(xs:Qv)(w:Qm)(h:EU B b xs w)(hx:∀x∈xs,x<256)(hB:B<=w.heap.size):
  Calls prog 95 #[.pointer (some ⟨b,0,none⟩)] w fun e w'=>e=.returned (.string (Xh xs))/\Ac (fun k o=>k<B∨(k≠b/\∀c f,o≠ .cells c 5 f)) w w':=by
 unfold EU at h
 rw[Ic xs hx]at h
 refine(Tryz.Builder_String_any_k B b _ w (Lib.IsBuilderF.of h) hB).mono ?_
 rintro e w' ⟨rfl,_,j,y⟩
 refine⟨rfl,j.os,j.tape,j.output,j.size,fun k o v q=>?_⟩
 rcases q with q| ⟨z,m⟩
 ·exact(j.block k q).trans v
 ·exact y k o v (by simpa using z) m
def yD{P:Prop}(h:P:=by
 refine .inl ⟨oM,.slice none 0 0,?_,Yz _ _ _ _,by simp[Value.ownBlock]⟩;rw[<-hW1];exact CH):P:=h
def jA{P:Prop}(h:P:=by
 exact⟨oM,.inr fun c f e=>by subst e;cases ho⟩):P:=h
def yE{P:Prop}(h:P:=by
 refine⟨sM,.inl ⟨_,_,rfl,Vx hd',?_⟩⟩;exact⟨_,Gn rfl _ _ _,rfl,hs'⟩):P:=h
def jB(s:Qo)(tb sb so cap:Nat)(ys:Qv)(w:Qm)(hto:1<=tb)(hto8:tb<=8)(hyl:Hid (ys.length=2^tb))(hs:s.size<=1073741824)(hB:AH w sb so ys)(hsb:sb<w.heap.size)(hy:∀k,Zi ys k<256):
  Calls prog 202 #[.string s,.int .i64 tb,.slice (some ⟨sb,so,none⟩) ys.length cap] w fun e w'=>
   e=.returned (.string (Xh (J3 ys (Cw tb (Qf s)))))/\Qd w w':=by
 refine(J5 (n:=0)).1 ?_
 refine Vy func202 rfl trivial ?_ rfl
 simp only[ntmps202,Gj,Xf,Vp,Nat.reduceAdd,Nat.reduceSub,Qdi,Qdj,VO,nC,Ri,Y0]
 gi_wp2_with(first
  | (gi_at_call 262;refine(Qr (wT s _)).mono ?_;rintro e w' ⟨rfl,rfl⟩)
  | (gi_at_call 261;refine(Qr (iC _ _ 317 _ _)).mono ?_;rintro e w' ⟨rfl,rfl⟩))
 generalize hW1:World.alloc _ (.cells #[.int .i64 8] 3)=W1
 have hz:W1.heap.size=w.heap.size+7:=by rw[<-hW1];simp
 have t:Qd w W1:=by rw[<-hW1];exact((((((((Ac.refl _ w).alloc _).alloc _).alloc _).alloc _).alloc _).alloc _).alloc _)
 have b0:Boxed W1 w.heap.size 116 (.slice (some ⟨sb,so,none⟩) ys.length cap):=by rw[<-hW1];exact CH
 have b1:EU w.heap.size (w.heap.size+1) [] W1:=by
  exact yD
 have b2:Aq W1 (w.heap.size+1+1) 0 0 tb:=by rw[<-hW1];exact CH
 have b3:Boxed W1 (w.heap.size+1+1+1) 9 (.string s):=by rw[<-hW1];exact CH
 have b4:Boxed W1 (w.heap.size+1+1+1+1) 267 (.pointer (some ⟨w.heap.size+1+1,0,none⟩)):=by rw[<-hW1];exact CH
 have b5:Boxed W1 (w.heap.size+1+1+1+1+1) 273 (.func (.func 317) #[] #[.pointer (some ⟨w.heap.size+1+1+1,0,none⟩)]):=by rw[<-hW1];exact CH
 have b6:Boxed W1 (w.heap.size+1+1+1+1+2) 3 (.int .i64 ((8:Nat):Int)):=by rw[<-hW1];exact CH
 clear hW1
 have bb:AH W1 sb so ys:=hB.Af t fun _ _=>trivial
 have a2:=Q9 s
 have bg:=Yj s
 have hx:∀i,Zi (Qf s) i<2^8:=wF s
 obtain⟨N,hN⟩:=X0 ((G4 tb 8 (0,0) (Qf s)).length)
 have bc:N<=8*s.size:=by
  have y:=TY tb 8 (0,0) (Qf s);rw[a2,hN]at y;have h2:N<=N*tb:=Mc _ oM;omega
 have a9:∀i,Zi (G4 tb 8 (0,0) (Qf s)) i<ys.length:=fun i=>by rw[hyl.out];exact ZS _ _ (Ng _) (oG tb 8 _ _) i
 replace a2:=Qc a2
 replace hN:=Qc hN
 refine Rx (gf:=314) (lb:=#[.pointer (some ⟨w.heap.size+1+1+1+1+1,0,none⟩),.pointer (some ⟨w.heap.size+1+1+1+1,0,none⟩),.pointer (some ⟨w.heap.size+1+1+1+1+2,0,none⟩)])
  rfl (X3 func314 kM rfl) N (fun i v _=>v=#[.int .u64 (Zi (G4 tb 8 (0,0) (Qf s)) i)]) (N2 w.heap.size (w.heap.size+1)) (fun b o=>(b≠w.heap.size+1+1∨∀c f,o≠ .cells c 271 f)/\(b<w.heap.size+9∨o.isCells=true))
  (fun A=>Aq A (w.heap.size+1+1) (K7 tb 8 (Qf s) (Qf s).length).1 (K7 tb 8 (Qf s) (Qf s).length).2 tb/\True) (fun _ _=>True) ?hit ?hSb ?hSi
  (fun i A=>EU w.heap.size (w.heap.size+1) (J3 ys ((G4 tb 8 (0,0) (Qf s)).take i)) A/\Boxed A w.heap.size 116 (.slice (some ⟨sb,so,none⟩) ys.length cap)/\AH A sb so ys)
  (fun _ _ _=>False) ?hI (fun _ _ _ _ h _=>h) (fun _ _ _ _ h _=>h) ?hFin (fun _ _ _ _ _=>trivial) (fun i v A h=>by rw[h];rfl) ⟨b1,b0,bb⟩ ?hround ?hdone (fun _ _ _ _ _ _ h=>h.elim)
 case hit=>
  intro W2 j a8;rw[<-hN.out];refine VS tb 8 hto hto8 oM (w.heap.size+1+1) (w.heap.size+1+1+1+1) (w.heap.size+1+1+1+1+1) (w.heap.size+1+1+1+1+2) 317 #[.pointer (some ⟨w.heap.size+1+1+1,0,none⟩)] (Qf s) hx
   (N2 w.heap.size (w.heap.size+1)) (fun b o=>(b≠w.heap.size+1+1∨∀c f,o≠ .cells c 271 f)/\(b<w.heap.size+9∨o.isCells=true)) (fun _ _=>True) (fun _=>True) W2
   (b2.Af j fun _=>trivial) (j.boxed b4 trivial) ((j.boxed b5 trivial).cell) (j.boxed b6 trivial) ⟨oM,oM⟩ ?_ ?_ ?_ (fun _ _ _ _=>trivial) (X3 func317 kM rfl) ?_ (fun _ _ _ _=>trivial)
  ·exact⟨fun c f=>⟨oM,.inr sM⟩,fun c f=>⟨oM,.inr sM⟩,fun c f=>⟨oM,.inr sM⟩⟩
  ·rintro b o p (ho| ⟨c,f,rfl⟩)
   ·exact jA
   ·exact⟨oM,.inr sM⟩
  ·rintro b o ⟨y,h2⟩;refine⟨fun c f e=>?_,h2.imp (fun h=>oM) id,trivial⟩;rcases y with y|y
   ·exact y
   ·exact absurd e (y c f)
  ·rintro l W3 ⟨r,hl⟩ ae _;have ba:=ae.boxed (j.boxed b3 trivial) trivial;rw[a2.out];exact iB s _ _ _ W3 oM ba fun c f=>⟨J2 (j.boxed b3 trivial).cell hl,oM,oM,.inr sM⟩
 case hSb=>
  intro b o p ho;exact jA
 case hSi=>
  intro b o p a1 ho;exact⟨.inl oM,.inl oM⟩
 case hI=>
  rintro i A B ⟨y,h2,h3⟩ hk;refine⟨V1 y hk (fun c f=>⟨.inr rfl,.inl oM,.inr rfl⟩) (fun g c f _ _=>⟨.inr rfl,.inr sM,.inr rfl⟩),hk.boxed h2 ⟨.inr rfl,.inl oM,.inr rfl⟩,h3.Af hk fun o _=>⟨.inl oM,.inl oM,.inl oM⟩⟩
 case hFin=>
  rintro A B ⟨h,_⟩ hk;exact⟨h.Af hk fun o=>.inl oM,trivial⟩
 case hround=>
  intro i v hv;obtain⟨x,rfl⟩:=E7 rfl hv;apply Exists.intro;apply And.intro
  ·exact LX
  ·rintro l2 A bh _ hi ⟨y,h2,h3⟩ af;obtain rfl:x=.int .u64 (Zi (G4 tb 8 (0,0) (Qf s)) i):=by simpa using af
   have c0:=h2.cell;have c1:=h3 _ (a9 i);have bd:=a9 i;have hl:(J3 ys ((G4 tb 8 (0,0) (Qf s)).take i)).length<=N:=by rw[<-hN.out];simp[J3];omega
   gi_wp2;refine(Hl l2 (Ks _ _ _ _ A y oM (by have:=(wP y).2;omega))).mono ?_;rintro e w2 ⟨rfl,a1,j⟩;gi_wp2;refine⟨j,?_,j.boxed h2 ⟨oM,.inr sM⟩,h3.Af j fun o _=>⟨oM,.inl hsb⟩⟩;rw[iY _ _ _ (by rw[hN.out];exact hi)];exact a1
 case hdone=>
  rintro D A hD ⟨y,h2,h3⟩ ⟨h4,_⟩ hk ab;have a7:=NT tb 8 (Qf s) hto (Qf s).length (Q6 _);have q:J3 ys (Cw tb (Qf s))=J3 ys (G4 tb 8 (0,0) (Qf s))++J3 ys (if 0< (K7 tb 8 (Qf s) (Qf s).length).2 then[(K7 tb 8 (Qf s) (Qf s).length).1*2^(tb-(K7 tb 8 (Qf s) (Qf s).length).2)]else[]):=by simp[Cw,J3]
  rw[<-hN.out,Vc]at y;obtain⟨f,hf⟩:=X0 (K7 tb 8 (Qf s) (Qf s).length);rw[hf]at a7 q h4;obtain⟨n,c⟩:=f;replace q:=Qc q;clear hf;simp only at a7 h4 q;have k0:=h4.c0;have k1:=h4.c1;have c0:=h2.cell;have be:=hk.size;have a6:∀x∈J3 ys (Cw tb (Qf s)),x<256:=by
   intro x hx;obtain⟨i,_,rfl⟩:=Xq.1 hx;exact hy i
  have z:Qd w A:=⟨hk.os.trans t.os,hk.tape.trans t.tape,hk.output.trans t.output,oM,fun b o p _=>hk.same b o (t.same b o p trivial) (by have:=Qg p;exact⟨⟨oM,.inl this⟩,.inl oM,.inl oM⟩)⟩;have ac:∀(A1:Qm) (xs:Qv),Qd w A1->A1.heap[D]? =some (.deferred (some []))->EU w.heap.size (w.heap.size+1) xs A1->xs=J3 ys (Cw tb (Qf s))->w.heap.size<=A1.heap.size->
    Calls prog 95 #[.pointer (some ⟨w.heap.size+1,0,none⟩)] A1 fun e w'=>e=.returned (.string (Xh (J3 ys (Cw tb (Qf s)))))/\Qd w (w'.putObj D (.deferred none))/\w'.heap[D]? =some (.deferred (some [])):=by
   rintro A1 xs a0 b8 ag rfl b7
   refine(J4 _ _ _ A1 ag a6 b7).mono ?_
   rintro e w' ⟨rfl,u⟩
   refine⟨rfl,?_,u.same _ _ b8 (.inr ⟨oM,sM⟩)⟩
   have y:Qd w w':=⟨u.os.trans a0.os,u.tape.trans a0.tape,u.output.trans a0.output,Qj a0.size u.size,fun b o p _=>u.same b o (a0.same b o p trivial) (.inl (Qg p))⟩
   exact y.putObj _ fun o _ _ h=>oM
  by_cases hc:0<c
  ·rw[Qe hc]at q;have k1:=k1;have a5:n*2^(tb-c)<ys.length:=by
    rw[hyl.out,show tb=c+(tb-c) by omega,Cb,show c+(tb-c)-c=tb-c by omega];exact Nat.mul_lt_mul_of_pos_right a7.2 (Ng _)
   have a3:=Qdx n (tb-c) (by have:=TU c 8 oM;omega) oM;have c3:=h3 _ a5;obtain⟨m,hm⟩:=X0 (n*2^(tb-c));obtain⟨d,hd⟩:=X0 (tb-c);obtain rfl:tb=d+c:=oM;rw[hm]at a5 c3 a3 q;rw[hd]at a3;clear hm hd;have bf:IntKind.i64.wrap (d:Int)=d:=EC _ oM;have hl:(J3 ys (G4 (d+c) 8 (0,0) (Qf s))).length<=N:=by rw[<-hN.out];simp[J3]
   gi_wp2;refine Zq (fun A'=>A'.cell? ⟨w.heap.size,0,none⟩=some (.slice (some ⟨sb,so,none⟩) ys.length cap)/\A'.cell? ⟨w.heap.size+1+1,0,none⟩=some (.int .u64 n)/\A'.cell? ⟨w.heap.size+1+1,1,none⟩=some (.int .i64 c)/\A'.cell? ⟨sb,so+m,none⟩=some (.int .u8 (Zi ys m))) reads (fun _=>trivial) rfl
    kM kM ⟨c0,k0,k1,c3⟩ ?_
   repeat(refine Dt rfl rfl ?_;intro K hK w' ⟨e1,e2,e3,e4⟩;go_simp;refine hK _ _ ?_;clear hK K e1 e2 e3 e4 w')
   refine wX ?_;intro K hK;refine(Qr (Ks _ _ _ _ A.drew y oM (by show _<=A.heap.size;omega))).mono ?_;rintro e w2 ⟨rfl,a1,j⟩;have ah:=(j.boxed (w:=A.drew) h2 ⟨oM,.inr sM⟩).cell;have ad:Aq w2 (w.heap.size+1+1) n c (d+c):=j.same _ _ h4 ⟨oM,.inr sM⟩;have b9:AH w2 sb so ys:=AH.Af (w:=A.drew) h3 j fun o _=>⟨oM,.inl hsb⟩
   refine hK _ _ ⟨ah,ad.c0,ad.c1,b9 _ a5⟩ ?_;clear hK K;refine H7 ?_;have a4:Qd w w2:=⟨j.os.trans z.os,j.tape.trans z.tape,j.output.trans z.output,Qj z.size j.size,fun b o p _=>j.same b o (z.same b o p trivial) (by have:=Qg p;exact⟨oM,.inl this⟩)⟩;have aa:w2.heap[D]? =some (.deferred (some [])):=j.same _ _ ab ⟨oM,.inr sM⟩;have a8:=a4.size;gi_wp2_with(gi_at_call 95;refine(Qr (ac w2 _ a4 aa a1 (by rw[q.out];simp[J3]) a8)).mono ?_;rintro e w' ⟨rfl,hs',hd'⟩);exact yE
  ·obtain rfl:c=0:=oM;gi_wp2_with(gi_at_call 95;refine(Qr (ac A _ z ab y (by rw[q.out];simp[J3]) oM)).mono ?_;rintro e w' ⟨rfl,hs',hd'⟩);exact yE
def Sx(k:Nat):Nat:=if k<26 then 65+k else if k<52 then 97+k-26 else if k<62 then 48+k-52 else if k=62 then 45 else 95
def C5:Qv:=(List.range 64).map Sx
def V9(k:Nat):Array Q0:=((List.range 64).map fun j:Nat=>Value.int .u8 ((if j<k then Sx j else 0:Nat):Int)).toArray
def Yv(k:Nat):(V9 k).size=64:=by simp[V9]
def EE(k j:Nat)(h:j<64):(V9 k)[j]? =some (.int .u8 ((if j<k then Sx j else 0:Nat):Int)):=by
 simp[V9,h]
def jC(k:Nat)(h:k<64):(V9 k).setIfInBounds k (.int .u8 (Sx k:Nat))=V9 (k+1):=by
 apply Array.ext_getElem?;intro j;rw[Array.getElem?_setIfInBounds];by_cases q:j<64
 ·rw[EE _ _ q,EE _ _ q,Yv];by_cases e:k=j
  ·subst e;simp[h]
  ·have:(j<k+1)↔j<k:=oM;simp[e,this]
 ·have v:(V9 k)[j]? =none:=by simp[V9,q]
  have y:(V9 (k+1))[j]? =none:=by simp[V9,q]
  rw[v,y];simp;omega
def bB{c:Array Q0}{t:TypeId}(h:w.heap[b]? =some (.cells c t fr)):(w.setCell ⟨b,k,none⟩ u).heap[b]? =some (.cells (c.setIfInBounds k u) t fr):=by
 have j:=lt_of_block h;have h':w.heap[b]=.cells c t fr:=by simpa[OX j] using h
 show(w.heap.modify b _)[b]? =_;rw[OX (by simpa using j),Qgd,h'];rfl
def oH(k:Nat):(V9 k).all (·.oneCell')=true:=by
 rw[Array.all_eq_true];intro i j
 have:=EE k i (by rw[Yv]at j;exact j);rw[OX j]at this;rw[Dw this];rfl
def Od:(prog.info? 208).map (·.size)=some 64:=by kernel_rfl
def jD{P Q:Prop}(h:Q)(f:Wz Q->P:=by
 intro zz;have hss:(if k<=62 then(⟨#[]⟩:Qo)else⟨#[45,95]⟩)=⟨#[]⟩:=Qe oM;rw[hss];revert hss;exact zz.o):P:=f ⟨h⟩
def jE{P Q:Prop}(h:Q)(f:Wz Q->P:=by
 intro zz;refine⟨k+1,oM,by go_num,by rw[Qe oM],next.out _ ?_⟩;exact zz.o):P:=f ⟨h⟩
def bC(w:Qm):Calls prog 201 #[] w fun e w'=>e=.returned (.agg (V9 64))/\Qd w w':=by
 go_in;go_wp2;have p:V9 0=#[.int .u8 0,.int .u8 0,.int .u8 0,.int .u8 0,.int .u8 0,.int .u8 0,.int .u8 0,.int .u8 0,.int .u8 0,.int .u8 0,.int .u8 0,.int .u8 0,.int .u8 0,.int .u8 0,.int .u8 0,.int .u8 0,.int .u8 0,.int .u8 0,.int .u8 0,.int .u8 0,.int .u8 0,.int .u8 0,.int .u8 0,.int .u8 0,.int .u8 0,.int .u8 0,.int .u8 0,.int .u8 0,.int .u8 0,.int .u8 0,.int .u8 0,.int .u8 0,.int .u8 0,.int .u8 0,.int .u8 0,.int .u8 0,.int .u8 0,.int .u8 0,.int .u8 0,.int .u8 0,.int .u8 0,.int .u8 0,.int .u8 0,.int .u8 0,.int .u8 0,.int .u8 0,.int .u8 0,.int .u8 0,.int .u8 0,.int .u8 0,.int .u8 0,.int .u8 0,.int .u8 0,.int .u8 0,.int .u8 0,.int .u8 0,.int .u8 0,.int .u8 0,.int .u8 0,.int .u8 0,.int .u8 0,.int .u8 0,.int .u8 0,.int .u8 0]:=by rfl
 rw[<-p];clear p;generalize y:World.alloc _ (.cells (V9 0) 208)=W1;have d:Qd w W1:=by rw[<-y];exact((Ac.refl _ w).alloc _).alloc _
 have hz:W1.heap.size=w.heap.size+2:=by rw[<-y];simp
 have b0:W1.heap[w.heap.size]? =some (.cells (V9 0) 208 (0,0)):=by rw[<-y];exact Qb (Ql rfl)
 have b1:W1.heap[w.heap.size+1]? =some (.cells (V9 0) 208 (0,0)):=by rw[<-y];exact Ql sM
 clear y;go_loopw [2,3] (fun i s wr=>∃k:Nat,k<=64/\i=i6 k/\s=.string (if k<=62 then⟨#[]⟩else⟨#[45,95]⟩)/\Qd w wr/\wr.heap[w.heap.size]? =some (.cells (V9 0) 208 (0,0))/\wr.heap[w.heap.size+1]? =some (.cells (V9 k) 208 (0,0)))
  (fun i _ _=>64-(RowKit.intOf i).toNat)
 case atStart=>exact⟨0,oM,rfl,rfl,d,b0,b1⟩
 case round=>
  obtain⟨k,hk,rfl,rfl,m,q,j⟩:=hrel;by_cases n:k<64
  ·have a1:wr.cell? (ad (w.heap.size+1) k)=some (.int .u8 0):=by rw[Rd j,EE _ _ n];simp
   have a0:wr.frozen? (ad (w.heap.size+1) k)=false:=Je j _;have next:∀x:Int,x=((Sx k:Nat):Int)->Qd w (wr.setCell (ad (w.heap.size+1) k) (.int .u8 x))/\(wr.setCell (ad (w.heap.size+1) k) (.int .u8 x)).heap[w.heap.size]? =some (.cells (V9 0) 208 (0,0))/\(wr.setCell (ad (w.heap.size+1) k) (.int .u8 x)).heap[w.heap.size+1]? =some (.cells (V9 (k+1)) 208 (0,0)):=by
    rintro x rfl;refine⟨m.setCell _ fun o _ _ h=>by simp at h;omega,?_,?_⟩
    ·rw[Sg _ _ _ _ (by show w.heap.size≠w.heap.size+1;omega)];exact q
    ·rw[bB j,jC k n]
   replace next:=Qc next;clear m q j;by_cases f:k<26
   ·have u:IntKind.u8.wrap (65+(k:Int))=65+(k:Int):=by simp[IntKind.wrap,IntKind.bits,IntKind.signed];omega
    refine jD ?_;intro hss;go_wp2;go_roundw
    case rel=>
     refine jE ?_;simp[Sx,f]
    case measure=>simp[RowKit.intOf];omega
   ·by_cases r:k<52
    ·have u:IntKind.u8.wrap (97+(k:Int)-26)=97+(k:Int)-26:=by simp[IntKind.wrap,IntKind.bits,IntKind.signed];omega
     refine jD ?_;intro hss;go_wp2;go_roundw
     case rel=>
      refine jE ?_;simp[Sx,f,r];omega
     case measure=>simp[RowKit.intOf];omega
    ·by_cases h3:k<62
     ·have u:IntKind.u8.wrap (48+(k:Int)-52)=48+(k:Int)-52:=by simp[IntKind.wrap,IntKind.bits,IntKind.signed];omega
      refine jD ?_;intro hss;go_wp2;go_roundw
      case rel=>
       refine jE ?_;simp[Sx,f,r,h3];omega
      case measure=>simp[RowKit.intOf];omega
     ·by_cases h4:k=62
      ·subst h4;go_wp2;go_roundw
       case rel=>
        refine⟨62+1,oM,by go_num,by rfl,next.out _ ?_⟩;rfl
       case measure=>simp[RowKit.intOf]
      ·obtain rfl:k=63:=oM;go_wp2;go_roundw
       case rel=>
        refine⟨63+1,oM,by go_num,by rfl,next.out _ ?_⟩;rfl
       case measure=>simp[RowKit.intOf]
  ·obtain rfl:k=64:=oM;go_wp2_with(first
    | (refine wpList_load_row rfl 208 _ rfl (w.heap.size+1) rfl 208 _ (0,0) _ j underlying208 rfl (by rw[Od,Yv]) ?_)
    | (refine Ud rfl 208 _ _ rfl w.heap.size (V9 64) rfl rfl 208 (V9 0) q (by rw[Od,Yv]) (by rw[Yv,Yv]) (oH 64) ?_))
   have c:(wr.setRow w.heap.size (V9 64)).heap[w.heap.size]? =some (.cells (V9 64) 208 (0,0)):=by
    have z:=lt_of_block q;have h':wr.heap[w.heap.size]=.cells (V9 0) 208 (0,0):=by simpa[OX z] using q
    show(wr.heap.modify w.heap.size _)[w.heap.size]? =_;rw[OX (by simpa using z),Qgd,h']
   refine Xs (v:=.agg (V9 64)) (Dv rfl _ _ w.heap.size 208 (V9 64) (0,0) _ rfl c underlying208 rfl (by rw[Od,Yv])) rfl ⟨rfl,?_⟩;refine⟨m.os,m.tape,m.output,by have:=m.size;simpa[World.setRow] using this,fun b o t _=>?_⟩
   have:=m.same b o t trivial;show(wr.heap.modify w.heap.size _)[b]? =_;rw[xA,Qa (Ku t)];exact this
def bD:C5.length=2^6:=by decide
def jF(k:Nat):Zi C5 k<128:=ZS _ 128 oM dM k
def He(l:Qv):Qv × Int:=if l.length<=400 then(J3 C5 (Cw 6 l),0)else([],30)
def two(r:Qv × Int):Q0:=.tuple #[.string (Xh r.1),.int .i64 r.2]
def jG(h:w.heap[b]? =some (.cells (V9 64) 208 (0,0))):AH w b 0 C5:=by
 intro k j;have j:k<64:=by simpa[C5] using j
 have e:(⟨b,0+k,none⟩:Addr)=⟨b,k,none⟩:=sM;rw[e,Rd h,EE _ _ j];simp[Zi,C5,j]
def Ur(s:Qo)(w:Qm)(hs:s.size<=1073741824):Calls prog 124 #[.string s] w fun e w'=>e=.returned (two (He (Qf s)))/\Qd w w':=by
 have j:=Q9 s;by_cases h:s.size<=400
 ·have y:He (Qf s)=(J3 C5 (Cw 6 (Qf s)),0):=by unfold He;rw[Qe oM]
  clear j;go_in;go_wp2_with(first
   | (go_at_call 201;refine(bC _).mono ?_;rintro e z ⟨rfl,q⟩)
   | (refine Ud rfl 208 _ _ rfl z.heap.size (V9 64) rfl rfl 208 (V9 0) (Ew _ _) (by rw[Od,Yv]) (by rw[Yv,Yv]) (oH 64) ?_;rw[Pn])
   | (go_at_call 202;refine(jB s 6 z.heap.size 0 64 C5 _ oM oM (Qc bD) hs (jG (Ew _ _)) sM (fun k=>by have:=jF k;omega)).mono ?_;rintro e m ⟨rfl,v⟩))
  try simp only[Exit.inBlock,Exit.then]
  refine Xs (Iq rfl _ _ _) rfl ?_;exact⟨by rw[y];rfl,(q.alloc _).trans v⟩
 ·have y:He (Qf s)=([],30):=by unfold He;rw[Qa oM]
  clear j;go_in;go_wp2;try simp only[Exit.inBlock,Exit.then]
  refine Xs (Iq rfl _ _ _) rfl ?_;exact⟨by rw[y];rfl,Ac.refl _ _⟩
def Xy(s:Qo):Hd:={Qh 5 with s:=s}
abbrev jH:Q0:=.slice none 0 0
def FM{t:TypeId}{f:Nat × Nat}(h:w.heap[b]? =some (.cells #[a0,a1,a2,a3,a4,a5,a6,a7,a8] t f))(v0 v1 v2 v3 v4 v5 v6 v7 v8:Q0):
  (((((((((w.setCell ⟨b,0,none⟩ v0).setCell ⟨b,1,none⟩ v1).setCell ⟨b,2,none⟩ v2).setCell ⟨b,3,none⟩ v3).setCell ⟨b,4,none⟩ v4).setCell ⟨b,5,none⟩ v5).setCell ⟨b,6,none⟩ v6).setCell ⟨b,7,none⟩ v7).setCell ⟨b,8,none⟩ v8).heap[b]? =some (.cells #[v0,v1,v2,v3,v4,v5,v6,v7,v8] t f)/\Ac (fun k _=>k≠b) w (((((((((w.setCell ⟨b,0,none⟩ v0).setCell ⟨b,1,none⟩ v1).setCell ⟨b,2,none⟩ v2).setCell ⟨b,3,none⟩ v3).setCell ⟨b,4,none⟩ v4).setCell ⟨b,5,none⟩ v5).setCell ⟨b,6,none⟩ v6).setCell ⟨b,7,none⟩ v7).setCell ⟨b,8,none⟩ v8):=by
 have j:(w.setCell (ad b 0) v0).heap[b]? =some (.cells #[v0,a1,a2,a3,a4,a5,a6,a7,a8] t f):=Qk h 0 v0
 have z:((w.setCell (ad b 0) v0).setCell (ad b 1) v1).heap[b]? =some (.cells #[v0,v1,a2,a3,a4,a5,a6,a7,a8] t f):=Qk j 1 v1
 have m:(((w.setCell (ad b 0) v0).setCell (ad b 1) v1).setCell (ad b 2) v2).heap[b]? =some (.cells #[v0,v1,v2,a3,a4,a5,a6,a7,a8] t f):=Qk z 2 v2
 have v:((((w.setCell (ad b 0) v0).setCell (ad b 1) v1).setCell (ad b 2) v2).setCell (ad b 3) v3).heap[b]? =some (.cells #[v0,v1,v2,v3,a4,a5,a6,a7,a8] t f):=Qk m 3 v3
 have n:(((((w.setCell (ad b 0) v0).setCell (ad b 1) v1).setCell (ad b 2) v2).setCell (ad b 3) v3).setCell (ad b 4) v4).heap[b]? =some (.cells #[v0,v1,v2,v3,v4,a5,a6,a7,a8] t f):=Qk v 4 v4
 have c:((((((w.setCell (ad b 0) v0).setCell (ad b 1) v1).setCell (ad b 2) v2).setCell (ad b 3) v3).setCell (ad b 4) v4).setCell (ad b 5) v5).heap[b]? =some (.cells #[v0,v1,v2,v3,v4,v5,a6,a7,a8] t f):=Qk n 5 v5
 have y:(((((((w.setCell (ad b 0) v0).setCell (ad b 1) v1).setCell (ad b 2) v2).setCell (ad b 3) v3).setCell (ad b 4) v4).setCell (ad b 5) v5).setCell (ad b 6) v6).heap[b]? =some (.cells #[v0,v1,v2,v3,v4,v5,v6,a7,a8] t f):=Qk c 6 v6
 have u:((((((((w.setCell (ad b 0) v0).setCell (ad b 1) v1).setCell (ad b 2) v2).setCell (ad b 3) v3).setCell (ad b 4) v4).setCell (ad b 5) v5).setCell (ad b 6) v6).setCell (ad b 7) v7).heap[b]? =some (.cells #[v0,v1,v2,v3,v4,v5,v6,v7,a8] t f):=Qk y 7 v7
 have q:(((((((((w.setCell (ad b 0) v0).setCell (ad b 1) v1).setCell (ad b 2) v2).setCell (ad b 3) v3).setCell (ad b 4) v4).setCell (ad b 5) v5).setCell (ad b 6) v6).setCell (ad b 7) v7).setCell (ad b 8) v8).heap[b]? =some (.cells #[v0,v1,v2,v3,v4,v5,v6,v7,v8] t f):=Qk u 8 v8
 refine⟨q,?_⟩
 exact((((((((((Ac.refl _ w).setCell (p:=(ad b 0)) _ (fun o _ h _=>h rfl)).setCell (p:=(ad b 1)) _ (fun o _ h _=>h rfl)).setCell (p:=(ad b 2)) _ (fun o _ h _=>h rfl)).setCell (p:=(ad b 3)) _ (fun o _ h _=>h rfl)).setCell (p:=(ad b 4)) _ (fun o _ h _=>h rfl)).setCell (p:=(ad b 5)) _ (fun o _ h _=>h rfl)).setCell (p:=(ad b 6)) _ (fun o _ h _=>h rfl)).setCell (p:=(ad b 7)) _ (fun o _ h _=>h rfl)).setCell (p:=(ad b 8)) _ (fun o _ h _=>h rfl))
def rcK{fn:Func}{p:Tmp}{tmps:Array Q0}{cs:Array Q0}(h:fn.results=#[.cell p 27])(hp:tmps.getD p undef=.pointer (some ⟨g,0,none⟩))(hg:w.heap[g]? =some (.cells cs 27 fr))(hi:(prog.info? 27).map (·.size)=some cs.size:=by kernel_rfl):(results fn tmps).run prog w=.ok (.agg cs) w:=Dv h _ _ g 27 cs fr _ hp hg underlying27 rfl hi
def DS{fn:Func}{p:Tmp}{R:Ending->Qm->Prop}{cs:Array Q0}(h:fn.results=#[.cell p 27])(hp:a.tmps.getD p undef=.pointer (some ⟨g,0,none⟩))(hg:w.heap[g]? =some (.cells cs 27 fr))(hd:a.defers=[])(hR:R (.returned (.agg cs)) w)(hi:(prog.info? 27).map (·.size)=some cs.size:=by kernel_rfl):bodyPost prog fn R .ret a w:=Xs (rcK h hp hg hi) hd hR
def ZT(st b:Nat)(s:Qo)(w:Qm)(hG:Ah N E w)(hst:st<=2)(hs:s.size<=1073741824)(hb:w.heap[b]? =some (.cells #[Dd E st] 68 (0,0))):
  Calls prog 236 #[.pointer (some ⟨b,0,none⟩),.string s] w fun x w'=>
   x=.returned (Qu (Xy (Xh (He (Qf s)).1)) jH)/\w'.heap[b]? =some (.cells #[Dd E (if s.size<=400 then st else max st 1)] 68 (0,0))/\Ac (fun k _=>k≠b) w w':=by
 have a3:=Qg hb
 have f:=Q9 s
 by_cases h:s.size<=400
 ·have m:He (Qf s)=((He (Qf s)).1,0):=by unfold He;rw[Qe oM]
  obtain⟨t,p⟩:=X0 ((He (Qf s)).1);rw[p]at m;have HC:=Qc m;replace p:=Qc p;clear m f;go_in;go_wp2_with(go_at_call 124;refine(Ur s _ hs).mono ?_;rintro x w1 ⟨rfl,z⟩;rw[HC.out];unfold two;have c:=z.same w.heap.size _ (Qt w _) trivial;obtain⟨c0,c1,c2,c3,c4,c5,c6,c7,c8⟩:=Qi c;have a2:∀j,w1.frozen? ⟨w.heap.size,j,none⟩=false:=Je c);obtain⟨h9,q⟩:=FM c (.int .i64 5) (.bool false) (.bool false) (.string ⟨#[]⟩) (.int .i64 0) (.int .u64 0) (.int .i64 0) (.string (Xh t)) jH;refine DS rfl rfl h9 rfl ⟨by rw[p.out];rfl,?_,?_⟩
  ·exact q.same _ _ (z.same _ _ (Qb hb) trivial) oM
  ·have v:Qd w w1:=((Ac.refl _ _).alloc _).trans z;exact⟨q.os.trans v.os,q.tape.trans v.tape,q.output.trans v.output,Qj v.size q.size,fun k o u _=>q.same k o (v.same k o u trivial) (Ku u)⟩
 ·have m:He (Qf s)=([],30):=by unfold He;rw[Qa oM]
  replace m:=Qc m;clear f;have gP:=hG.ptree;go_in;go_wp2_with(first
   | (go_at_call 124;refine(Ur s _ hs).mono ?_;rintro x w1 ⟨rfl,z⟩;rw[m.out];unfold two;have c:=z.same w.heap.size _ (Qt w _) trivial;have v:=Ac.trans ((Ac.refl All w).alloc _) z;have d:=hG.same v;have gP:=d.ptree;have a1:=v.same _ _ hb trivial)
   | (go_at_call 47;refine(Lg st 1 b _ d hst (.inl rfl) a1).mono ?_;rintro x w2 ⟨rfl,r,y⟩;have n:=y.same _ _ c oM;obtain⟨c0,c1,c2,c3,c4,c5,c6,c7,c8⟩:=Qi n;have a2:∀j,w2.frozen? ⟨w.heap.size,j,none⟩=false:=Je n))
  obtain⟨h9,q⟩:=FM n (.int .i64 5) (.bool false) (.bool false) (.string ⟨#[]⟩) (.int .i64 0) (.int .u64 0) (.int .i64 0) (.string (Xh [])) jH;refine DS rfl rfl h9 rfl ⟨by rw[m.out];rfl,?_,?_⟩
  ·exact q.same _ _ r oM
  ·exact⟨q.os.trans (y.os.trans v.os),q.tape.trans (y.tape.trans v.tape),q.output.trans (y.output.trans v.output),Qj (Qj v.size y.size) q.size,fun k o u a0=>q.same k o (y.same k o (v.same k o u trivial) a0) (Ku u)⟩
end Go.Tm
