/- Texts joined for a claim: CuD, CuE, CuF, CuG, CuH: plain laws and contracts. No conditions beyond those that each lemma types. -/
import Derived.Test.YtgepobccoffnaaaGreatDoorT19
import Derived.Laws.RangeAny
import Derived.Shelf.Strings.Prefix
import Derived.Shelf.Strings.SlTrimAscii
set_option linter.unusedVariables false
set_option linter.unusedSimpArgs false
set_option maxRecDepth 100000
set_option maxHeartbeats 8000000
namespace Go.Proofs.YtgepobccoffnaaaGreatDoor
section
open Go.RowKit Mem
section
variable {E:BE} {ws w w':World} {c:Nat} {s:Int} {b b':BuD} {m m':BMark}
theorem at_sm (h:SM E ws c s b m w) {g:Nat} {cur:Array Value} {e:TypeId} {n ca:Nat} (L:Lay g w cur n) :
 Calls Tryz.prog 118 #[.pointer (some ⟨E.bb,0,none⟩),.slice (some ⟨g,0,none⟩) n ca] (w.alloc (.cells cur e)) fun r w'=>r= .returned (.bool (b.at' (namesOf cur)))∧SM E ws c s b m w':=by
 obtain⟨hg,hc,hn,hl⟩:=L
 subst hg
 subst hn
 have HT:=Lib.hid (top_sx (h.sx.alloc (.cells cur e)))
 have HA:=Lib.hid (names_at (w:=w) (e:=e) hc)
 have HV:Hid (b.at' (namesOf cur)=((b.tops==0)&&oneF (namesOf cur) b.topn)):=Lib.hid rfl
 have HK:=Lib.hid h.ok
 generalize b.tops=sp at *
 generalize b.topn=nm at *
 generalize namesOf cur=names at *
 generalize w.alloc (.cells cur e)=wa at *
 generalize (some ⟨w.heap.size,0,none⟩:Option Addr)=ad at *
 clear h hc
 by_cases hs:sp=0
 ·subst hs
  go_enter Tryz.func118,Tryz.ntmps118
  go_wp2_with (first
   |(go_at_call 36;go_must (refine HT.out.mono ?_;rintro e w1 ⟨v,rfl, -,hb,h1⟩;have HO:=Lib.hid (one_any nm names ad ca w1 (by unfold maxLen;omega) (HA.out.below hb));have H1:=Lib.hid h1;clear hb h1))
   |(go_at_call 158;go_must (refine HO.out.mono ?_;rintro e w2 ⟨rfl,rfl⟩)))
  go_ret
  rw[HV.out]
  exact⟨rfl,H1.out,HK.out⟩
 ·have hs':(sp==0)=false:=by simpa using hs
  clear hs
  go_enter Tryz.func118,Tryz.ntmps118
  go_wp2_with (first
   |(go_at_call 36;go_must (refine HT.out.mono ?_;rintro e w1 ⟨v,rfl, -,hb,h1⟩;have H1:=Lib.hid h1;clear hb h1)))
  go_ret
  rw[HV.out,hs']
  exact⟨rfl,H1.out,HK.out⟩
theorem insert_sx (h:SX E ws b m w) (hl:b.S.l.length<1000000) (name:ByteArray) (attrs:List Pair) (n:Nat) (a:Option Addr) (ca:Nat) (hn:n=attrs.length) (hc:a=none→ca=0) (hlen:attrs.length≤1048576) (ha:At w a (pairsV attrs)) :
 Calls Tryz.prog 110 #[.pointer (some ⟨E.bb,0,none⟩),.string name,.slice a n ca] w fun r w'=>r= .returned (.int .i64 (b.insN name attrs))∧SX E ws (b.ins name attrs) m w':=by
 have HI:=Lib.hid (Insert_li h.bm.li hl 0 name attrs n a ca hn hc hlen ha)
 have HN:Hid (b.insN name attrs=(insertL b.S.T b.S.l b.on 0 name attrs).2.2.1):=Lib.hid rfl
 have HB:Hid (b.ins name attrs=({b with S:=⟨(insertL b.S.T b.S.l b.on 0 name attrs).1,(insertL b.S.T b.S.l b.on 0 name attrs).2.1,b.S.ent⟩}:BuD).keep (insertL b.S.T b.S.l b.on 0 name attrs).2.2.2):=Lib.hid rfl
 obtain⟨-, -,d2, -⟩:=h.bc
 have HS:=Lib.hid h
 clear h ha hc hn
 generalize insertL b.S.T b.S.l b.on 0 name attrs=q at *
 obtain⟨U,l,x,er⟩:=q
 dsimp only at HI HN HB
 by_cases he:er=0
 ·subst he
  go_enter Tryz.func110,Tryz.ntmps110
  go_wp2_with (go_at_call 102;go_must (refine HI.out.mono ?_;rintro e w1 ⟨rfl,h1,k1⟩;have H1:=Lib.hid (HS.out.call (b':= {b with S:=⟨U,l,b.S.ent⟩}) h1 k1 rfl);clear h1 k1))
  go_ret
  rw[HN.out,HB.out,BuD.keep_zero]
  exact⟨rfl,H1.out⟩
 ·have he':(er !=0)=true:=by simpa using he
  have HE:=Lib.hid he
  clear he
  go_enter Tryz.func110,Tryz.ntmps110
  go_wp2_with (first
   |(go_at_call 102;go_must (refine HI.out.mono ?_;rintro e w1 ⟨rfl,h1,k1⟩;have H1:=Lib.hid (HS.out.call (b':= {b with S:=⟨U,l,b.S.ent⟩}) h1 k1 rfl);clear h1 k1))
   |(go_at_call 34;go_must (refine(fail_sx H1.out er).mono ?_;rintro e w2 ⟨rfl,h2⟩;have H2:=Lib.hid h2;clear h2)))
  go_ret
  rw[HN.out,HB.out,BuD.keep,if_neg HE.out]
  exact⟨rfl,H2.out⟩
theorem insert_sm (h:SM E ws c s b m w) (name:ByteArray) (attrs:List Pair) (n:Nat) (a:Option Addr) (ca:Nat) (hn:n=attrs.length) (hc:a=none→ca=0) (hlen:attrs.length≤1048576) (ha:At w a (pairsV attrs)) (hs:Fits name attrs) :
 Calls Tryz.prog 110 #[.pointer (some ⟨E.bb,0,none⟩),.string name,.slice a n ca] w fun r w'=>r= .returned (.int .i64 (b.insN name attrs))∧SM E ws c (s-1) (b.ins name attrs) m w' :=
 (insert_sx h.sx (by have:=h.ok.len;omega) name attrs n a ca hn hc hlen ha).mono fun _ _ ⟨hr,hw⟩=>⟨hr,hw,h.ok.ins name hs⟩
theorem insert0_sm (h:SM E ws c s b m w) (name:ByteArray) (hn:name.size≤maxLen):Calls Tryz.prog 110 #[.pointer (some ⟨E.bb,0,none⟩),.string name,.slice none 0 0] w fun r w'=>r= .returned (.int .i64 (b.insN name []))∧SM E ws c (s-1) (b.ins name []) m w' :=
 insert_sm h name [] 0 none 0 rfl (fun _=>rfl) (by simp) (At.nil _ _) (fits_none hn)
theorem insertm_sm (h:SM E ws c s b m w) (name:ByteArray) (hnm:name.size≤maxLen) {n:Nat} (hn:n=m.attrs.length):Calls Tryz.prog 110 #[.pointer (some ⟨E.bb,0,none⟩),.string name,.slice E.a n E.ac] w fun r w'=>r= .returned (.int .i64 (b.insN name m.attrs))∧SM E ws c (s-1) (b.ins name m.attrs) m w' :=
 insert_sm h name m.attrs _ _ _ hn h.sx.mo.nil h.sx.mo.alen h.sx.at ⟨hnm,h.sx.mo.ash⟩
theorem text_sm (h:SM E ws c s b m w) (t:ByteArray) (ht:b.used+t.size≤9223372036854775807):Calls Tryz.prog 60 #[.pointer (some ⟨E.bb,0,none⟩),.string t] w fun r w'=>r= .returned (.tuple #[])∧SM E ws c s (b.putText t) m w':=by
 have HK:=Lib.hid (h.ok.putText t)
 have HI:=Lib.hid (Text_li h.sx.bm.li t (Nat.le_refl _) ht)
 have HB:Hid (b.putText t=({b with S:=⟨(textE b.S.T (placeQ b.S.T b.S.l b.on 0).1 (placeQ b.S.T b.S.l b.on 0).2 t).1,b.S.l,b.S.ent⟩,used:=b.used+t.size}:BuD).keep (textE b.S.T (placeQ b.S.T b.S.l b.on 0).1 (placeQ b.S.T b.S.l b.on 0).2 t).2):=Lib.hid rfl
 obtain⟨-, -,d2, -⟩:=h.sx.bc
 have HS:=Lib.hid h.sx
 clear h
 generalize textE b.S.T (placeQ b.S.T b.S.l b.on 0).1 (placeQ b.S.T b.S.l b.on 0).2 t=q at *
 obtain⟨U,er⟩:=q
 dsimp only at HI HB
 by_cases he:er=0
 ·subst he
  go_enter Tryz.func60,Tryz.ntmps60
  go_wp2_with (go_at_call 98;go_must (refine HI.out.mono ?_;rintro e w1 ⟨rfl,h1,k1⟩;have H1:=Lib.hid (HS.out.call (b':= {b with S:=⟨U,b.S.l,b.S.ent⟩,used:=b.used+t.size}) h1 k1 rfl);clear h1 k1))
  go_end0
  refine⟨rfl,?_,HK.out⟩
  rw[HB.out,BuD.keep_zero]
  exact H1.out
 ·have he':(er !=0)=true:=by simpa using he
  have HE:=Lib.hid he
  clear he
  go_enter Tryz.func60,Tryz.ntmps60
  go_wp2_with (first
   |(go_at_call 98;go_must (refine HI.out.mono ?_;rintro e w1 ⟨rfl,h1,k1⟩;have H1:=Lib.hid (HS.out.call (b':= {b with S:=⟨U,b.S.l,b.S.ent⟩,used:=b.used+t.size}) h1 k1 rfl);clear h1 k1))
   |(go_at_call 34;go_must (refine(fail_sx H1.out er).mono ?_;rintro e w2 ⟨rfl,h2⟩;have H2:=Lib.hid h2;clear h2)))
  go_end0
  refine⟨rfl,?_,HK.out⟩
  rw[HB.out,BuD.keep,if_neg HE.out]
  exact H2.out
theorem restore_sm (h:SM E ws c s b m w) (hc:c≤100000):Calls Tryz.prog 115 #[.pointer (some ⟨E.bb,0,none⟩)] w fun r w'=>r= .returned (.tuple #[])∧SM E ws c s b.restore m w':=by
 have HK:=Lib.hid h.ok.restore
 have HI:=Lib.hid (Restore_li h.sx.bm.li (by have:=h.ok.len;omega))
 have HB:Hid (b.restore=({b with S:=(restL b.on ⟨b.S.T,b.S.l,b.S.ent⟩).1}:BuD).keep (restL b.on ⟨b.S.T,b.S.l,b.S.ent⟩).2):=Lib.hid rfl
 obtain⟨-, -,d2, -⟩:=h.sx.bc
 have HS:=Lib.hid h.sx
 clear h
 generalize restL b.on ⟨b.S.T,b.S.l,b.S.ent⟩=q at *
 obtain⟨U,er⟩:=q
 dsimp only at HI HB
 by_cases he:er=0
 ·subst he
  go_enter Tryz.func115,Tryz.ntmps115
  go_wp2_with (go_at_call 162;go_must (refine HI.out.mono ?_;rintro e w1 ⟨rfl,h1,k1⟩;have H1:=Lib.hid (HS.out.call (b':= {b with S:=U}) h1 k1 rfl);clear h1 k1))
  go_end0
  refine⟨rfl,?_,HK.out⟩
  rw[HB.out,BuD.keep_zero]
  exact H1.out
 ·have he':(er !=0)=true:=by simpa using he
  have HE:=Lib.hid he
  clear he
  go_enter Tryz.func115,Tryz.ntmps115
  go_wp2_with (first
   |(go_at_call 162;go_must (refine HI.out.mono ?_;rintro e w1 ⟨rfl,h1,k1⟩;have H1:=Lib.hid (HS.out.call (b':= {b with S:=U}) h1 k1 rfl);clear h1 k1))
   |(go_at_call 34;go_must (refine(fail_sx H1.out er).mono ?_;rintro e w2 ⟨rfl,h2⟩;have H2:=Lib.hid h2;clear h2)))
  go_end0
  refine⟨rfl,?_,HK.out⟩
  rw[HB.out,BuD.keep,if_neg HE.out]
  exact H2.out
theorem adopt_sm (h:SM E ws c s b m w) (hc:c≤100000) (name:ByteArray):Calls Tryz.prog 167 #[.pointer (some ⟨E.bb,0,none⟩),.string name] w fun r w'=>r= .returned (.bool (b.adopted name))∧SM E ws c s (b.adopt name) m w':=by
 have HK:=Lib.hid (h.ok.adopt name)
 have HI:=Lib.hid (Adopt_li h.sx.bm.li name (by have:=h.ok.len;omega) (by have:=h.ok.len;omega))
 have HB:Hid (b.adopt name=({b with S:=(adoptL b.on name ⟨b.S.T,b.S.l,b.S.ent⟩).1}:BuD).keep (adoptL b.on name ⟨b.S.T,b.S.l,b.S.ent⟩).2.2):=Lib.hid rfl
 have HA:Hid (b.adopted name=(adoptL b.on name ⟨b.S.T,b.S.l,b.S.ent⟩).2.1):=Lib.hid rfl
 obtain⟨-, -,d2, -⟩:=h.sx.bc
 have HS:=Lib.hid h.sx
 clear h
 generalize adoptL b.on name ⟨b.S.T,b.S.l,b.S.ent⟩=q at *
 obtain⟨U,dn,er⟩:=q
 dsimp only at HI HB HA
 by_cases he:er=0
 ·subst he
  go_enter Tryz.func167,Tryz.ntmps167
  go_wp2_with (go_at_call 207;go_must (refine HI.out.mono ?_;rintro e w1 ⟨rfl,h1,k1⟩;have H1:=Lib.hid (HS.out.call (b':= {b with S:=U}) h1 k1 rfl);clear h1 k1))
  go_ret
  refine⟨by rw[HA.out];rfl,?_,HK.out⟩
  rw[HB.out,BuD.keep_zero]
  exact H1.out
 ·have he':(er !=0)=true:=by simpa using he
  have HE:=Lib.hid he
  clear he
  go_enter Tryz.func167,Tryz.ntmps167
  go_wp2_with (first
   |(go_at_call 207;go_must (refine HI.out.mono ?_;rintro e w1 ⟨rfl,h1,k1⟩;have H1:=Lib.hid (HS.out.call (b':= {b with S:=U}) h1 k1 rfl);clear h1 k1))
   |(go_at_call 34;go_must (refine(fail_sx H1.out er).mono ?_;rintro e w2 ⟨rfl,h2⟩;have H2:=Lib.hid h2;clear h2)))
  go_ret
  refine⟨by rw[HA.out];rfl,?_,HK.out⟩
  rw[HB.out,BuD.keep,if_neg HE.out]
  exact H2.out
end
end
section
open Go Go.Proofs Go.Shelf Go.RowKit Go.Lib Mem
def shelfRenT:Go.Shelf.Ren:=⟨fun|101=>43|119=>183|120=>196|137=>53|151=>150|152=>131|160=>59|161=>157|197=>149|206=>90|208=>58|217=>84|224=>181|225=>180|227=>93|228=>133|231=>91|232=>92|233=>94|234=>95|235=>96|236=>97|260=>195|266=>130|271=>151|n=>n,fun|0=>0|3=>3|4=>4|5=>5|9=>9|21=>21|46=>182|72=>84|105=>166|116=>127|117=>128|119=>208|124=>131|138=>210|139=>211|n=>n,fun|3=>1|4=>2|n=>n⟩
theorem laysT161:Lays.n161 Tryz.prog shelfRenT:= {
 mixed:=by kernel_rfl
 f119:=Tryz.func183.trans (congrArg some (by kernel_rfl))
 f137:=Tryz.func53.trans (congrArg some (by kernel_rfl))
 f151:=Tryz.func150.trans (congrArg some (by kernel_rfl))
 f152:=Tryz.func131.trans (congrArg some (by kernel_rfl))
 f161:=Tryz.func157.trans (congrArg some (by kernel_rfl))
 f197:=Tryz.func149.trans (congrArg some (by kernel_rfl))
 f217:=Tryz.func84.trans (congrArg some (by kernel_rfl))
 f224:=Tryz.func181.trans (congrArg some (by kernel_rfl))
 f225:=Tryz.func180.trans (congrArg some (by kernel_rfl))
 f227:=Tryz.func93.trans (congrArg some (by kernel_rfl))
 f228:=Tryz.func133.trans (congrArg some (by kernel_rfl))
 f231:=Tryz.func91.trans (congrArg some (by kernel_rfl))
 f233:=Tryz.func94.trans (congrArg some (by kernel_rfl))
 f235:=Tryz.func96.trans (congrArg some (by kernel_rfl))
 f260:=Tryz.func195.trans (congrArg some (by kernel_rfl))
 f266:=Tryz.func130.trans (congrArg some (by kernel_rfl))
 t0:=Tryz.underlying0
 a0:=Tryz.isAgg0
 z0:=Tryz.sizeOf0
 v0:=Tryz.zeroValue0
 t3:=Tryz.underlying3
 a3:=Tryz.isAgg3
 z3:=Tryz.sizeOf3
 v3:=Tryz.zeroValue3
 t4:=Tryz.underlying4
 a4:=Tryz.isAgg4
 z4:=Tryz.sizeOf4
 v4:=Tryz.zeroValue4
 t5:=Tryz.underlying5
 a5:=Tryz.isAgg5
 z5:=Tryz.sizeOf5
 v5:=Tryz.zeroValue5
 t9:=Tryz.underlying9
 a9:=Tryz.isAgg9
 z9:=Tryz.sizeOf9
 v9:=Tryz.zeroValue9
 t21:=Tryz.underlying21
 a21:=Tryz.isAgg21
 z21:=Tryz.sizeOf21
 v21:=Tryz.zeroValue21
 t46:=Tryz.underlying182
 a46:=Tryz.isAgg182
 z46:=Tryz.sizeOf182
 v46:=Tryz.zeroValue182
 t105:=Tryz.underlying166
 a105:=Tryz.isAgg166
 z105:=Tryz.sizeOf166
 v105:=Tryz.zeroValue166
 t116:=Tryz.underlying127
 a116:=Tryz.isAgg127
 z116:=Tryz.sizeOf127
 t117:=Tryz.underlying128
 a117:=Tryz.isAgg128
 z117:=Tryz.sizeOf128
 v117:=Tryz.zeroValue128
 t119:=Tryz.underlying208
 a119:=Tryz.isAgg208
 z119:=Tryz.sizeOf208
 t124:=Tryz.underlying131
 a124:=Tryz.isAgg131
 z124:=Tryz.sizeOf131
 v124:=Tryz.zeroValue131
 t138:=Tryz.underlying210
 a138:=Tryz.isAgg210
 z138:=Tryz.sizeOf210
 v138:=Tryz.zeroValue210
 t139:=Tryz.underlying211
 a139:=Tryz.isAgg211
 z139:=Tryz.sizeOf211
 v139:=Tryz.zeroValue211
 g3:=by kernel_rfl
 g4:=by kernel_rfl}
theorem laysT160:Lays.n160 Tryz.prog shelfRenT:= {
 mixed:=by kernel_rfl
 f119:=Tryz.func183.trans (congrArg some (by kernel_rfl))
 f120:=Tryz.func196.trans (congrArg some (by kernel_rfl))
 f137:=Tryz.func53.trans (congrArg some (by kernel_rfl))
 f151:=Tryz.func150.trans (congrArg some (by kernel_rfl))
 f152:=Tryz.func131.trans (congrArg some (by kernel_rfl))
 f160:=Tryz.func59.trans (congrArg some (by kernel_rfl))
 f197:=Tryz.func149.trans (congrArg some (by kernel_rfl))
 f217:=Tryz.func84.trans (congrArg some (by kernel_rfl))
 f224:=Tryz.func181.trans (congrArg some (by kernel_rfl))
 f225:=Tryz.func180.trans (congrArg some (by kernel_rfl))
 f227:=Tryz.func93.trans (congrArg some (by kernel_rfl))
 f228:=Tryz.func133.trans (congrArg some (by kernel_rfl))
 f231:=Tryz.func91.trans (congrArg some (by kernel_rfl))
 f232:=Tryz.func92.trans (congrArg some (by kernel_rfl))
 f233:=Tryz.func94.trans (congrArg some (by kernel_rfl))
 f234:=Tryz.func95.trans (congrArg some (by kernel_rfl))
 f235:=Tryz.func96.trans (congrArg some (by kernel_rfl))
 f236:=Tryz.func97.trans (congrArg some (by kernel_rfl))
 f260:=Tryz.func195.trans (congrArg some (by kernel_rfl))
 f266:=Tryz.func130.trans (congrArg some (by kernel_rfl))
 f271:=Tryz.func151.trans (congrArg some (by kernel_rfl))
 t0:=Tryz.underlying0
 a0:=Tryz.isAgg0
 z0:=Tryz.sizeOf0
 v0:=Tryz.zeroValue0
 t3:=Tryz.underlying3
 a3:=Tryz.isAgg3
 z3:=Tryz.sizeOf3
 v3:=Tryz.zeroValue3
 t4:=Tryz.underlying4
 a4:=Tryz.isAgg4
 z4:=Tryz.sizeOf4
 v4:=Tryz.zeroValue4
 t5:=Tryz.underlying5
 a5:=Tryz.isAgg5
 z5:=Tryz.sizeOf5
 v5:=Tryz.zeroValue5
 t9:=Tryz.underlying9
 a9:=Tryz.isAgg9
 z9:=Tryz.sizeOf9
 v9:=Tryz.zeroValue9
 t21:=Tryz.underlying21
 a21:=Tryz.isAgg21
 z21:=Tryz.sizeOf21
 v21:=Tryz.zeroValue21
 t46:=Tryz.underlying182
 a46:=Tryz.isAgg182
 z46:=Tryz.sizeOf182
 v46:=Tryz.zeroValue182
 t105:=Tryz.underlying166
 a105:=Tryz.isAgg166
 z105:=Tryz.sizeOf166
 v105:=Tryz.zeroValue166
 t116:=Tryz.underlying127
 a116:=Tryz.isAgg127
 z116:=Tryz.sizeOf127
 t117:=Tryz.underlying128
 a117:=Tryz.isAgg128
 z117:=Tryz.sizeOf128
 v117:=Tryz.zeroValue128
 t119:=Tryz.underlying208
 a119:=Tryz.isAgg208
 z119:=Tryz.sizeOf208
 t124:=Tryz.underlying131
 a124:=Tryz.isAgg131
 z124:=Tryz.sizeOf131
 v124:=Tryz.zeroValue131
 t138:=Tryz.underlying210
 a138:=Tryz.isAgg210
 z138:=Tryz.sizeOf210
 v138:=Tryz.zeroValue210
 t139:=Tryz.underlying211
 a139:=Tryz.isAgg211
 z139:=Tryz.sizeOf211
 v139:=Tryz.zeroValue211
 g3:=by kernel_rfl
 g4:=by kernel_rfl}
theorem laysT101:Lays.n101 Tryz.prog shelfRenT:= {
 mixed:=by kernel_rfl
 f101:=Tryz.func43.trans (congrArg some (by kernel_rfl))
 f206:=Tryz.func90.trans (congrArg some (by kernel_rfl))
 f208:=Tryz.func58.trans (congrArg some (by kernel_rfl))
 t3:=Tryz.underlying3
 a3:=Tryz.isAgg3
 z3:=Tryz.sizeOf3
 v3:=Tryz.zeroValue3
 t4:=Tryz.underlying4
 a4:=Tryz.isAgg4
 z4:=Tryz.sizeOf4
 v4:=Tryz.zeroValue4
 t9:=Tryz.underlying9
 a9:=Tryz.isAgg9
 z9:=Tryz.sizeOf9
 v9:=Tryz.zeroValue9}
theorem trimLeft_any (s:ByteArray) (w:World):Calls Tryz.prog 157 #[.string s,.string ⟨#[9,10,12,13,32]⟩] w fun e w'=>e= .returned (.string ⟨(Lib.trimLeftS s.data.toList [9,10,12,13,32]).toArray⟩)∧Below w.heap.size w w' :=
 Any.strings_TrimLeft_laid laysT161 (by kernel_rfl) s ⟨#[9,10,12,13,32]⟩ w (by decide) (ascii_of_all (by decide))
theorem trim_any (s:ByteArray) (w:World) (hs:s.size≤9223372036854775807):Calls Tryz.prog 59 #[.string s,.string ⟨#[9,10,12,13,32]⟩] w fun e w'=>e= .returned (.string ⟨(Lib.trimS s.data.toList [9,10,12,13,32]).toArray⟩)∧Below w.heap.size w w' :=
 Any.strings_Trim_laid laysT160 (by kernel_rfl) s ⟨#[9,10,12,13,32]⟩ w hs (by decide) (ascii_of_all (by decide))
theorem trimPrefix_any (s p:ByteArray) (w:World):Calls Tryz.prog 43 #[.string s,.string p] w fun e w'=>e= .returned (.string ⟨(Lib.trimPrefix s.data.toList p.data.toList).toArray⟩)∧w'=w :=
 Any.strings_TrimPrefix laysT101 s p w
theorem restF_mk (s:ByteArray):(⟨(Lib.trimLeftS s.data.toList [9,10,12,13,32]).toArray⟩:ByteArray)=restF s:=by
 unfold restF Lib.trimLeftS mkB
 rw[ByteArray.toList_eq]
 rfl
theorem mkB_size (l:List UInt8):(mkB l).size=l.length:=Lib.size_mk l
theorem spaces_size (s:ByteArray):(aheadF s).size+(restF s).size=s.size:=by
 unfold aheadF restF
 rw[mkB_size,mkB_size,←List.length_append,List.takeWhile_append_dropWhile,size_toList]
theorem restF_le (s:ByteArray):(restF s).size≤s.size:=by have:=spaces_size s;omega
theorem ahead_extract (s:ByteArray):s.extract 0 (s.size-(restF s).size)=aheadF s:=by
 have h:=spaces_size s
 have h1:s.size-(restF s).size=(aheadF s).size:=by omega
 rw[h1]
 have h2:s=(⟨s.toList.toArray⟩:ByteArray):=(mk_toList s).symm
 have h3:(⟨s.toList.toArray⟩:ByteArray).extract 0 (aheadF s).size=aheadF s:=by
  rw[Lib.extract_mk,List.drop_zero,Nat.sub_zero]
  unfold aheadF
  rw[mkB_size]
  have h4:s.toList.take (s.toList.takeWhile isSp).length=s.toList.takeWhile isSp:=(List.prefix_iff_eq_take.1 (List.takeWhile_prefix isSp)).symm
  rw[h4]
  rfl
 rw[←h2]at h3
 exact h3
theorem spaces_any (s:ByteArray) (w:World) (hs:s.size≤4611686018427387904):Calls Tryz.prog 107 #[.string s] w fun r w'=>r= .returned (.tuple #[.string (aheadF s),.string (restF s)])∧Below w.heap.size w w':=by
 have HT:=Lib.hid (trimLeft_any s w)
 rw[restF_mk]at HT
 have hsz:=spaces_size s
 have HE:=Lib.hid (ahead_extract s)
 generalize restF s=r at *
 generalize aheadF s=a at *
 have hw:IntKind.i64.wrap ((s.size:Int)-(r.size:Int))=((s.size-r.size:Nat):Int):=by rw[IntKind.wrap_i64];omega
 go_enter Tryz.func107,Tryz.ntmps107
 go_wp2_with (go_at_call 157;go_must (refine HT.out.mono ?_;rintro e w1 ⟨rfl,hb⟩;have HB:=Lib.hid hb;clear hb))
 go_ret2
 rw[HE.out]
 exact⟨rfl,HB.out⟩
end
section
open Go.RowKit Mem
section
variable {E:BE} {ws w w':World} {c:Nat} {s:Int} {b b':BuD} {m m':BMark}
theorem single_sm (h:SM E ws c s b m w) (name:ByteArray) (attrs:List Pair) (n:Nat) (a:Option Addr) (ca:Nat) (hn:n=attrs.length) (hc:a=none→ca=0) (hlen:attrs.length≤1048576) (ha:At w a (pairsV attrs)) (hs:Fits name attrs) :
 Calls Tryz.prog 127 #[.pointer (some ⟨E.bb,0,none⟩),.string name,.slice a n ca] w fun r w'=>r= .returned (.tuple #[])∧SM E ws c (s-1) (b.single name attrs) m w':=by
 have HI:=Lib.hid (insert_sm h name attrs n a ca hn hc hlen ha hs)
 have HN:Hid ((b.ins name attrs).pop=b.single name attrs):=Lib.hid rfl
 clear h ha hc hn
 generalize b.insN name attrs=x at *
 generalize b.ins name attrs=bi at *
 go_enter Tryz.func127,Tryz.ntmps127
 go_wp2_with (first
  |(go_at_call 110;go_must (refine HI.out.mono ?_;rintro e w1 ⟨rfl,h1⟩;obtain⟨-,d1, -⟩:=h1.sx.bc;have H1:=Lib.hid h1;clear h1))
  |(go_at_call 64;go_must (refine(pop_sm H1.out).mono ?_;rintro e w2 ⟨rfl,h2⟩;have H2:=Lib.hid h2;clear h2)))
 go_end0
 rw[←HN.out]
 exact⟨rfl,H2.out⟩
theorem single0_sm (h:SM E ws c s b m w) (name:ByteArray) (hn:name.size≤maxLen):Calls Tryz.prog 127 #[.pointer (some ⟨E.bb,0,none⟩),.string name,.slice none 0 0] w fun r w'=>r= .returned (.tuple #[])∧SM E ws c (s-1) (b.single name []) m w' :=
 single_sm h name [] 0 none 0 rfl (fun _=>rfl) (by simp) (At.nil _ _) (fits_none hn)
theorem singlem_sm (h:SM E ws c s b m w) (name:ByteArray) (hnm:name.size≤maxLen) {n:Nat} (hn:n=m.attrs.length):Calls Tryz.prog 127 #[.pointer (some ⟨E.bb,0,none⟩),.string name,.slice E.a n E.ac] w fun r w'=>r= .returned (.tuple #[])∧SM E ws c (s-1) (b.single name m.attrs) m w' :=
 single_sm h name m.attrs _ _ _ hn h.sx.mo.nil h.sx.mo.alen h.sx.at ⟨hnm,h.sx.mo.ash⟩
theorem insertm_sx (h:SX E ws b m w) (hl:b.S.l.length<1000000) (name:ByteArray):Calls Tryz.prog 110 #[.pointer (some ⟨E.bb,0,none⟩),.string name,.slice E.a m.attrs.length E.ac] w fun r w'=>r= .returned (.int .i64 (b.insN name m.attrs))∧SX E ws (b.ins name m.attrs) m w' :=
 insert_sx h hl name m.attrs _ _ _ rfl h.mo.nil h.mo.alen h.at
theorem raws_sx (h:SX E ws b m w) (hl:b.S.l.length<1000000) (mode:Int):Calls Tryz.prog 159 #[.pointer (some ⟨E.bb,0,none⟩),.pointer (some ⟨E.mb,0,none⟩),.int .i64 mode] w fun r w'=>r= .returned (.tuple #[])∧SX E ws (b.raws m mode) m w':=by
 obtain⟨-,c1,c2, -⟩:=h.mc
 have HI:=Lib.hid (insertm_sx (h.world (Below.refl w.heap.size w).drew) hl m.name)
 have HN:Hid (b.raws m mode= {b.ins m.name m.attrs with raw:=mode,name:=m.name,back:=(b.ins m.name m.attrs).mode,mode:=5}):=Lib.hid rfl
 clear h
 generalize b.insN m.name m.attrs=x at *
 generalize b.ins m.name m.attrs=bi at *
 go_enter Tryz.func159,Tryz.ntmps159
 go_wp2_with fail
 go_region_law (first
  |(go_simp;go_at_call 110;refine HI.out.mono ?_
    rintro e w2 ⟨rfl,h2⟩
    have H2:=Lib.hid h2
    obtain⟨-,e1, -⟩:=h2.mc
    obtain⟨-, -, -,d3,d4, -, -, -,d8,d9, -⟩:=h2.bc
    have f3:=h2.bf 3 (by omega)
    have f4:=h2.bf 4 (by omega)
    have f8:=h2.bf 8 (by omega)
    have f9:=h2.bf 9 (by omega)
    clear h2))
 all_goals
  try simp only[Act.put,List.getElem_toArray,List.getElem_cons_succ,List.getElem_cons_zero,List.setIfInBounds_toArray,List.set_cons_zero,List.set_cons_succ]
  go_wp2_with fail
  go_end0
  rw[HN.out]
  exact⟨rfl,(((H2.out.raw mode).name m.name).back bi.mode).mode 5⟩
theorem blank_sm (h:SM E ws c s b m w) (hu:b.used+m.text.size≤9223372036854775807):Calls Tryz.prog 111 #[.pointer (some ⟨E.bb,0,none⟩),.pointer (some ⟨E.mb,0,none⟩)] w fun r w'=>r= .returned (.bool (BuD.blankT m))∧SM E ws c s (b.blankB m) (BuD.blankM m) w':=by
 obtain⟨k,nm,ats,sf,tx⟩:=m
 have hu':b.used+tx.size≤9223372036854775807:=hu
 obtain⟨c0, -, -, -,c4⟩:=h.sx.mc
 have HB:Hid (b.blankB ⟨k,nm,ats,sf,tx⟩=if k==1 then(if(aheadF tx).toList.isEmpty then b else b.putText (aheadF tx))else b):=Lib.hid rfl
 have HM:Hid (BuD.blankM ⟨k,nm,ats,sf,tx⟩=if k==1 then⟨k,nm,ats,sf,restF tx⟩else⟨k,nm,ats,sf,tx⟩):=Lib.hid rfl
 have HT:Hid (BuD.blankT ⟨k,nm,ats,sf,tx⟩=((k==1)&&(restF tx).toList.isEmpty)):=Lib.hid rfl
 have HS:=Lib.hid h
 have HSp:=Lib.hid (spaces_any tx w h.sx.mo.tlen)
 have hsz:=spaces_size tx
 clear h hu
 dsimp only at c0 c4
 by_cases h1:k=1
 ·subst h1
  rw[if_pos (by rfl)]at HB HM
  generalize aheadF tx=a at *
  generalize restF tx=r at *
  go_enter Tryz.func111,Tryz.ntmps111
  go_wp2_with (first
   |(go_at_call 107;go_must (refine HSp.out.mono ?_;rintro e w1 ⟨rfl,hb⟩;have H1:=Lib.hid (HS.out.world hb);obtain⟨-,q4⟩:=H1.out.sx.mf;obtain⟨-, -, -, -,e4⟩:=H1.out.sx.mc;have H2:=Lib.hid (H1.out.text r (show r.size≤tx.size by omega));clear hb))
   |(go_at_call 60;go_must (refine(text_sm H2.out a (by omega)).mono ?_;rintro e w3 ⟨rfl,h3⟩;have H3:=Lib.hid h3;clear h3)))
  ·go_ret
   rw[HB.out,HM.out,HT.out]
   have e0:a.toList.isEmpty=false:=by simpa using (by assumption:(!a.toList.isEmpty)=true)
   rw[e0]
   exact⟨rfl,H3.out⟩
  ·go_ret
   rw[HB.out,HM.out,HT.out]
   have e0:a.toList.isEmpty=true:=by simpa using (by assumption:(!a.toList.isEmpty)=false)
   rw[e0]
   exact⟨rfl,H2.out⟩
 ·rw[if_neg (by simpa using h1)]at HB HM
  have hk':(k !=1)=true:=by simpa using h1
  have HK':Hid ((k==1)=false):=Lib.hid (by simpa using h1)
  clear h1
  go_enter Tryz.func111,Tryz.ntmps111
  go_wp2_with fail
  go_ret
  rw[HB.out,HM.out,HT.out,HK'.out]
  exact⟨rfl,HS.out⟩
end
end
section
open Go.RowKit Mem
section
variable {E:BE} {ws w w':World} {c:Nat} {s:Int} {b b':BuD} {m m':BMark}
theorem tB {P:Program} {f:FuncId} {a:Array Value} {w:World} {x:Bool} {S:World→Prop} {K:Ending→World→Prop} (h:Calls P f a w fun r w'=>r= .returned (.bool x)∧S w') (hK: ∀t,x=t→ ∀w',S w'→K (.returned (.bool t)) w'):Calls P f a w K :=
 h.mono fun _ _ ⟨h1,h2⟩=>h1▸hK x rfl _ h2
theorem bools:(∀b,(true&&b)=b)∧(∀b,(false&&b)=false)∧(∀b,(b&&true)=b)∧(∀b,(b&&false)=false)∧(∀b,(b||true)=true)∧(∀b,(true||b)=true)∧(∀b,(b||false)=b)∧(∀b,(false||b)=b)∧(∀b,(b&&b)=b)∧(∀b,(b||b)=b)∧(!true)=false∧(!false)=true∧(false=true)=False:=by simp
theorem block_sm (h:SM E ws c s b m w) (x:ByteArray):Calls Tryz.prog 163 #[.string x] w fun r w'=>r= .returned (.bool (blockB x))∧SM E ws c s b m w':=(block_any x w).mono fun _ _ ⟨hr,hb⟩=>⟨hr,h.world hb⟩
theorem heading_sm (h:SM E ws c s b m w) (x:ByteArray):Calls Tryz.prog 164 #[.string x] w fun r w'=>r= .returned (.bool (headingB x))∧SM E ws c s b m w':=(heading_any x w).mono fun _ _ ⟨hr,hb⟩=>⟨hr,h.world hb⟩
theorem formed_sm (h:SM E ws c s b m w) (x:ByteArray):Calls Tryz.prog 170 #[.string x] w fun r w'=>r= .returned (.bool (formedB x))∧SM E ws c s b m w':=(formed_any x w).mono fun _ _ ⟨hr,hb⟩=>⟨hr,h.world hb⟩
theorem namesOf_mk (l:List Value):namesOf l.toArray=l.map strOf:=by unfold namesOf;rw[List.toList_toArray]
theorem heads_sx (h:SX E ws b m w) (hl:b.S.l.length<1000000):Calls Tryz.prog 112 #[.pointer (some ⟨E.bb,0,none⟩),.pointer (some ⟨E.mb,0,none⟩)] w fun r w'=>r= .returned (.bool (b.heads m).2)∧SX E ws (b.heads m).1 m w':=by
 have H:=Lib.hid h
 obtain⟨-,c1,c2, -⟩:=H.out.mc
 clear h
 go_enter Tryz.func112,Tryz.ntmps112
 go_wp2_with (first
  |(go_at_call 109;go_must (refine(start_sx H.out ⟨rfl,by rfl,by rfl,by decide⟩).mono ?_;rintro e w1 ⟨rfl,h1⟩;generalize ht:startF m _=t;simp only[namesOf_mk,strOf,List.map_cons,List.map_nil]at ht;clear c1 c2;replace H:=Lib.hid h1;clear h1;obtain⟨-,c1,c2, -⟩:=H.out.mc))
  |(go_at_call 159;go_must (refine(raws_sx H.out hl _).mono ?_;rintro e w1 ⟨rfl,h1⟩;replace H:=Lib.hid h1;clear h1)))
 case _ =>
  have HI:=Lib.hid (insertm_sx (H.out.world (Below.refl w1.heap.size w1).drew) hl m.name)
  go_region_law (first
   |(go_simp;go_at_call 110;refine HI.out.mono ?_
     rintro e w2 ⟨rfl,h2⟩
     have H2:=Lib.hid h2
     obtain⟨-,d1, -⟩:=h2.bc
     clear h2))
  all_goals
   try simp only[Act.put,List.getElem_toArray,List.getElem_cons_succ,List.getElem_cons_zero,List.setIfInBounds_toArray,List.set_cons_zero,List.set_cons_succ]
   go_wp2_with (go_at_call 64;go_must (refine(pop_sx H2.out).mono ?_;rintro e w3 ⟨rfl,h3⟩;have H3:=Lib.hid h3;clear h3))
   go_ret
   have hv:=BuD.heads.eq_1 b m
   simp only[*,bools,if_true,if_false,reduceIte,beq_self_eq_true,Int.reduceBEq]at hv
   rw[hv]
   exact⟨rfl,H3.out⟩
 all_goals
  go_ret
  have hv:=BuD.heads.eq_1 b m
  simp only[*,bools,if_true,if_false,reduceIte,beq_self_eq_true,Int.reduceBEq]at hv
  rw[hv]
  exact⟨rfl,H.out⟩
theorem heads_no (h:(b.heads m).2=false):(b.heads m).1=b:=by
 unfold BuD.heads at h ⊢
 split at h
 ·cases h
 ·split at h
  ·cases h
  ·split at h
   ·cases h
   ·simp[*]
theorem Ok.raws (h:Ok c s b) (hm:Fits m.name m.attrs) (mode:Int):Ok c (s-1) (b.raws m mode):=(h.ins m.name hm).of rfl id
theorem Ok.heads (h:Ok c s b) (hm:Fits m.name m.attrs):Ok c s (b.heads m).1:=by
 unfold BuD.heads
 split
 ·exact(h.ins m.name hm).pop.more (Nat.le_refl _) (by omega)
 ·split
  ·exact(h.raws hm 1).more (Nat.le_refl _) (by omega)
  ·split
   ·exact(h.raws hm 2).more (Nat.le_refl _) (by omega)
   ·exact h
theorem raws_sm (h:SM E ws c s b m w) (mode:Int):Calls Tryz.prog 159 #[.pointer (some ⟨E.bb,0,none⟩),.pointer (some ⟨E.mb,0,none⟩),.int .i64 mode] w fun r w'=>r= .returned (.tuple #[])∧SM E ws c (s-1) (b.raws m mode) m w' :=
 (raws_sx h.sx (by have:=h.ok.len;omega) mode).mono fun _ _ ⟨hr,hw⟩=>⟨hr,hw,h.ok.raws h.sx.mo.fits mode⟩
theorem heads_sm (h:SM E ws c s b m w):Calls Tryz.prog 112 #[.pointer (some ⟨E.bb,0,none⟩),.pointer (some ⟨E.mb,0,none⟩)] w fun r w'=>r= .returned (.bool (b.heads m).2)∧SM E ws c s (if(b.heads m).2 then(b.heads m).1 else b) m w' :=
 (heads_sx h.sx (by have:=h.ok.len;omega)).mono fun _ _ ⟨hr,hw⟩=>⟨hr,by
   cases ht:(b.heads m).2
   ·rw[heads_no ht]at hw
    exact⟨hw,h.ok⟩
   ·exact⟨hw,h.ok.heads h.sx.mo.fits⟩⟩
theorem paragraph_sm (h:SM E ws c s b m w):Calls Tryz.prog 173 #[.pointer (some ⟨E.bb,0,none⟩)] w fun r w'=>r= .returned (.tuple #[])∧SM E ws c s b.paragraph m w':=by
 have H:=Lib.hid h
 obtain⟨-,d1, -, -, -, -, -, -, -, -, -⟩:=H.out.sx.bc
 clear h
 go_enter Tryz.func173,Tryz.ntmps173
 go_wp2_with ((first
  |(go_at_call 121;go_must (refine' tB (has_sm ?h ?_) ?_))
  |(go_at_call 125;go_must (refine' (imply_sm ?h _).mono ?_))
  |(go_at_call 122;go_must (refine' (until_sm ?h ?_).mono ?_)));go_must ((case h=>with_reducible first|exact H.out|exact H.out.text _ (by assumption)|exact(H.out.text _ (by assumption)).mode _|exact H.out.mode _|exact H.out.head _|exact H.out.skip _|exact H.out.wait _|exact(H.out.mode _).back _|exact H.out.mname _ (by decide));any_goals first|(rintro e w1 ⟨rfl,h1⟩;(try simp only[namesOf_mk,strOf,List.map_cons,List.map_nil,BuD.ends]at h1);clear d1;replace H:=Lib.hid h1;clear h1;obtain⟨-,d1, -, -, -, -, -, -, -, -, -⟩:=H.out.sx.bc)|(intro t ht w1 h1;(try simp only[namesOf_mk,strOf,List.map_cons,List.map_nil,BuD.ends]at ht h1);cases t <;>((try simp only[ht,reduceIte,Bool.false_eq_true]at h1);clear d1;replace H:=Lib.hid h1;clear h1;obtain⟨-,d1, -, -, -, -, -, -, -, -, -⟩:=H.out.sx.bc))|exact⟨by first|with_reducible rfl|simp[World.setCell],by rfl,by rfl,by first|decide|simp[namesOf]⟩|omega|fail))
 all_goals
  go_end0
  have hv:=BuD.paragraph.eq_1 b
  simp only[*,bools,if_true,if_false,reduceIte,beq_self_eq_true,Int.reduceBEq]at hv
  rw[hv]
  refine⟨by first|rfl|(rw[ht];rfl),?_⟩
  first|(with_reducible first|exact H.out|exact H.out.mode _|exact H.out.skip _|exact H.out.head _|exact(H.out.mode _).back _|exact(H.out.wait _)|exact H.out.drew.wait _|exact(H.out.wait _).drew|exact H.out.text _ (by assumption)|exact(H.out.text _ (by assumption)).mode _|exact(H.out.mode _).head _|exact(H.out.head _))|exact H.out|exact H.out.mode _|exact H.out.skip _
end
end
section
open Go.RowKit Mem
section
variable {E:BE} {ws w w':World} {c:Nat} {s:Int} {b b':BuD} {m m':BMark}
theorem names_om (h:SX E ws b m w) {cur:Array Value} {e:TypeId} (hc:strsV (namesOf cur)=cur.toList):AtF (OM (E.lay w.heap.size)) (w.alloc (.cells cur e)) (some ⟨w.heap.size,0,none⟩) (strsV (namesOf cur)) :=
 AtF.of_new (names_at hc) fun b' o' s' e' hx=>by
  have h1:=h.bm.row.lt
  have h2:=h.mo.row.lt
  cases e'
  rcases hx with hx|hx|hx
  ·exact hx.2 (.inr rfl)
  ·have:w.heap.size=E.bb:=hx
   omega
  ·have:w.heap.size=E.mb:=hx
   omega
theorem ends_sm (h:SM E ws c s b m w) {g:Nat} {scope:Int} {but:ByteArray} {cur:Array Value} {e:TypeId} {n ca:Nat} (L:Lay g w cur n) :
 Calls Tryz.prog 174 #[.pointer (some ⟨E.bb,0,none⟩),.int .i64 scope,.string but,.slice (some ⟨g,0,none⟩) n ca] (w.alloc (.cells cur e)) fun r w'=>r= .returned (.bool (b.has scope (namesOf cur)))∧SM E ws c s (b.ends scope but (namesOf cur)) m w':=by
 obtain⟨hg,hc,hn,hl⟩:=L
 subst hg
 have HL:=Lib.hid (h.lay (.cells cur e))
 have HN:=Lib.hid (names_om (e:=e) h.sx hc)
 have HB:Hid (∀b' w',SM (E.lay w.heap.size) (w.alloc (.cells cur e)) c s b' m w'→SM E ws c s b' m w'):=Lib.hid fun b' w' h'=>h.less h' rfl
 have HV:Hid (b.ends scope but (namesOf cur)=if b.has scope (namesOf cur)then(b.imply but).until' (namesOf cur)else b):=Lib.hid rfl
 have d1:(w.alloc (.cells cur e)).cell? ⟨E.bb,1,none⟩=some (.pointer (some ⟨E.sb,0,none⟩)):=HL.out.sx.bc.2.1
 clear h hc
 generalize namesOf cur=names at *
 generalize w.alloc (.cells cur e)=wa at *
 generalize hE:E.lay w.heap.size=E' at *
 have HI:Hid (E'.bb=E.bb∧E'.sb=E.sb∧ ∀k,Own E'.w0 E'.ex k→OM E' k):=Lib.hid ⟨by rw[←hE];rfl,by rw[←hE];rfl,fun k hk=> .inl hk⟩
 clear hE
 generalize (some ⟨w.heap.size,0,none⟩:Option Addr)=ad at *
 obtain⟨t,ht⟩: ∃t,t=b.has scope names:=⟨_,rfl⟩
 have HT:=Lib.hid (has_at HL.out.sx scope names ad n ca hn HN.out.at hl)
 rw[HI.out.2.1,←ht]at HT
 rw[←ht]at HV ⊢
 clear ht
 have HM:Hid (∀w1,SM E' wa c s b m w1→Calls Tryz.prog 125 #[.pointer (some ⟨E.sb,0,none⟩),.string but] w1 fun r w'=>r= .returned (.tuple #[])∧SM E' wa c s (b.imply but) m w'):=Lib.hid fun w1 h1=>by
  have:=imply_sm h1 but
  rw[HI.out.2.1]at this
  exact this
 have HU:Hid (∀w1,SM E' wa c s (b.imply but) m w1→Calls Tryz.prog 122 #[.pointer (some ⟨E.sb,0,none⟩),.slice ad n ca] w1 fun r w'=>r= .returned (.tuple #[])∧SM E' wa c s ((b.imply but).until' names) m w'):=Lib.hid fun w1 h1=>by
  have:=until_at h1 names ad n ca hn ((HN.out.kept h1.sx.keep).other fun k _ hk=>HI.out.2.2 k hk) hl
  rw[HI.out.2.1]at this
  exact this
 have HC:Hid (∀w1,SM E' wa c s (b.imply but) m w1→w1.cell? ⟨E.bb,1,none⟩=some (.pointer (some ⟨E.sb,0,none⟩))):=Lib.hid fun w1 h1=>by
  have:=h1.sx.bc.2.1
  rw[HI.out.1,HI.out.2.1]at this
  exact this
 have HC0:Hid (∀w1,SM E' wa c s b m w1→w1.cell? ⟨E.bb,1,none⟩=some (.pointer (some ⟨E.sb,0,none⟩))):=Lib.hid fun w1 h1=>by
  have:=h1.sx.bc.2.1
  rw[HI.out.1,HI.out.2.1]at this
  exact this
 clear hn
 cases t
 ·go_enter Tryz.func174,Tryz.ntmps174
  go_wp2_with (go_at_call 121;go_must (refine HT.out.mono ?_;rintro e w1 ⟨rfl,hb⟩;have H1:=Lib.hid (HL.out.world hb);have e1:=HC0.out _ H1.out;clear hb))
  go_ret
  rw[HV.out]
  simp only[Bool.false_eq_true,if_false]
  exact⟨rfl,HB.out _ _ H1.out⟩
 ·go_enter Tryz.func174,Tryz.ntmps174
  go_wp2_with (first
   |(go_at_call 121;go_must (refine HT.out.mono ?_;rintro e w1 ⟨rfl,hb⟩;have H1:=Lib.hid (HL.out.world hb);have e1:=HC0.out _ H1.out;clear hb))
   |(go_at_call 125;go_must (refine(HM.out _ H1.out).mono ?_;rintro e w2 ⟨rfl,h2⟩;have g1:=HC.out _ h2;have H2:=Lib.hid h2;clear h2))
   |(go_at_call 122;go_must (refine(HU.out _ H2.out).mono ?_;rintro e w3 ⟨rfl,h3⟩;have H3:=Lib.hid h3;clear h3)))
  go_ret
  rw[HV.out]
  simp only[if_true]
  exact⟨rfl,HB.out _ _ H3.out⟩
theorem leave_sm (h:SM E ws c s b m w) {g:Nat} {cur:Array Value} {e:TypeId} {n ca:Nat} (L:Lay g w cur n) :
 Calls Tryz.prog 128 #[.pointer (some ⟨E.bb,0,none⟩),.slice (some ⟨g,0,none⟩) n ca] (w.alloc (.cells cur e)) fun r w'=>r= .returned (.tuple #[])∧SM E ws c s (b.leave (namesOf cur)) m w':=by
 obtain⟨hg,hc,hn,hl⟩:=L
 subst hg
 have HL:=Lib.hid (h.lay (.cells cur e))
 have HN:=Lib.hid (names_om (e:=e) h.sx hc)
 have HB:Hid (∀b' w',SM (E.lay w.heap.size) (w.alloc (.cells cur e)) c s b' m w'→SM E ws c s b' m w'):=Lib.hid fun b' w' h'=>h.less h' rfl
 have d1:(w.alloc (.cells cur e)).cell? ⟨E.bb,1,none⟩=some (.pointer (some ⟨E.sb,0,none⟩)):=HL.out.sx.bc.2.1
 clear h hc
 generalize namesOf cur=names at *
 generalize w.alloc (.cells cur e)=wa at *
 generalize hE:E.lay w.heap.size=E' at *
 have HI:Hid (E'.bb=E.bb∧E'.sb=E.sb∧E'.lb=E.lb∧ ∀k,Own E'.w0 E'.ex k→OM E' k):=Lib.hid ⟨by rw[←hE];rfl,by rw[←hE];rfl,by rw[←hE];rfl,fun k hk=> .inl hk⟩
 clear hE
 generalize (some ⟨w.heap.size,0,none⟩:Option Addr)=ad at *
 have HM:Hid (∀w1,SM E' wa c s b m w1→Calls Tryz.prog 125 #[.pointer (some ⟨E.sb,0,none⟩),.string ⟨#[]⟩] w1 fun r w'=>r= .returned (.tuple #[])∧SM E' wa c s (b.imply ⟨#[]⟩) m w'):=Lib.hid fun w1 h1=>by
  have:=imply_sm h1 ⟨#[]⟩
  rw[HI.out.2.1]at this
  exact this
 have HU:Hid (∀b1 w1,SM E' wa c s b1 m w1→Calls Tryz.prog 122 #[.pointer (some ⟨E.sb,0,none⟩),.slice ad n ca] w1 fun r w'=>r= .returned (.tuple #[])∧SM E' wa c s (b1.until' names) m w'):=Lib.hid fun b1 w1 h1=>by
  have:=until_at h1 names ad n ca hn ((HN.out.kept h1.sx.keep).other fun k _ hk=>HI.out.2.2.2 k hk) hl
  rw[HI.out.2.1]at this
  exact this
 have HK:Hid (∀b1 w1,SM E' wa c s b1 m w1→Calls Tryz.prog 126 #[.pointer (some ⟨E.lb,0,none⟩)] w1 fun r w'=>r= .returned (.tuple #[])∧SM E' wa c s b1.lclear m w'):=Lib.hid fun b1 w1 h1=>by
  have:=lclear_sm h1
  rw[HI.out.2.2.1]at this
  exact this
 have HC:Hid (∀b1 w1,SM E' wa c s b1 m w1→w1.cell? ⟨E.bb,1,none⟩=some (.pointer (some ⟨E.sb,0,none⟩))∧w1.cell? ⟨E.bb,2,none⟩=some (.pointer (some ⟨E.lb,0,none⟩))∧w1.cell? ⟨E.bb,3,none⟩=some (.int .i64 b1.mode)∧w1.frozen? ⟨E.bb,3,none⟩=false):=Lib.hid fun b1 w1 h1=>by
  obtain⟨-,q1,q2,q3, -⟩:=h1.sx.bc
  have q4:=h1.sx.bf 3 (by omega)
  rw[HI.out.1]at q1 q2 q3 q4
  rw[HI.out.2.1]at q1
  rw[HI.out.2.2.1]at q2
  exact⟨q1,q2,q3,q4⟩
 have HE:Hid (∀b1 w1,SM E ws c s b1 m w1→SM E ws c s (b1.goto 10) m (w1.setCell ⟨E.bb,3,none⟩ (.int .i64 10))):=Lib.hid fun b1 w1 h1=>h1.mode 10
 clear hn
 go_enter Tryz.func128,Tryz.ntmps128
 go_wp2_with (first
  |(go_at_call 125;go_must (refine(HM.out _ HL.out).mono ?_;rintro e w2 ⟨rfl,h2⟩;obtain⟨g1, -⟩:=HC.out _ _ h2;have H2:=Lib.hid h2;clear h2))
  |(go_at_call 122;go_must (refine(HU.out _ _ H2.out).mono ?_;rintro e w3 ⟨rfl,h3⟩;obtain⟨-,g2, -⟩:=HC.out _ _ h3;have H3:=Lib.hid h3;clear h3))
  |(go_at_call 126;go_must (refine(HK.out _ _ H3.out).mono ?_;rintro e w4 ⟨rfl,h4⟩;obtain⟨-, -,g3,g4⟩:=HC.out _ _ h4;have H4:=Lib.hid h4;clear h4)))
 go_end0
 exact⟨rfl,HE.out _ _ (HB.out _ _ H4.out)⟩
end
end
end Go.Proofs.YtgepobccoffnaaaGreatDoor
