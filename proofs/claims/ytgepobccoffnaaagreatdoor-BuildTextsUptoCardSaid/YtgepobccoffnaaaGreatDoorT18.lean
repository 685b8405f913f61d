/- Texts joined for a claim: BuSpec, BuCnt, BuAt: plain laws and contracts. No conditions beyond those that each lemma types. -/
import Derived.Test.YtgepobccoffnaaaGreatDoorT15
import Derived.Test.YtgepobccoffnaaaGreatDoorT16
import Derived.Test.YtgepobccoffnaaaGreatDoorT17
set_option linter.unusedVariables false
set_option linter.unusedSimpArgs false
namespace Go.Proofs.YtgepobccoffnaaaGreatDoor
open Go.RowKit Mem
structure BMark where
 kind:Int
 name:ByteArray
 attrs:List Pair
 self:Bool
 text:ByteArray
structure BuD where
 S:AS
 on:Bool
 mode:Int
 back:Int
 head:Int
 wait:ByteArray
 skip:Bool
 raw:Int
 name:ByteArray
 err:Int
 /--how many bytes of text were put (no part of the program's) -/
 used:Nat
def oneF (names:List ByteArray) (x:ByteArray):Bool:=isW names x&& !x.toList.isEmpty
def startF (m:BMark) (names:List ByteArray):Bool:=(m.kind==2)&&oneF names m.name
def endF (m:BMark) (names:List ByteArray):Bool:=(m.kind==3)&&oneF names m.name
namespace BuD
def fail (b:BuD) (e:Int):BuD:=if b.err=0 then {b with err:=e}else b
def keep (b:BuD) (e:Int):BuD:=if e=0 then b else b.fail e
def top (b:BuD):Int:=b.S.l.getLast?.getD 0
def tops (b:BuD):Int:=spaceQ b.S.T b.top
def topn (b:BuD):ByteArray:=nameQ b.S.T b.top
def at' (b:BuD) (names:List ByteArray):Bool:=(b.tops==0)&&oneF names b.topn
noncomputable def insSp (b:BuD) (sp:Int) (name:ByteArray) (attrs:List Pair):BuD×Int :=
 let r:=insertL b.S.T b.S.l b.on sp name attrs
 (({b with S:=⟨r.1,r.2.1,b.S.ent⟩}).keep r.2.2.2,r.2.2.1)
noncomputable def ins (b:BuD) (name:ByteArray) (attrs:List Pair):BuD:=(b.insSp 0 name attrs).1
noncomputable def insN (b:BuD) (name:ByteArray) (attrs:List Pair):Int:=(b.insSp 0 name attrs).2
def putText (b:BuD) (s:ByteArray):BuD :=
 let p:=placeQ b.S.T b.S.l b.on 0
 let r:=textE b.S.T p.1 p.2 s
 ({b with S:=⟨r.1,b.S.l,b.S.ent⟩,used:=b.used+s.size}).keep r.2
def stk (b:BuD) (l:List Int):BuD:= {b with S:=⟨b.S.T,l,b.S.ent⟩}
def lst (b:BuD) (ent:List Int):BuD:= {b with S:=⟨b.S.T,b.S.l,ent⟩}
def pop (b:BuD):BuD:=b.stk b.S.l.dropLast
def push (b:BuD) (n:Int):BuD:=b.stk (b.S.l++ [n])
def sremove (b:BuD) (n:Int):BuD:=b.stk (rmF b.S.l n)
def until' (b:BuD) (names:List ByteArray):BuD:=b.stk (untilF b.S.T names b.S.l.reverse).reverse
def clear' (b:BuD) (names:List ByteArray):BuD:=b.stk (stClear b.S.T names b.S.l.reverse).reverse
def imply (b:BuD) (but:ByteArray):BuD:=b.stk (stImply b.S.T but b.S.l.reverse).reverse
def has (b:BuD) (scope:Int) (names:List ByteArray):Bool:=hasF b.S.T b.S.l scope names
def lmark (b:BuD):BuD:=b.lst (b.S.ent++ [-1])
def lclear (b:BuD):BuD:=b.lst (clearF b.S.ent)
def lpush (b:BuD) (n:Int):BuD:=b.lst (pushF b.S.T b.S.ent n)
def lremove (b:BuD) (n:Int):BuD:=b.lst (rmF b.S.ent n)
def find (b:BuD) (name:ByteArray):Int:=findF b.S.T b.S.ent name
noncomputable def restore (b:BuD):BuD:=({b with S:=(restL b.on b.S).1}).keep (restL b.on b.S).2
noncomputable def adopt (b:BuD) (name:ByteArray):BuD:=({b with S:=(adoptL b.on name b.S).1}).keep (adoptL b.on name b.S).2.2
noncomputable def adopted (b:BuD) (name:ByteArray):Bool:=(adoptL b.on name b.S).2.1
def goto (b:BuD) (mode:Int):BuD:= {b with mode:=mode}
def setSkip (b:BuD) (v:Bool):BuD:= {b with skip:=v}
end BuD
def isSp (c:UInt8):Bool:=([9,10,12,13,32]:List UInt8).contains c
def mkB (l:List UInt8):ByteArray:=⟨l.toArray⟩
def aheadF (s:ByteArray):ByteArray:=mkB (s.toList.takeWhile isSp)
def restF (s:ByteArray):ByteArray:=mkB (s.toList.dropWhile isSp)
def blockN:List ByteArray:= [⟨#[97,100,100,114,101,115,115]⟩,⟨#[97,114,116,105,99,108,101]⟩,⟨#[97,115,105,100,101]⟩,⟨#[98,108,111,99,107,113,117,111,116,101]⟩,⟨#[99,101,110,116,101,114]⟩,⟨#[100,101,116,97,105,108,115]⟩,⟨#[100,105,97,108,111,103]⟩,⟨#[100,105,114]⟩,⟨#[100,105,118]⟩,⟨#[100,108]⟩,⟨#[102,105,101,108,100,115,101,116]⟩,⟨#[102,105,103,99,97,112,116,105,111,110]⟩,⟨#[102,105,103,117,114,101]⟩,⟨#[102,111,111,116,101,114]⟩,⟨#[102,111,114,109]⟩,⟨#[104,101,97,100,101,114]⟩,⟨#[104,103,114,111,117,112]⟩,⟨#[109,97,105,110]⟩,⟨#[109,101,110,117]⟩,⟨#[110,97,118]⟩,⟨#[111,108]⟩,⟨#[112]⟩,⟨#[115,101,99,116,105,111,110]⟩,⟨#[115,117,109,109,97,114,121]⟩,⟨#[117,108]⟩]
def headN:List ByteArray:= [⟨#[104,49]⟩,⟨#[104,50]⟩,⟨#[104,51]⟩,⟨#[104,52]⟩,⟨#[104,53]⟩,⟨#[104,54]⟩]
def formN:List ByteArray:= [⟨#[98]⟩,⟨#[98,105,103]⟩,⟨#[99,111,100,101]⟩,⟨#[101,109]⟩,⟨#[102,111,110,116]⟩,⟨#[105]⟩,⟨#[115]⟩,⟨#[115,109,97,108,108]⟩,⟨#[115,116,114,105,107,101]⟩,⟨#[115,116,114,111,110,103]⟩,⟨#[116,116]⟩,⟨#[117]⟩]
def partN:List ByteArray:= [⟨#[99,97,112,116,105,111,110]⟩,⟨#[99,111,108]⟩,⟨#[99,111,108,103,114,111,117,112]⟩,⟨#[116,98,111,100,121]⟩,⟨#[116,100]⟩,⟨#[116,102,111,111,116]⟩,⟨#[116,104]⟩,⟨#[116,104,101,97,100]⟩,⟨#[116,114]⟩]
def blockB (x:ByteArray):Bool:=oneF blockN x
def headingB (x:ByteArray):Bool:=oneF headN x
def formedB (x:ByteArray):Bool:=oneF formN x
def rowedF (m:BMark):Bool:=startF m partN
namespace BuD
noncomputable def raws (b:BuD) (m:BMark) (mode:Int):BuD :=
 let c:=b.ins m.name m.attrs
 {c with raw:=mode,name:=m.name,back:=c.mode,mode:=5}
noncomputable def single (b:BuD) (name:ByteArray) (attrs:List Pair):BuD:=(b.ins name attrs).pop
noncomputable def heads (b:BuD) (m:BMark):BuD×Bool :=
 if startF m [⟨#[98,97,115,101]⟩,⟨#[98,97,115,101,102,111,110,116]⟩,⟨#[98,103,115,111,117,110,100]⟩,⟨#[108,105,110,107]⟩,⟨#[109,101,116,97]⟩]then((b.ins m.name m.attrs).pop,true)
 else if startF m [⟨#[116,105,116,108,101]⟩]then(b.raws m 1,true)
 else if startF m [⟨#[115,116,121,108,101]⟩,⟨#[115,99,114,105,112,116]⟩,⟨#[110,111,102,114,97,109,101,115]⟩]then(b.raws m 2,true)
 else(b,false)
def blankB (b:BuD) (m:BMark):BuD:=if m.kind==1 then(if(aheadF m.text).toList.isEmpty then b else b.putText (aheadF m.text))else b
def blankM (m:BMark):BMark:=if m.kind==1 then {m with text:=restF m.text}else m
def blankT (m:BMark):Bool:=(m.kind==1)&&(restF m.text).toList.isEmpty
noncomputable def inStart (b:BuD) (m0:BMark):BuD×BMark×Bool :=
 let m:=blankM m0
 if blankT m0 then(b,m,false)
 else if(m.kind==3)&& !(endF m [⟨#[104,101,97,100]⟩,⟨#[98,111,100,121]⟩,⟨#[104,116,109,108]⟩,⟨#[98,114]⟩])then(b,m,false)
 else if startF m [⟨#[104,116,109,108]⟩]then((b.goto 1).ins (⟨#[104,116,109,108]⟩:ByteArray) m.attrs,m,false)
 else((b.goto 1).ins (⟨#[104,116,109,108]⟩:ByteArray) [],m,true)
noncomputable def headed (b:BuD) (attrs:List Pair):BuD:= {b.ins (⟨#[104,101,97,100]⟩:ByteArray) attrs with head:=b.insN (⟨#[104,101,97,100]⟩:ByteArray) attrs}
noncomputable def inAhead (b:BuD) (m0:BMark):BuD×BMark×Bool :=
 let m:=blankM m0
 if blankT m0 then(b,m,false)
 else if startF m [⟨#[104,116,109,108]⟩]||(m.kind==3)&& !(endF m [⟨#[104,101,97,100]⟩,⟨#[98,111,100,121]⟩,⟨#[104,116,109,108]⟩,⟨#[98,114]⟩])then(b,m,false)
 else if startF m [⟨#[104,101,97,100]⟩]then((b.goto 2).headed m.attrs,m,false)
 else((b.goto 2).headed [],m,true)
noncomputable def inHead (b0:BuD) (m0:BMark):BuD×BMark×Bool :=
 let b:=b0.blankB m0
 let m:=blankM m0
 if blankT m0 then(b,m,false)
 else if(b.heads m).2 then((b.heads m).1,m,false)
 else if startF m [⟨#[104,116,109,108]⟩,⟨#[104,101,97,100]⟩]then(b,m,false)
 else if endF m [⟨#[104,101,97,100]⟩]then(b.pop.goto 3,m,false)
 else if(m.kind==3)&& !(endF m [⟨#[98,111,100,121]⟩,⟨#[104,116,109,108]⟩,⟨#[98,114]⟩])then(b,m,false)
 else(b.pop.goto 3,m,true)
noncomputable def inBehind (b0:BuD) (m0:BMark):BuD×BMark×Bool :=
 let b:=b0.blankB m0
 let m:=blankM m0
 if blankT m0 then(b,m,false)
 else if startF m [⟨#[104,116,109,108]⟩,⟨#[104,101,97,100]⟩,⟨#[102,114,97,109,101,115,101,116]⟩]then(b,m,false)
 else if startF m [⟨#[98,111,100,121]⟩]then((b.ins (⟨#[98,111,100,121]⟩:ByteArray) m.attrs).goto 4,m,false)
 else if startF m [⟨#[98,97,115,101]⟩,⟨#[98,97,115,101,102,111,110,116]⟩,⟨#[98,103,115,111,117,110,100]⟩,⟨#[108,105,110,107]⟩,⟨#[109,101,116,97]⟩,⟨#[116,105,116,108,101]⟩,⟨#[115,116,121,108,101]⟩,⟨#[115,99,114,105,112,116]⟩,⟨#[110,111,102,114,97,109,101,115]⟩]then((((b.push b.head).heads m).1).sremove b.head,m,false)
 else if(m.kind==3)&& !(endF m [⟨#[98,111,100,121]⟩,⟨#[104,116,109,108]⟩,⟨#[98,114]⟩])then(b,m,false)
 else((b.ins (⟨#[98,111,100,121]⟩:ByteArray) []).goto 4,m,true)
def inText (b:BuD) (m:BMark):BuD×BMark×Bool :=
 if m.kind==1 then(b.putText m.text,m,false)else(b.pop.goto b.back,m,m.kind !=3)
noncomputable def paragraph (b:BuD):BuD:=if b.has 2 [⟨#[112]⟩]then(b.imply (⟨#[112]⟩:ByteArray)).until' [⟨#[112]⟩]else b
def itemR (names:List ByteArray) (b:BuD):List Int→BuD
 | []=>b
 |x::r =>
  if(spaceQ b.S.T x==0)&&oneF names (nameQ b.S.T x)then(b.imply (nameQ b.S.T x)).until' [nameQ b.S.T x]
  else if specialF (spaceQ b.S.T x) (nameQ b.S.T x)&& !((spaceQ b.S.T x==0)&&oneF [⟨#[97,100,100,114,101,115,115]⟩,⟨#[100,105,118]⟩,⟨#[112]⟩] (nameQ b.S.T x))then b
  else itemR names b r
def item (b:BuD) (names:List ByteArray):BuD:=itemR names b b.S.l.reverse
def popTo (b:BuD) (x:Int):BuD:=b.stk (((b.S.l.reverse.dropWhile fun y=>y !=x).drop 1).reverse)
def otherR (want:ByteArray) (b:BuD):List Int→BuD
 | []=>b
 |x::r =>
  if(spaceQ b.S.T x==0)&&oneF [want] (nameQ b.S.T x)then(b.imply want).popTo x
  else if specialF (spaceQ b.S.T x) (nameQ b.S.T x)then b
  else otherR want b r
def other (b:BuD) (want:ByteArray):BuD:=otherR want b b.S.l.reverse
noncomputable def forms (b:BuD) (m:BMark):BuD :=
 let c:=b.restore
 if c.insN m.name m.attrs=0 then c.ins m.name m.attrs else(c.ins m.name m.attrs).lpush (c.insN m.name m.attrs)
noncomputable def verbatim (b:BuD) (m:BMark):BuD :=
 if m.name.toList==([116,101,120,116,97,114,101,97]:List UInt8)then(b.raws m 1).setSkip true
 else if m.name.toList==([120,109,112]:List UInt8)then(b.paragraph.restore).raws m 2
 else b.raws m 2
noncomputable def phrases (b:BuD) (m:BMark):BuD :=
 let b1:=if m.name.toList==([98,117,116,116,111,110]:List UInt8)then(if b.has 0 [⟨#[98,117,116,116,111,110]⟩]then(b.imply ⟨#[]⟩).until' [⟨#[98,117,116,116,111,110]⟩]else b)
  else if(m.name.toList==([111,112,116,105,111,110]:List UInt8))||(m.name.toList==([111,112,116,103,114,111,117,112]:List UInt8))then(if b.at' [⟨#[111,112,116,105,111,110]⟩]then b.pop else b)else b
 let b2:=b1.restore.ins m.name m.attrs
 if oneF [⟨#[97,112,112,108,101,116]⟩,⟨#[109,97,114,113,117,101,101]⟩,⟨#[111,98,106,101,99,116]⟩] m.name then b2.lmark else b2
noncomputable def alien (b:BuD) (m:BMark) (sp:Int):BuD :=
 let c:=(b.insSp sp (nameF sp m.name) (attrsF sp m.attrs)).1
 if m.self then c.pop else c
noncomputable def blocks (b:BuD) (m:BMark):BuD :=
 let b1:=if m.name.toList==([108,105]:List UInt8)then b.item [⟨#[108,105]⟩]else if(m.name.toList==([100,100]:List UInt8))||(m.name.toList==([100,116]:List UInt8))then b.item [⟨#[100,100]⟩,⟨#[100,116]⟩]else b
 let b2:=b1.paragraph
 let b3:=if headingB m.name&&b2.at' headN then b2.pop else b2
 if(!(headingB m.name&&b2.at' headN))&&(m.name.toList==([104,114]:List UInt8))then b2.single (⟨#[104,114]⟩:ByteArray) m.attrs
 else
  let b4:=b3.ins m.name m.attrs
  if(m.name.toList==([112,114,101]:List UInt8))||(m.name.toList==([108,105,115,116,105,110,103]:List UInt8))then b4.setSkip true
  else if m.name.toList==([116,97,98,108,101]:List UInt8)then b4.goto 6 else b4
noncomputable def opens (b:BuD) (m:BMark):BuD×BMark :=
 if oneF [⟨#[104,116,109,108]⟩,⟨#[98,111,100,121]⟩,⟨#[102,114,97,109,101,115,101,116]⟩,⟨#[102,114,97,109,101]⟩,⟨#[104,101,97,100]⟩,⟨#[99,97,112,116,105,111,110]⟩,⟨#[99,111,108]⟩,⟨#[99,111,108,103,114,111,117,112]⟩,⟨#[116,98,111,100,121]⟩,⟨#[116,100]⟩,⟨#[116,102,111,111,116]⟩,⟨#[116,104]⟩,⟨#[116,104,101,97,100]⟩,⟨#[116,114]⟩] m.name then(b,m)
 else if(b.heads m).2 then((b.heads m).1,m)
 else if blockB m.name||headingB m.name||oneF [⟨#[112,114,101]⟩,⟨#[108,105,115,116,105,110,103]⟩,⟨#[108,105]⟩,⟨#[100,100]⟩,⟨#[100,116]⟩,⟨#[116,97,98,108,101]⟩,⟨#[104,114]⟩] m.name then(b.blocks m,m)
 else if m.name.toList==([97]:List UInt8)then
  (let b1:=if b.find (⟨#[97]⟩:ByteArray)=0 then b else((b.adopt (⟨#[97]⟩:ByteArray)).lremove (b.find (⟨#[97]⟩:ByteArray))).sremove (b.find (⟨#[97]⟩:ByteArray))
   b1.forms m,m)
 else if formedB m.name then(b.forms m,m)
 else if m.name.toList==([110,111,98,114]:List UInt8)then
  (let b1:=b.restore
   let b2:=if b1.has 0 [⟨#[110,111,98,114]⟩]then b1.adopt (⟨#[110,111,98,114]⟩:ByteArray)else b1
   b2.forms m,m)
 else if oneF [⟨#[112,97,114,97,109]⟩,⟨#[115,111,117,114,99,101]⟩,⟨#[116,114,97,99,107]⟩] m.name then(b.single m.name m.attrs,m)
 else if oneF [⟨#[97,114,101,97]⟩,⟨#[98,114]⟩,⟨#[101,109,98,101,100]⟩,⟨#[105,109,103]⟩,⟨#[105,109,97,103,101]⟩,⟨#[105,110,112,117,116]⟩,⟨#[107,101,121,103,101,110]⟩,⟨#[119,98,114]⟩] m.name then
  (let m1:BMark:=if m.name.toList==([105,109,97,103,101]:List UInt8)then {m with name:=(⟨#[105,109,103]⟩:ByteArray)}else m
   (b.restore.single m1.name m1.attrs,m1))
 else if oneF [⟨#[116,101,120,116,97,114,101,97]⟩,⟨#[120,109,112]⟩,⟨#[105,102,114,97,109,101]⟩,⟨#[110,111,101,109,98,101,100]⟩] m.name then(b.verbatim m,m)
 else if oneF [⟨#[115,118,103]⟩,⟨#[109,97,116,104]⟩] m.name then(b.restore.alien m (if m.name.toList==([115,118,103]:List UInt8)then 1 else 2),m)
 else(b.phrases m,m)
def ends (b:BuD) (scope:Int) (but:ByteArray) (names:List ByteArray):BuD:=if b.has scope names then(b.imply but).until' names else b
noncomputable def closes (b:BuD) (m:BMark):BuD×Bool :=
 if oneF [⟨#[98,111,100,121]⟩,⟨#[104,116,109,108]⟩] m.name then(if b.has 0 [⟨#[98,111,100,121]⟩]then(b.goto 12,m.name.toList==([104,116,109,108]:List UInt8))else(b,false))
 else if m.name.toList==([112]:List UInt8)then((if b.has 2 [⟨#[112]⟩]then b else b.ins (⟨#[112]⟩:ByteArray) []).paragraph,false)
 else if blockB m.name||oneF [⟨#[98,117,116,116,111,110]⟩,⟨#[108,105,115,116,105,110,103]⟩,⟨#[112,114,101]⟩] m.name then(b.ends 0 ⟨#[]⟩ [m.name],false)
 else if m.name.toList==([108,105]:List UInt8)then(b.ends 1 (⟨#[108,105]⟩:ByteArray) [⟨#[108,105]⟩],false)
 else if oneF [⟨#[100,100]⟩,⟨#[100,116]⟩] m.name then(b.ends 0 m.name [m.name],false)
 else if headingB m.name then(b.ends 0 ⟨#[]⟩ headN,false)
 else if(m.name.toList==([97]:List UInt8))||(m.name.toList==([110,111,98,114]:List UInt8))||formedB m.name then
  (if !(b.adopted m.name)&&((b.adopt m.name).err==0)then(b.adopt m.name).other m.name else b.adopt m.name,false)
 else if oneF [⟨#[97,112,112,108,101,116]⟩,⟨#[109,97,114,113,117,101,101]⟩,⟨#[111,98,106,101,99,116]⟩] m.name then(if b.has 0 [m.name]then(b.ends 0 ⟨#[]⟩ [m.name]).lclear else b,false)
 else if m.name.toList==([98,114]:List UInt8)then(b.restore.single (⟨#[98,114]⟩:ByteArray) [],false)
 else(b.other m.name,false)
noncomputable def inBody (b:BuD) (m:BMark):BuD×BMark×Bool :=
 if m.kind==1 then(b.restore.putText m.text,m,false)
 else if m.kind==2 then((b.opens m).1,(b.opens m).2,false)
 else if m.kind==3 then((b.closes m).1,m,(b.closes m).2)
 else(b,m,false)
noncomputable def inAfter (b0:BuD) (m0:BMark):BuD×BMark×Bool :=
 let b:=if(m0.kind==1)&& !(aheadF m0.text).toList.isEmpty then(b0.inBody ⟨1,⟨#[]⟩,[],false,aheadF m0.text⟩).1 else b0
 let m:=blankM m0
 if blankT m0 then(b,m,false)
 else if startF m [⟨#[104,116,109,108]⟩]||endF m [⟨#[104,116,109,108]⟩]||(m.kind==6)then(b,m,false)
 else(b.goto 4,m,true)
noncomputable def astray (b:BuD) (m:BMark):BuD×BMark×Bool :=
 let r:=({b with on:=true}).inBody m
 ({r.1 with on:=false},r.2.1,r.2.2)
noncomputable def flush (b:BuD):BuD :=
 let c:= {b with wait:=⟨#[]⟩}
 if b.wait.toList.isEmpty then c
 else if(restF b.wait).toList.isEmpty then c.putText b.wait
 else(c.astray ⟨1,⟨#[]⟩,[],false,b.wait⟩).1
def modeR (T:TreeD):List Int→Int
 | []=>4
 |x::r =>
  if spaceQ T x≠0 then modeR T r
  else if((nameQ T x).toList==([116,100]:List UInt8))||((nameQ T x).toList==([116,104]:List UInt8))then 11
  else if((nameQ T x).toList==([116,114]:List UInt8))then 10
  else if((nameQ T x).toList==([116,98,111,100,121]:List UInt8))||((nameQ T x).toList==([116,104,101,97,100]:List UInt8))||((nameQ T x).toList==([116,102,111,111,116]:List UInt8))then 9
  else if((nameQ T x).toList==([99,97,112,116,105,111,110]:List UInt8))then 7
  else if((nameQ T x).toList==([99,111,108,103,114,111,117,112]:List UInt8))then 8
  else if((nameQ T x).toList==([116,97,98,108,101]:List UInt8))then 6
  else if((nameQ T x).toList==([98,111,100,121]:List UInt8))then 4
  else modeR T r
def reset (b:BuD):BuD:=b.goto (modeR b.S.T b.S.l.reverse)
noncomputable def inTable (b:BuD) (m:BMark):BuD×BMark×Bool :=
 if(m.kind==1)&&b.at' [⟨#[116,97,98,108,101]⟩,⟨#[116,98,111,100,121]⟩,⟨#[116,102,111,111,116]⟩,⟨#[116,104,101,97,100]⟩,⟨#[116,114]⟩]then({b with wait:=b.wait++m.text},m,false)
 else if startF m [⟨#[99,97,112,116,105,111,110]⟩]then((((b.clear' [⟨#[116,97,98,108,101]⟩,⟨#[104,116,109,108]⟩]).lmark).ins (⟨#[99,97,112,116,105,111,110]⟩:ByteArray) m.attrs).goto 7,m,false)
 else if startF m [⟨#[99,111,108,103,114,111,117,112]⟩]then(((b.clear' [⟨#[116,97,98,108,101]⟩,⟨#[104,116,109,108]⟩]).ins (⟨#[99,111,108,103,114,111,117,112]⟩:ByteArray) m.attrs).goto 8,m,false)
 else if startF m [⟨#[99,111,108]⟩]then(((b.clear' [⟨#[116,97,98,108,101]⟩,⟨#[104,116,109,108]⟩]).ins (⟨#[99,111,108,103,114,111,117,112]⟩:ByteArray) []).goto 8,m,true)
 else if startF m [⟨#[116,98,111,100,121]⟩,⟨#[116,102,111,111,116]⟩,⟨#[116,104,101,97,100]⟩]then(((b.clear' [⟨#[116,97,98,108,101]⟩,⟨#[104,116,109,108]⟩]).ins m.name m.attrs).goto 9,m,false)
 else if startF m [⟨#[116,100]⟩,⟨#[116,104]⟩,⟨#[116,114]⟩]then(((b.clear' [⟨#[116,97,98,108,101]⟩,⟨#[104,116,109,108]⟩]).ins (⟨#[116,98,111,100,121]⟩:ByteArray) []).goto 9,m,true)
 else if startF m [⟨#[116,97,98,108,101]⟩]||endF m [⟨#[116,97,98,108,101]⟩]then(if b.has 3 [⟨#[116,97,98,108,101]⟩]then((b.until' [⟨#[116,97,98,108,101]⟩]).reset,m,m.kind==2)else(b,m,false))
 else if endF m [⟨#[98,111,100,121]⟩,⟨#[99,97,112,116,105,111,110]⟩,⟨#[99,111,108]⟩,⟨#[99,111,108,103,114,111,117,112]⟩,⟨#[104,116,109,108]⟩,⟨#[116,98,111,100,121]⟩,⟨#[116,100]⟩,⟨#[116,102,111,111,116]⟩,⟨#[116,104]⟩,⟨#[116,104,101,97,100]⟩,⟨#[116,114]⟩]then(b,m,false)
 else if startF m [⟨#[115,116,121,108,101]⟩,⟨#[115,99,114,105,112,116]⟩]&&(b.heads m).2 then((b.heads m).1,m,false)
 else if m.kind==6 then(b,m,false)
 else b.astray m
noncomputable def inCaption (b:BuD) (m:BMark):BuD×BMark×Bool :=
 if endF m [⟨#[99,97,112,116,105,111,110]⟩]||rowedF m||endF m [⟨#[116,97,98,108,101]⟩]then
  (if b.has 3 [⟨#[99,97,112,116,105,111,110]⟩]then((((b.imply ⟨#[]⟩).until' [⟨#[99,97,112,116,105,111,110]⟩]).lclear).goto 6,m,!(endF m [⟨#[99,97,112,116,105,111,110]⟩]))else(b,m,false))
 else if endF m [⟨#[98,111,100,121]⟩,⟨#[99,111,108]⟩,⟨#[99,111,108,103,114,111,117,112]⟩,⟨#[104,116,109,108]⟩,⟨#[116,98,111,100,121]⟩,⟨#[116,100]⟩,⟨#[116,102,111,111,116]⟩,⟨#[116,104]⟩,⟨#[116,104,101,97,100]⟩,⟨#[116,114]⟩]then(b,m,false)
 else b.inBody m
noncomputable def inColumns (b0:BuD) (m0:BMark):BuD×BMark×Bool :=
 let b:=b0.blankB m0
 let m:=blankM m0
 if blankT m0 then(b,m,false)
 else if startF m [⟨#[104,116,109,108]⟩]||endF m [⟨#[99,111,108]⟩]||(m.kind==6)then(b,m,false)
 else if startF m [⟨#[99,111,108]⟩]then(b.single (⟨#[99,111,108]⟩:ByteArray) m.attrs,m,false)
 else if !(b.at' [⟨#[99,111,108,103,114,111,117,112]⟩])then(b,m,false)
 else(b.pop.goto 6,m,!(endF m [⟨#[99,111,108,103,114,111,117,112]⟩]))
noncomputable def inRows (b:BuD) (m:BMark):BuD×BMark×Bool :=
 if startF m [⟨#[116,114]⟩,⟨#[116,104]⟩,⟨#[116,100]⟩]then
  (let c:=(b.clear' [⟨#[116,98,111,100,121]⟩,⟨#[116,102,111,111,116]⟩,⟨#[116,104,101,97,100]⟩,⟨#[104,116,109,108]⟩]).goto 10
   if m.name.toList==([116,114]:List UInt8)then(c.ins (⟨#[116,114]⟩:ByteArray) m.attrs,m,false)else(c.ins (⟨#[116,114]⟩:ByteArray) [],m,true))
 else if endF m [⟨#[116,98,111,100,121]⟩,⟨#[116,102,111,111,116]⟩,⟨#[116,104,101,97,100]⟩]then(if b.has 3 [m.name]then((b.clear' [⟨#[116,98,111,100,121]⟩,⟨#[116,102,111,111,116]⟩,⟨#[116,104,101,97,100]⟩,⟨#[104,116,109,108]⟩]).pop.goto 6,m,false)else(b,m,false))
 else if startF m [⟨#[99,97,112,116,105,111,110]⟩,⟨#[99,111,108]⟩,⟨#[99,111,108,103,114,111,117,112]⟩,⟨#[116,98,111,100,121]⟩,⟨#[116,102,111,111,116]⟩,⟨#[116,104,101,97,100]⟩]||endF m [⟨#[116,97,98,108,101]⟩]then
  (if b.has 3 [⟨#[116,98,111,100,121]⟩,⟨#[116,102,111,111,116]⟩,⟨#[116,104,101,97,100]⟩]then((b.clear' [⟨#[116,98,111,100,121]⟩,⟨#[116,102,111,111,116]⟩,⟨#[116,104,101,97,100]⟩,⟨#[104,116,109,108]⟩]).pop.goto 6,m,true)else(b,m,false))
 else if endF m [⟨#[98,111,100,121]⟩,⟨#[99,97,112,116,105,111,110]⟩,⟨#[99,111,108]⟩,⟨#[99,111,108,103,114,111,117,112]⟩,⟨#[104,116,109,108]⟩,⟨#[116,100]⟩,⟨#[116,104]⟩,⟨#[116,114]⟩]then(b,m,false)
 else b.inTable m
noncomputable def inRow (b:BuD) (m:BMark):BuD×BMark×Bool :=
 if startF m [⟨#[116,104]⟩,⟨#[116,100]⟩]then((((b.clear' [⟨#[116,114]⟩,⟨#[104,116,109,108]⟩]).ins m.name m.attrs).goto 11).lmark,m,false)
 else if endF m [⟨#[116,98,111,100,121]⟩,⟨#[116,102,111,111,116]⟩,⟨#[116,104,101,97,100]⟩]&& !(b.has 3 [m.name])then(b,m,false)
 else if endF m [⟨#[116,114]⟩,⟨#[116,97,98,108,101]⟩,⟨#[116,98,111,100,121]⟩,⟨#[116,102,111,111,116]⟩,⟨#[116,104,101,97,100]⟩]||rowedF m then
  (if b.has 3 [⟨#[116,114]⟩]then((b.clear' [⟨#[116,114]⟩,⟨#[104,116,109,108]⟩]).pop.goto 9,m,!(endF m [⟨#[116,114]⟩]))else(b,m,false))
 else if endF m [⟨#[98,111,100,121]⟩,⟨#[99,97,112,116,105,111,110]⟩,⟨#[99,111,108]⟩,⟨#[99,111,108,103,114,111,117,112]⟩,⟨#[104,116,109,108]⟩,⟨#[116,100]⟩,⟨#[116,104]⟩]then(b,m,false)
 else b.inTable m
noncomputable def leave (b:BuD) (names:List ByteArray):BuD:=(((b.imply ⟨#[]⟩).until' names).lclear).goto 10
noncomputable def inCell (b:BuD) (m:BMark):BuD×BMark×Bool :=
 if endF m [⟨#[116,100]⟩,⟨#[116,104]⟩]then(if b.has 3 [m.name]then(b.leave [m.name],m,false)else(b,m,false))
 else if rowedF m then(if b.has 3 [⟨#[116,100]⟩,⟨#[116,104]⟩]then(b.leave [⟨#[116,100]⟩,⟨#[116,104]⟩],m,true)else(b,m,false))
 else if endF m [⟨#[98,111,100,121]⟩,⟨#[99,97,112,116,105,111,110]⟩,⟨#[99,111,108]⟩,⟨#[99,111,108,103,114,111,117,112]⟩,⟨#[104,116,109,108]⟩]then(b,m,false)
 else if endF m [⟨#[116,97,98,108,101]⟩,⟨#[116,98,111,100,121]⟩,⟨#[116,102,111,111,116]⟩,⟨#[116,104,101,97,100]⟩,⟨#[116,114]⟩]then(if b.has 3 [m.name]then(b.leave [⟨#[116,100]⟩,⟨#[116,104]⟩],m,true)else(b,m,false))
 else b.inBody m
noncomputable def rules (b:BuD) (m:BMark):BuD×BMark×Bool :=
 if b.mode=0 then b.inStart m
 else if b.mode=1 then b.inAhead m
 else if b.mode=2 then b.inHead m
 else if b.mode=3 then b.inBehind m
 else if b.mode=4 then b.inBody m
 else if b.mode=5 then b.inText m
 else if b.mode=6 then b.inTable m
 else if b.mode=7 then b.inCaption m
 else if b.mode=8 then b.inColumns m
 else if b.mode=9 then b.inRows m
 else if b.mode=10 then b.inRow m
 else if b.mode=11 then b.inCell m
 else b.inAfter m
def breakR (b:BuD):List Int→BuD
 | []=>b.stk []
 |x::r =>
  if(spaceQ b.S.T x==0)||(pointF (spaceQ b.S.T x) (nameQ b.S.T x) (attrsQ b.S.T x) !=0)then b.stk (x::r).reverse else breakR b r
def smallS (s:ByteArray):ByteArray:=mkB (s.toList.map fun c=>if 65≤c∧c≤90 then c+32 else c)
noncomputable def leavesR (m:BMark) (b:BuD):List Int→BuD×BMark×Bool
 | []=>(b,m,false)
 | [_]=>(b,m,false)
 |x::y::r =>
  if spaceQ b.S.T x=0 then b.rules m
  else if(smallS (nameQ b.S.T x)).toList=m.name.toList then(b.popTo x,m,false)
  else leavesR m b (y::r)
noncomputable def foreign (b:BuD) (m:BMark) (sp:Int):BuD×BMark×Bool :=
 if m.kind==1 then(b.putText m.text,m,false)
 else if breaksF m.kind m.name m.attrs then(b.breakR b.S.l.reverse).rules m
 else if m.kind==2 then(b.alien m sp,m,false)
 else if m.kind==3 then leavesR m b b.S.l.reverse
 else(b,m,false)
noncomputable def once (b:BuD) (m:BMark):BuD×BMark×Bool :=
 if foreignF (pointF b.tops b.topn (attrsQ b.S.T b.top)) b.tops b.topn m.kind m.name then b.foreign m b.tops else b.rules m
noncomputable def again:Nat→BuD→BMark→BuD
 |0,b,_=>b
 |n+1,b,m=>if b.err=0 then(if(b.once m).2.2 then again n (b.once m).1 (b.once m).2.1 else(b.once m).1)else b
end BuD
theorem elemF_lt {T:TreeD} {x:Int} (h:elemF T x=true):0≤x∧x<T.nodes.length:=by
 unfold elemF isF at h
 simp at h
 omega
theorem set_cnt {n:Int} (hn:n≠ -1): ∀(e:List Int) (i:Nat),(e.set i n).count (-1)≤e.count (-1)
 | [],_=>Nat.le_refl _
 |x::r,0=>by
  rw[List.set_cons_zero,List.count_cons,List.count_cons,if_neg (by simpa using hn)]
  omega
 |x::r,i+1=>by
  rw[List.set_cons_succ,List.count_cons,List.count_cons]
  have:=set_cnt hn r i
  omega
theorem turnR_cnt (b:Int): ∀(r:List Int) (c:Nat) (S:TS),(turnR b r c S).1.ent.count (-1)≤S.ent.count (-1)
 | [],_,_=>Nat.le_refl _
 |x::r,c,S=>by
  rw[turnR]
  split
  ·split
   ·exact Nat.le_trans (turnR_cnt b r (c+1) _) ((dropF_sub _ _).count_le _)
   ·split
    ·rename_i h0 _ he
     obtain⟨hn, -⟩:=likeF_new he
     exact Nat.le_trans (turnR_cnt b r (c+1) ⟨(putE (likeF S.T x).1 (likeF S.T x).2.1 0 S.last).1,swapF S.l x (likeF S.T x).2.1,S.ent.set (rfind S.ent x).toNat (likeF S.T x).2.1,if S.last=b then rfind S.ent x+1 else S.keep,(likeF S.T x).2.1⟩) (set_cnt (by rw[hn];omega) _ _)
    ·exact Nat.le_refl _
  ·exact turnR_cnt b r (c+1) _
theorem closeL_cnt {T:TreeD} {l ent:List Int} (f b keep:Int):(closeL T l ent f b keep).2.2.1.count (-1)≤ent.count (-1):=by
 unfold closeL
 split
 ·rename_i he
  obtain⟨hn, -⟩:=likeF_new he
  refine Nat.le_trans (Nat.le_of_eq (insAt_count _ _ _ _)) ?_
  rw[if_neg (by rw[hn];omega)]
  exact(dropF_sub _ _).count_le _
 ·exact Nat.le_refl _
theorem turnL_cnt {T:TreeD} {l ent:List Int} (on:Bool) (f b:Int):(turnL T l ent on f b).2.2.1.count (-1)≤ent.count (-1):=by
 have h1:=turnR_cnt b (betweenF l f b).reverse 1 ⟨T,l,ent,rfind ent f,b⟩
 unfold turnL
 simp only
 split
 ·exact Nat.le_trans (closeL_cnt _ _ _) h1
 ·exact h1
theorem adoptR_cnt (on:Bool) (name:ByteArray): ∀(r t:Nat) (S:AS),(adoptR on name r t S).1.ent.count (-1)≤S.ent.count (-1)
 |0,_,_=>Nat.le_refl _
 |r+1,t,S=>by
  rw[adoptR]
  split
  ·exact Nat.le_refl _
  ·split
   ·exact(rmF_sub _ _).count_le _
   ·split
    ·exact Nat.le_refl _
    ·split
     ·exact(rmF_sub _ _).count_le _
     ·have h1:=turnL_cnt (T:=S.T) (l:=S.l) (ent:=S.ent) on (findF S.T S.ent name) (blockF S.T S.l (findF S.T S.ent name))
      split
      ·exact Nat.le_trans (adoptR_cnt on name r (t+1) ⟨_,_,_⟩) h1
      ·exact h1
theorem adoptL_cnt (S:AS) (on:Bool) (name:ByteArray):(adoptL on name S).1.ent.count (-1)≤S.ent.count (-1):=by
 unfold adoptL
 split
 ·exact Nat.le_refl _
 ·exact adoptR_cnt on name 8 0 S
theorem restR_cnt (on:Bool): ∀(r i:Nat) (S:AS),(restR on r i S).1.ent.count (-1)≤S.ent.count (-1)
 |0,_,_=>Nat.le_refl _
 |r+1,i,S=>by
  rw[restR]
  split
  ·rename_i he
   by_cases hmm:(S.T.nodes.length:Int)-1<S.T.most
   ·obtain⟨q1,q2,q3⟩:=insertL_yes hmm S.l on (spaceQ S.T (S.ent.getD i 0)) (nameQ S.T (S.ent.getD i 0)) (attrsQ S.T (S.ent.getD i 0))
    have hn:(insertL S.T S.l on (spaceQ S.T (S.ent.getD i 0)) (nameQ S.T (S.ent.getD i 0)) (attrsQ S.T (S.ent.getD i 0))).2.2.1=S.T.nodes.length:=congrArg Prod.fst q2
    exact Nat.le_trans (restR_cnt on r (i+1) ⟨(insertL S.T S.l on (spaceQ S.T (S.ent.getD i 0)) (nameQ S.T (S.ent.getD i 0)) (attrsQ S.T (S.ent.getD i 0))).1,(insertL S.T S.l on (spaceQ S.T (S.ent.getD i 0)) (nameQ S.T (S.ent.getD i 0)) (attrsQ S.T (S.ent.getD i 0))).2.1,S.ent.set i (insertL S.T S.l on (spaceQ S.T (S.ent.getD i 0)) (nameQ S.T (S.ent.getD i 0)) (attrsQ S.T (S.ent.getD i 0))).2.2.1⟩) (set_cnt (by rw[hn];omega) _ _)
   ·rw[insertL_no hmm]at he
    cases he
  ·exact Nat.le_refl _
theorem restL_cnt (S:AS) (on:Bool):(restL on S).1.ent.count (-1)≤S.ent.count (-1):=restR_cnt on _ _ S
theorem pushF_cnt (T:TreeD) (ent:List Int) {n:Int} (hn:n≠ -1):(pushF T ent n).count (-1)≤ent.count (-1):=by
 unfold pushF
 have h1:([n]:List Int).count (-1)=0:=List.count_eq_zero.2 fun h=>hn (List.mem_singleton.1 h).symm
 rw[List.count_append,h1]
 split
 ·exact(dropF_sub _ _).count_le _
 ·exact Nat.le_refl _
theorem len_cnt: ∀(n:Nat) (e:List Int),(∀x∈e,x= -1∨(0≤x∧x<n))→(∀x,x≠ -1→e.count x≤1)→e.length≤e.count (-1)+n
 |0,e,h,_=>by
  rw[List.count_eq_length.2 fun x hx=>by rcases h x hx with h|h <;>omega]
  exact Nat.le_refl _
 |n+1,e,h,h1=>by
  have hf: ∀x,x≠(n:Int)→(e.filter fun y=>y !=(n:Int)).count x=e.count x:=fun x hx=>List.count_filter (by simpa using hx)
  have h0:(e.filter fun y=>y !=(n:Int)).count (n:Int)=0:=List.count_eq_zero.2 fun hx=>by simpa using (List.mem_filter.1 hx).2
  have:=len_cnt n (e.filter fun y=>y !=(n:Int)) (fun x hx=>by
   obtain⟨hx1,hx2⟩:=List.mem_filter.1 hx
   have hne:x≠(n:Int):=by simpa using hx2
   rcases h x hx1 with h|h
   ·exact .inl h
   ·exact .inr (by omega)) (fun x hx=>by
   by_cases hxn:x=(n:Int)
   ·rw[hxn,h0];omega
   ·rw[hf x hxn];exact h1 x hx)
  rw[hf (-1) (by omega)]at this
  have hl:=List.length_eq_countP_add_countP (fun y=>y !=(n:Int)) (l:=e)
  rw[←List.countP_eq_length_filter]at this
  have hc:e.countP (fun y=>decide ¬((y !=(n:Int))=true))=e.count (n:Int):=by
   rw[List.count]
   congr 1
   funext y
   cases h:(y==(n:Int)) <;>simp[bne,h]
  have:=h1 (n:Int) (by omega)
  rw[hc]at hl
  omega
theorem FI.ent_len {T:TreeD} {l ent:List Int} (h:FI T l ent):ent.length≤ent.count (-1)+T.nodes.length :=
 len_cnt _ _ (fun x hx=>(h.eel x hx).imp id elemF_lt) h.one
theorem FI.l_len {T:TreeD} {l ent:List Int} (h:FI T l ent):l.length≤T.nodes.length:=by
 have:=len_cnt T.nodes.length l (fun x hx=> .inr (elemF_lt (h.lel x hx))) (fun x _=>h.lnd x)
 have h0:l.count (-1)=0:=List.count_eq_zero.2 fun hx=>by have:=elemF_lt (h.lel _ hx);omega
 omega
section
def AtP (P:ByteArray→List Pair→Prop) (T:TreeD):Prop:=P ⟨#[]⟩ []∧ ∀d∈T.nodes,P d.name d.attrs
section
variable {P:ByteArray→List Pair→Prop} {T:TreeD}
theorem attrsQ_at (h:AtP P T) (n:Int):P (nameQ T n) (attrsQ T n):=by
 unfold nameQ attrsQ
 split
 ·cases e:T.nodes[n.toNat]? with
  |none=>exact h.1
  |some d=>exact h.2 d (List.mem_of_getElem? e)
 ·exact h.1
theorem addF_at (h:AtP P T) {d:ND} (hd:P d.name d.attrs):AtP P (addF T d):=⟨h.1,fun x hx=>by
 rcases List.mem_append.1 hx with hx|hx
 ·exact h.2 x hx
 ·rw[List.mem_singleton.1 hx];exact hd⟩
theorem modN_at (h:AtP P T) (n:Int) {f:ND→ND} (hf: ∀d,(f d).name=d.name∧(f d).attrs=d.attrs):AtP P (modN T n f):=⟨h.1,fun x hx=>by
 obtain⟨i,hi⟩:=List.mem_iff_getElem?.1 hx
 simp only[modN,List.getElem?_modify]at hi
 cases e:T.nodes[i]? with
 |none=>rw[e]at hi;cases hi
 |some d =>
  rw[e]at hi
  have hd:=h.2 d (List.mem_of_getElem? e)
  simp only[Option.map_eq_map,Option.map_some,Option.some.injEq]at hi
  rw[←hi]
  split
  ·rw[(hf d).1,(hf d).2];exact hd
  ·exact hd⟩
theorem mkF_at (h:AtP P T) {d:ND} (hd:P d.name d.attrs):AtP P (mkF T d).1:=by
 unfold mkF
 split
 ·exact addF_at h hd
 ·exact h
theorem likeF_at (h:AtP P T) (n:Int):AtP P (likeF T n).1:=by
 unfold likeF
 split
 ·exact mkF_at h (attrsQ_at h n)
 ·exact h
theorem insertF_at (h:AtP P T) (a:Int) (i:Nat) (n:Int):AtP P (insertF T a i n):=modN_at (f:=setParent a) (modN_at (f:=setKids _) h _ fun _=>⟨rfl,rfl⟩) _ fun _=>⟨rfl,rfl⟩
theorem takeF_at (h:AtP P T) (n:Int):AtP P (takeF T n):=by
 refine modN_at (f:=setParent (-1)) ?_ _ fun _=>⟨rfl,rfl⟩
 unfold kidsOff
 split
 ·exact modN_at (f:=setKids _) h _ fun _=>⟨rfl,rfl⟩
 ·exact h
theorem putE_at (h:AtP P T) (a b n:Int):AtP P (putE T a b n).1:=by
 unfold putE
 split
 ·exact insertF_at (takeF_at h n) _ _ _
 ·exact h
theorem moveF_at (b:Int): ∀(l:List Int) (U:TreeD),AtP P U→AtP P (moveF U b l)
 | [],_,h=>h
 |_::r,_,h=>moveF_at b r _ (putE_at h _ _ _)
theorem moveE_at (h:AtP P T) (a b:Int):AtP P (moveE T a b).1:=by
 unfold moveE
 split
 ·exact moveF_at _ _ _ h
 ·exact h
theorem textE_at (h:AtP P T) (a b:Int) (s:ByteArray):AtP P (textE T a b s).1:=by
 unfold textE
 split
 ·split
  ·exact h
  ·unfold textAt
   split
   ·exact modN_at (f:=addText s) h _ fun _=>⟨rfl,rfl⟩
   ·split
    ·exact insertF_at (addF_at h h.1) _ _ _
    ·exact h
 ·exact h
theorem insertL_at (h:AtP P T) (l:List Int) (on:Bool) (sp:Int) (nm:ByteArray) {at':List Pair} (ha:P nm at'):AtP P (insertL T l on sp nm at').1:=by
 unfold insertL
 simp only
 split
 ·exact putE_at (mkF_at h ha) _ _ _
 ·exact mkF_at h ha
theorem turnR_at (b:Int): ∀(r:List Int) (c:Nat) (S:TS),AtP P S.T→AtP P (turnR b r c S).1.T
 | [],_,_,h=>h
 |x::r,c,S,h=>by
  rw[turnR]
  split
  ·split
   ·exact turnR_at b r (c+1) _ h
   ·split
    ·exact turnR_at b r (c+1) _ (putE_at (likeF_at h x) _ _ _)
    ·exact likeF_at h x
  ·exact turnR_at b r (c+1) _ h
theorem closeL_at (h:AtP P T) (l ent:List Int) (f b keep:Int):AtP P (closeL T l ent f b keep).1:=by
 unfold closeL
 split
 ·exact putE_at (moveE_at (likeF_at h f) _ _) _ _ _
 ·exact likeF_at h f
theorem turnL_at (h:AtP P T) (l ent:List Int) (on:Bool) (f b:Int):AtP P (turnL T l ent on f b).1:=by
 have h1:=turnR_at b (betweenF l f b).reverse 1 ⟨T,l,ent,rfind ent f,b⟩ h
 unfold turnL
 simp only
 split
 ·exact closeL_at (putE_at h1 _ _ _) _ _ _ _ _
 ·exact h1
theorem adoptR_at (on:Bool) (name:ByteArray): ∀(r t:Nat) (S:AS),AtP P S.T→AtP P (adoptR on name r t S).1.T
 |0,_,_,h=>h
 |r+1,t,S,h=>by
  rw[adoptR]
  split
  ·exact h
  ·split
   ·exact h
   ·split
    ·exact h
    ·split
     ·exact h
     ·have h1:=turnL_at h S.l S.ent on (findF S.T S.ent name) (blockF S.T S.l (findF S.T S.ent name))
      split
      ·exact adoptR_at on name r (t+1) ⟨_,_,_⟩ h1
      ·exact h1
theorem adoptL_at {S:AS} (h:AtP P S.T) (on:Bool) (name:ByteArray):AtP P (adoptL on name S).1.T:=by
 unfold adoptL
 split
 ·exact h
 ·exact adoptR_at on name 8 0 S h
theorem restR_at (on:Bool): ∀(r i:Nat) (S:AS),AtP P S.T→AtP P (restR on r i S).1.T
 |0,_,_,h=>h
 |r+1,i,S,h=>by
  rw[restR]
  have h1:=insertL_at h S.l on (spaceQ S.T (S.ent.getD i 0)) (nameQ S.T (S.ent.getD i 0)) (attrsQ_at h (S.ent.getD i 0))
  split
  ·exact restR_at on r (i+1) ⟨_,_,_⟩ h1
  ·exact h1
theorem restL_at {S:AS} (h:AtP P S.T) (on:Bool):AtP P (restL on S).1.T:=restR_at on _ _ S h
end
def Shorts:Pair→Prop:=fun p=>p.2.size≤maxLen
def Fits (nm:ByteArray) (l:List Pair):Prop:=nm.size≤maxLen∧ ∀p∈l,Shorts p
theorem fits_none {nm:ByteArray} (h:nm.size≤maxLen):Fits nm []:=⟨h,fun _ hp=>absurd hp (by simp)⟩
end
end Go.Proofs.YtgepobccoffnaaaGreatDoor
