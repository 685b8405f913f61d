/- Texts joined for a claim: RMem, RRefsSpec, RBytesP, RMkSpec, RMkInv, RShelfA, RShelfM, RCalm, RRefsNames, RRefsA, RRefsB: plain laws and contracts. No conditions beyond those that each lemma types. -/
import Derived.BigQuiet
import Derived.Deep.QuietTactic
import Derived.Deep.RegionWith
import Derived.Laws.AppendOwnNone
import Derived.Lib.ConvBytes
import Derived.Lib.Hide
import Derived.WalkKit
import Derived.WalkLawsBesides
import Derived.WalkSpells
import Derived.Lib.Index
import Derived.Lib.IndexAny
import Derived.Shelf.Small.Strs
import Derived.Shelf.Small.Wraps
import Derived.Shelf.Strings.BuilderK
import Derived.Shelf.Strings.BuilderRune
import Derived.Shelf.Strings.Prefix
import Derived.Test.YtgepobccoffnaaaGreatDoorRows
import Derived.Laws.RangeAny
import Derived.Shelf.Strings.IndexAnyAll
import Derived.Shelf.Strings.Search3
import Derived.KernelRfl
import Derived.Deep.DeepMust
set_option linter.unusedVariables false
set_option linter.unusedSimpArgs false
section
namespace Go.Proofs.YtgepobccoffnaaaGreatDoor.Rd.Mem
open Go Go.RowKit
abbrev Str:=List UInt8
def At (w:World) (a:Option Addr) (xs:List Value):Prop :=
 ∀j u,xs[j]?=some u→ ∃b o,a=some ⟨b,o,none⟩∧w.cell? ⟨b,o+j,none⟩=some u
theorem At.nil (w:World) (a:Option Addr):At w a []:=by
 intro j u h
 simp at h
theorem belowCall {w wr w1:World} (h:Below w.heap.size w wr) (h1:Below wr.heap.size wr w1):Below w.heap.size w w1:=h.trans (h1.mono h.size)
def Row (w:World) (g:Nat) (xs:List Value):Prop :=
 ∃cur e lo hi,w.heap[g]?=some (.cells cur e (lo,hi))∧cur.toList.take xs.length=xs∧(xs.length≤lo∨hi=0)
theorem Row.cell {w:World} {g:Nat} {xs:List Value} (h:Row w g xs) {j:Nat} {u:Value} (hj:xs[j]?=some u):w.cell? ⟨g,j,none⟩=some u:=by
 obtain⟨cur,e,lo,hi,hg,ht,_⟩:=h
 have hlt:j<xs.length:=by
  rcases Nat.lt_or_ge j xs.length with h|h
  ·exact h
  ·simp[List.getElem?_eq_none h]at hj
 simp only[World.cell?,hg]
 rw[←ht,List.getElem?_take_of_lt hlt]at hj
 simpa using hj
theorem Row.frozen {w:World} {g:Nat} {xs:List Value} (h:Row w g xs) {j:Nat} (hj:j<xs.length):w.frozen? ⟨g,j,none⟩=false:=by
 obtain⟨cur,e,lo,hi,hg,ht,hf⟩:=h
 simp only[World.frozen?,hg]
 rcases hf with hf|hf
 ·simp;omega
 ·subst hf;simp
theorem Row.lt {w:World} {g:Nat} {xs:List Value} (h:Row w g xs):g<w.heap.size:=by
 obtain⟨cur,e,lo,hi,hg,_⟩:=h
 rcases Nat.lt_or_ge g w.heap.size with h|h
 ·exact h
 ·simp[Array.getElem?_eq_none h]at hg
theorem Row.set {w:World} {g:Nat} {xs:List Value} (h:Row w g xs) (j:Nat) (v:Value):Row (w.setCell ⟨g,j,none⟩ v) g (xs.set j v):=by
 obtain⟨cur,e,lo,hi,hg,ht,hf⟩:=h
 have hlt:=Row.lt ⟨cur,e,lo,hi,hg,ht,hf⟩
 refine⟨cur.setIfInBounds j v,e,lo,hi,?_,?_,?_⟩
 ·simp[World.setCell,Array.getElem?_modify,hg]
 ·rw[List.length_set,Array.toList_setIfInBounds,List.take_set,ht]
 ·rw[List.length_set];exact hf
theorem Row.kept {w w':World} {g:Nat} {xs:List Value} (h:Row w g xs) (hg:w'.heap[g]?=w.heap[g]?):Row w' g xs:=by
 obtain⟨cur,e,lo,hi,h1,h2⟩:=h
 exact⟨cur,e,lo,hi,hg.trans h1,h2⟩
theorem Row.below {w w':World} {g B:Nat} {xs:List Value} (h:Row w g xs) (hb:Below B w w') (hg:g<B):Row w' g xs:=h.kept (hb.block g hg)
theorem Row.at {w:World} {g:Nat} {xs:List Value} (h:Row w g xs):At w (some ⟨g,0,none⟩) xs:=by
 intro j u hj
 exact⟨g,0,rfl,by rw[Nat.zero_add];exact h.cell hj⟩
theorem Row.alloc (w:World) (cur:Array Value) (e:TypeId):Row (w.alloc (.cells cur e)) w.heap.size cur.toList :=
 ⟨cur,e,0,0,heap_alloc_new w _,List.take_of_length_le (Nat.le_refl _),.inr rfl⟩
def bytesV (l:Str):List Value:=l.map fun b=>Value.int .u8 b.toNat
theorem bytesV_length (l:Str):(bytesV l).length=l.length:=by simp[bytesV]
theorem size_toList (s:ByteArray):s.toList.length=s.size:=by rw[ByteArray.toList_eq,Array.length_toList];rfl
theorem mk_toList (s:ByteArray):(ByteArray.mk s.toList.toArray)=s:=by rw[ByteArray.toList_eq]
theorem toList_inj {a b:ByteArray} (h:a.toList=b.toList):a=b:=by rw[←mk_toList a,←mk_toList b,h]
theorem bytesWorld_row (w:World) (e:TypeId) (s:ByteArray):Row (Lib.bytesWorld w e s) w.heap.size (bytesV s.toList):=by
 refine⟨_,_,_,_,Lib.bytesWorld_at_new w e s,?_,.inl ?_⟩
 ·rw[bytesV_length,size_toList]
  simp only[Lib.bytesCells,bytesV,ByteArray.toList_eq,Array.toList_append,Array.toList_map]
  rw[List.take_left']
  simp
 ·rw[bytesV_length,size_toList]
  simp[Lib.bytesCells]
theorem bytesWorld_below (w:World) (e:TypeId) (s:ByteArray):Below w.heap.size w (Lib.bytesWorld w e s):=by
 refine⟨?_,?_,?_,by rw[Lib.bytesWorld_size];omega,fun k hk=>Lib.bytesWorld_at_old w e s k hk⟩
 all_goals (unfold Lib.bytesWorld World.freeze;split <;>rfl)
theorem run_bytes_of {P:Program} (w:World) (src dst e:TypeId) (s:ByteArray) {u:TypeDesc}
 (hs:P.underlying src=some u) (hd:P.underlying dst=some (.slice e)) (he:P.underlying e=some (.int .u8)) :
 ∃c W,(convert src dst (.string s)).run P w= .ok (.slice (some ⟨w.heap.size,0,none⟩) s.size c) W∧Below w.heap.size w W∧W.heap.size=w.heap.size+1∧Row W w.heap.size (bytesV s.toList)∧s.size≤c :=
 ⟨_,_,Lib.run_convert_string_bytes w src dst e s hs hd he,bytesWorld_below w e s,Lib.bytesWorld_size w e s,bytesWorld_row w e s,grownCap_ge w s.size 0 e⟩
theorem foldl_push (l:Str): ∀s:ByteArray,(l.map fun b=>((b.toNat:Nat):Int)).foldl (fun r n=>r.push (UInt8.ofNat n.toNat)) s=⟨(s.toList++l).toArray⟩:=by
 induction l with
 |nil=>intro s;simp[ByteArray.toList_eq]
 |cons b r ih =>
  intro s
  simp only[List.map_cons,List.foldl_cons]
  rw[ih]
  congr 2
  rw[ByteArray.toList_eq,ByteArray.toList_eq]
  simp[ByteArray.push]
theorem run_string_of {P:Program} (w:World) (src dst e:TypeId) (g c:Nat) (l:Str) (n:Nat) (hn:n=l.length)
 (hs:P.underlying src=some (.slice e)) (he:P.underlying e=some (.int .u8)) (hd:P.underlying dst=some .string) (hr:Row w g (bytesV l)) :
 (convert src dst (.slice (some ⟨g,0,none⟩) n c)).run P w= .ok (.string ⟨l.toArray⟩) w:=by
 subst hn
 rw[run_convert_bytes_string w src dst e _ _ _ hs he hd]
 have h:=run_loadCells_list (P:=P) (w:=w) ⟨g,0,none⟩ (bytesV l) (by
  intro j v hj
  rw[Addr.add]
  split
  ·rename_i h0;subst h0;exact hr.cell hj
  ·have:=hr.cell hj;simpa using this)
 rw[bytesV_length]at h
 have h2:=run_bytesToString (P:=P) w ⟨g,0,none⟩ l.length c (l.map fun b=>((b.toNat:Nat):Int)) (by
  rw[h];simp[bytesV,Function.comp_def])
 rw[h2,foldl_push]
 simp[ByteArray.toList_eq]
abbrev Pair:=ByteArray×ByteArray
def pairsV:List Pair→List Value
 | []=> []
 |p::r=> .string p.1:: .string p.2::pairsV r
theorem ret_bool {a b:Bool} (h:a=b):Ending.returned (.bool a)= .returned (.bool b):=by rw[h]
theorem ret_string {a b:ByteArray} (h:a=b):Ending.returned (.string a)= .returned (.string b):=by rw[h]
theorem ret_eq {v v':Value} (h:v=v'):Ending.returned v= .returned v':=by rw[h]
end Go.Proofs.YtgepobccoffnaaaGreatDoor.Rd.Mem
end
section
namespace Go.Proofs.YtgepobccoffnaaaGreatDoor.Rd
open Mem
def bareT:List (Str×Str):= [([113,117,111,116],[34]),
 ([97,109,112],[38]),
 ([65,77,80],[38]),
 ([108,116],[60]),
 ([76,84],[60]),
 ([103,116],[62]),
 ([110,98,115,112],[194,160]),
 ([99,111,112,121],[194,169]),
 ([114,101,103],[194,174]),
 ([110,111,116],[194,172]),
 ([112,97,114,97],[194,182]),
 ([116,105,109,101,115],[195,151]),
 ([100,105,118,105,100,101],[195,183]),
 ([101,97,99,117,116,101],[195,169]),
 ([69,84,72],[195,144]),
 ([115,122,108,105,103],[195,159])]
def boundT:List (Str×Str):= [([97,112,111,115],[39]),
 ([110,111,116,105,110],[226,136,137]),
 ([99,111,112,121,115,114],[226,132,151]),
 ([112,97,114,97,108,108,101,108],[226,136,165]),
 ([116,105,109,101,115,98],[226,138,160]),
 ([108,116,105,109,101,115],[226,139,137]),
 ([103,116,100,111,116],[226,139,151]),
 ([104,101,108,108,105,112],[226,128,166]),
 ([110,100,97,115,104],[226,128,147]),
 ([109,100,97,115,104],[226,128,148]),
 ([108,115,113,117,111],[226,128,152]),
 ([114,115,113,117,111],[226,128,153]),
 ([108,100,113,117,111],[226,128,156]),
 ([114,100,113,117,111],[226,128,157]),
 ([101,117,114,111],[226,130,172]),
 ([116,114,97,100,101],[226,132,162]),
 ([108,97,114,114],[226,134,144]),
 ([114,97,114,114],[226,134,146]),
 ([84,97,98],[9]),
 ([78,101,119,76,105,110,101],[10]),
 ([99,111,108,111,110],[58]),
 ([115,111,108],[47]),
 ([113,117,101,115,116],[63]),
 ([108,112,97,114],[40]),
 ([122,119,106],[226,128,141]),
 ([78,111,116,69,113,117,97,108,84,105,108,100,101],[226,137,130,204,184]),
 ([84,104,105,99,107,83,112,97,99,101],[226,129,159,226,128,138]),
 ([110,118,108,116],[60,226,131,146])]
def encF (c:Nat):Str :=
 if c<0x80 then [UInt8.ofNat c]
 else if c<0x800 then [UInt8.ofNat (0xc0+c/64),UInt8.ofNat (0x80+c%64)]
 else if c<0x10000 then [UInt8.ofNat (0xe0+c/4096),UInt8.ofNat (0x80+c/64%64),UInt8.ofNat (0x80+c%64)]
 else [UInt8.ofNat (0xf0+c/262144),UInt8.ofNat (0x80+c/4096%64),UInt8.ofNat (0x80+c/64%64),UInt8.ofNat (0x80+c%64)]
def charB (n:Int):Bool:=decide (0≤n)&&decide (n≤0x10ffff)&& !(decide (0xd800≤n)&&decide (n≤0xdfff))
def oddT:List Nat:= [0x20ac,0x81,0x201a,0x192,0x201e,0x2026,0x2020,0x2021,0x2c6,0x2030,0x160,0x2039,0x152,0x8d,0x17d,0x8f,
 0x90,0x2018,0x2019,0x201c,0x201d,0x2022,0x2013,0x2014,0x2dc,0x2122,0x161,0x203a,0x153,0x9d,0x17e,0x178]
def numC (n:Int):Nat:=if n=0∨charB n=false then 0xfffd else if 0x80≤n∧n<0xa0 then oddT.getD (n.toNat-0x80) 0 else n.toNat
def numF (n:Int):Str:=encF (numC n)
def look:List (Str×Str)→Str→Str
 | [],_=> []
 |p::r,x=>if x==p.1 then p.2 else look r x
def hitF (p:Str):Str :=
 if([59]:Str).isSuffixOf p then(if look bareT (p.take (p.length-1))≠ []then look bareT (p.take (p.length-1))else look boundT (p.take (p.length-1)))
 else look bareT p
def findUp (s:Str):Nat→Str×Nat
 |0=>([],0)
 |n+1=>if hitF (s.take (n+1))≠ []then(hitF (s.take (n+1)),n+1)else findUp s n
def findF (s:Str):Str×Nat:=findUp s (min s.length 14)
def beginsF (s:Str):Bool:=(bareT++boundT).any fun p=>s.isPrefixOf p.1
def digV (n:Nat):Nat:=if 48≤n∧n≤57 then n-48 else if 97≤n∧n≤102 then n-97+10 else if 65≤n∧n≤70 then n-65+10 else 99
def digF (base:Nat) (c:UInt8):Option Nat:=if digV c.toNat<base then some (digV c.toNat)else none
def digsF (base:Nat):Nat→Str→Nat→Nat×Nat
 |0,_,v=>(0,v)
 |_+1,[],v=>(0,v)
 |k+1,c::r,v=>match digF base c with
  |none=>(0,v)
  |some d=>((digsF base k r (min (v*base+d) 0x110000)).1+1,(digsF base k r (min (v*base+d) 0x110000)).2)
def xB (s:Str):Bool:=match s with
 | []=>false
 |c::_=>c==120||c==88
def headN (s:Str):Nat:=if xB s then 1 else 0
def baseN (s:Str):Nat:=if xB s then 16 else 10
def numG (s:Str):Nat×Nat:=digsF (baseN s) 16 (s.drop (headN s)) 0
def numN (s:Str):Nat:=headN s+(numG s).1
def wordB (c:UInt8):Bool:=(48≤c&&c≤57)||(97≤c&&c≤122)||(65≤c&&c≤90)||c==61
def takeNum (r:Str):Str×Nat :=
 if(numG r).1=0 then([],0)else(numF (numG r).2,(if(r.drop (numN r)).head?=some 59 then numN r+1 else numN r)+2)
def refused (r:Str) (attr:Bool):Bool :=
 (findF r).2==0||(attr&& !((r.take (findF r).2).getLast?==some 59)&&(((r.drop (findF r).2).head?).map wordB).getD false)
def takeName (r:Str) (attr:Bool):Str×Nat:=if refused r attr then([],0)else((findF r).1,(findF r).2+1)
def takeF (s:Str) (attr:Bool):Str×Nat :=
 if([38,35]:Str).isPrefixOf s then takeNum (s.drop 2)else if([38]:Str).isPrefixOf s then takeName (s.drop 1) attr else([],0)
def moreF (s:Str):Bool :=
 if([38,35]:Str).isPrefixOf s then numN (s.drop 2)==(s.drop 2).length else if([38]:Str).isPrefixOf s then beginsF (s.drop 1)else false
def allF (attr:Bool):Nat→Str→Str
 |0,_=> []
 |_+1,[]=> []
 |k+1,c::r=>if c=38∧(takeF (c::r) attr).2≠0 then(takeF (c::r) attr).1++allF attr k ((c::r).drop (takeF (c::r) attr).2)else c::allF attr k r
def allS (s:Str) (attr:Bool):Str:=allF attr s.length s
end Go.Proofs.YtgepobccoffnaaaGreatDoor.Rd
end
section
namespace Go.Proofs.YtgepobccoffnaaaGreatDoor.Rd
open Go.RowKit Mem
def lowB (b:UInt8):UInt8:=if 65≤b∧b≤90 then b+32 else b
def lowS (l:Str):Str:=l.map lowB
def mixS (k:Nat) (l:Str):Str:=(l.take k).map lowB++l.drop k
theorem lowB_nat (b:UInt8):((lowB b).toNat:Int)=if 65≤(b.toNat:Int)∧(b.toNat:Int)≤90 then(b.toNat:Int)+32 else b.toNat:=by
 have h1:(65≤b)↔65≤(b.toNat:Int):=by rw[UInt8.le_iff_toNat_le];simp;omega
 have h2:(b≤90)↔(b.toNat:Int)≤90:=by rw[UInt8.le_iff_toNat_le];simp;omega
 unfold lowB
 by_cases h:65≤(b.toNat:Int)∧(b.toNat:Int)≤90
 ·rw[if_pos h,if_pos ⟨h1.2 h.1,h2.2 h.2⟩,UInt8.toNat_add]
  simp
  omega
 ·rw[if_neg h,if_neg (fun hh=>h ⟨h1.1 hh.1,h2.1 hh.2⟩)]
theorem mixS_length (k:Nat) (l:Str):(mixS k l).length=l.length:=by simp[mixS];omega
theorem mixS_zero (l:Str):mixS 0 l=l:=by simp[mixS]
theorem mixS_all (l:Str):mixS l.length l=lowS l:=by simp[mixS,lowS]
theorem mixS_get (k:Nat) (l:Str) (h:k<l.length):(mixS k l)[k]?=some l[k]:=by
 simp only[mixS]
 rw[List.getElem?_append_right (by simp;omega)]
 simp[Nat.min_eq_left (Nat.le_of_lt h),h]
theorem mixS_succ (k:Nat) (l:Str) (h:k<l.length):(mixS k l).set k (lowB l[k])=mixS (k+1) l:=by
 simp only[mixS]
 rw[List.set_append_right _ _ (by simp;omega),List.drop_eq_getElem_cons h]
 simp only[List.length_map,List.length_take,Nat.min_eq_left (Nat.le_of_lt h),Nat.sub_self,List.set_cons_zero]
 rw[List.take_succ_eq_append_getElem h,List.map_append]
 simp
theorem bytesV_mix_succ (k:Nat) (l:Str) (h:k<l.length) (v:Value) (hv:v= .int .u8 (lowB l[k]).toNat):(bytesV (mixS k l)).set k v=bytesV (mixS (k+1) l):=by
 subst hv
 unfold bytesV
 rw[←mixS_succ k l h,List.map_set]
theorem bytesV_mix_same (k:Nat) (l:Str) (h:k<l.length) (hv:((lowB l[k]).toNat:Int)=l[k].toNat):bytesV (mixS k l)=bytesV (mixS (k+1) l):=by
 rw[←bytesV_mix_succ k l h (.int .u8 l[k].toNat) (by rw[hv])]
 have hg:(bytesV (mixS k l))[k]?=some (.int .u8 l[k].toNat):=by simp[bytesV,mixS_get k l h]
 obtain⟨hk,he⟩:=List.getElem?_eq_some_iff.1 hg
 rw[←he,List.set_getElem_self]
theorem bytesV_mix_get (k:Nat) (l:Str) (h:k<l.length):(bytesV (mixS k l))[k]?=some (.int .u8 l[k].toNat):=by
 simp[bytesV,mixS_get k l h]
end Go.Proofs.YtgepobccoffnaaaGreatDoor.Rd
end
section
namespace Go.Proofs.YtgepobccoffnaaaGreatDoor.Rd
open Mem
structure MarkD where
 kind:Int
 name:Str
 attrs:List (Str×Str)
 self:Bool
 text:Str
def bareM (k:Int):MarkD:=⟨k,[],[],false,[]⟩
def textM (t:Str):MarkD:=⟨1,[],[],false,t⟩
structure MkM where
 buf:Str
 cr:Bool
 closed:Bool
 mode:Int
 name:Str
 cdata:Bool
 pass:Int
 kind:Int
 fresh:Bool
 err:Int
def zeroM:MkM:=⟨[],false,false,0,[],false,0,0,false,0⟩
def spaceB (c:UInt8):Bool:=c==9||c==10||c==12||c==32
def letterB (c:UInt8):Bool:=(decide (97≤c)&&decide (c≤122))||(decide (65≤c)&&decide (c≤90))
def gapB (c:UInt8):Bool:=spaceB c||c==47
def putOne (cr:Bool) (c:UInt8):Str:=if c=10∧cr=true then []else if c=13 then [10]else if c=0 then [239,191,189]else [c]
def putF:Bool→Str→Str
 |_,[]=> []
 |cr,c::r=>putOne cr c++putF (c==13) r
def putC:Bool→Str→Bool
 |cr,[]=>cr
 |_,c::r=>putC (c==13) r
def untilF (sg s:Str):Option (Str×Str) :=
 if s.dropWhile (fun c=> !sg.contains c)= []then none else some (s.takeWhile (fun c=> !sg.contains c),s.dropWhile (fun c=> !sg.contains c))
theorem untilF_len {sg s t r:Str} (h:untilF sg s=some (t,r)):t.length+r.length=s.length∧1≤r.length:=by
 unfold untilF at h
 split at h
 ·cases h
 ·rename_i hne
  simp only[Option.some.injEq,Prod.mk.injEq]at h
  obtain⟨rfl,rfl⟩:=h
  have:=congrArg List.length (List.takeWhile_append_dropWhile (p:=fun c=> !sg.contains c) (l:=s))
  rw[List.length_append]at this
  exact⟨this,List.length_pos_iff.2 hne⟩
theorem dropWhile_len (p:UInt8→Bool) (s:Str):(s.dropWhile p).length≤s.length:=by
 have:=congrArg List.length (List.takeWhile_append_dropWhile (p:=p) (l:=s))
 rw[List.length_append]at this
 omega
def signT:Str:= [9,10,12,32,47,62]
def signA:Str:= [9,10,12,32,47,62,61]
def signV:Str:= [9,10,12,32,62]
def valueF (r:Str):Option (Str×Str):=match r.dropWhile spaceB with
 | []=>none
 |q::r1=>if q=34∨q=39 then(untilF [q] r1).map fun p=>(p.1,p.2.drop 1)else untilF signV (q::r1)
def attrF:Str→Option ((Str×Str)×Str)
 | []=>none
 |c::r=>match untilF signA r with
  |none=>none
  |some (t,r2)=>match r2.dropWhile spaceB with
   | []=>none
   |d::r4=>if d=61 then(valueF r4).map fun p=>((lowS (c::t),allS p.1 true),p.2)else some ((lowS (c::t),[]),d::r4)
def hasA (l:List (Str×Str)) (n:Str):Bool:=l.any fun a=>a.1==n
def tagsF (zas:List (Str×Str)) (r:Str):Option (List (Str×Str)×Bool×Str) :=
 match r.dropWhile gapB with
 | []=>none
 |c::r1=>if c=62 then some (zas,(r.takeWhile gapB).getLast?==some 47,r1)else
  match attrF (c::r1)with
  |none=>none
  |some (a,r2)=>if r2.length<r.length then tagsF (if hasA zas a.1 then zas else zas++ [a]) r2 else none
termination_by r.length
def parseF (s:Str) (e:Bool):MarkD×Int×Int :=
 match untilF signT (s.drop (if e then 2 else 1))with
 |none=>(bareM 0, -1,0)
 |some (nm,r)=>match tagsF [] r with
  |none=>(bareM 0, -1,0)
  |some (zas,sl,r2) =>
   if e then(⟨3,lowS nm,[],false,[]⟩,(s.length:Int)-r2.length,0)
   else if 8<zas.length then(bareM 0,(s.length:Int)-r2.length,42)
   else(⟨2,lowS nm,zas,sl,[]⟩,(s.length:Int)-r2.length,0)
def foldsF (s word:Str):Bool×Bool :=
 if lowS (s.take (min s.length word.length))≠word.take (min s.length word.length)then(false,false)
 else(min s.length word.length==word.length,decide (min s.length word.length<word.length))
def unlessF (closed:Bool) (is:Int):Int:=if closed then is else 1
def endsF (m:MkM) (s:Str):Int :=
 if(foldsF s ([60,47]++m.name)).2=true∨((foldsF s ([60,47]++m.name)).1=true∧s.length=m.name.length+2)then unlessF m.closed 0
 else if(foldsF s ([60,47]++m.name)).1=true∧(gapB (s.getD (m.name.length+2) 0)||s.getD (m.name.length+2) 0==62)=true then 3
 else 0
def cdataW:Str:= [60,33,91,67,68,65,84,65,91]
def docW:Str:= [60,33,100,111,99,116,121,112,101]
def comW:Str:= [60,33,45,45]
def declF (m:MkM) (s:Str):Int :=
 if(foldsF s comW).1 then 5
 else if(foldsF s docW).1 then 6
 else if cdataW.isPrefixOf s∧m.cdata=true then 7
 else if(foldsF s comW).2∨(foldsF s docW).2∨(s.isPrefixOf cdataW∧m.cdata=true)then unlessF m.closed 8
 else 8
def lookF (m:MkM) (s:Str):Int :=
 if m.mode≠0 then endsF m s
 else match s with
 |_::c::r =>
  if letterB c then 2 else if c=63 then 8 else if c=33 then declF m s else if c≠47 then 0
  else match r with
   | []=>unlessF m.closed 0
   |d::_=>if letterB d then 3 else if d=62 then 4 else 8
 |_=>unlessF m.closed 0
def textF (m:MkM) (s:Str):Str×Str×Int :=
 match s with
 | []=>([],[],1)
 |c::r =>
  if c=60 then(if lookF m (c::r)=0 then(60::(textF m r).1,(textF m r).2)else([],c::r,lookF m (c::r)))
  else if c=38∧m.mode≠2 then
   (if m.closed=false∧moreF (c::r)=true then([],c::r,1)
   else((if(takeF (c::r) false).2=0 then [38]else(takeF (c::r) false).1)++(textF m (r.drop ((takeF (c::r) false).2-1))).1,(textF m (r.drop ((takeF (c::r) false).2-1))).2))
  else(c::(textF m r).1,(textF m r).2)
termination_by s.length
decreasing_by all_goals (simp only[List.length_drop,List.length_cons];omega)
abbrev Out:=MarkD×Bool×Bool×MkM
def noM:MarkD:=bareM 0
def doneF (m:MkM) (n:Nat):Out:=(bareM m.kind,true,false,{m with buf:=m.buf.drop n,pass:=0})
def tagF (m:MkM) (e:Bool):Out :=
 let s:=m.buf.take 2049
 let p:=parseF s e
 let er:=if p.2.1>2048∨(p.2.1<0∧2048<s.length)then 41 else p.2.2
 if er≠0 then(noM,false,true,{m with err:=er,buf:= []})
 else if p.2.1<0 then(noM,false,true,if m.closed then {m with buf:= []}else m)
 else(p.1,true,false,if e then {m with buf:=m.buf.drop p.2.1.toNat,mode:=0}else {m with buf:=m.buf.drop p.2.1.toNat})
def stepF (m:MkM):Out :=
 let p:=textF m m.buf
 let m1:= {m with buf:=p.2.1}
 if p.1≠ []then(textM p.1,true,false,m1)
 else if p.2.2=2 then tagF m1 false
 else if p.2.2=3 then tagF m1 true
 else if p.2.2=4 then(noM,false,false,{m1 with buf:=m1.buf.drop 3})
 else if p.2.2=5 then(noM,false,false,{m1 with pass:=1,kind:=4,fresh:=true,buf:=m1.buf.drop 4})
 else if p.2.2=6 then(noM,false,false,{m1 with pass:=2,kind:=5})
 else if p.2.2=7 then(noM,false,false,{m1 with pass:=3,buf:=m1.buf.drop 9})
 else if p.2.2=8 then(noM,false,false,{m1 with pass:=2,kind:=4})
 else(noM,false,true,m1)
def comEnd:Str:= [45,45,62]
def comEnd2:Str:= [45,45,33,62]
def cdEnd:Str:= [93,93,62]
def comLater (m:MkM):Out :=
 let a:=Lib.index m.buf comEnd
 let b:=Lib.index m.buf comEnd2
 if 0≤a∧(b<0∨a<b)then doneF m (a.toNat+3)
 else if 0≤b then doneF m (b.toNat+4)
 else if m.closed then doneF m m.buf.length
 else(noM,false,true,{m with buf:=m.buf.drop (m.buf.length-3)})
def comF (m:MkM):Out :=
 if m.fresh then
  if([62]:Str).isPrefixOf m.buf then doneF m 1
  else if([45,62]:Str).isPrefixOf m.buf then doneF m 2
  else if m.closed=false∧(m.buf= []∨m.buf= [45])then(noM,false,true,m)
  else comLater {m with fresh:=false}
 else comLater m
def cdF (m:MkM):Out :=
 let n:=Lib.index m.buf cdEnd
 if 0≤n then(textM (m.buf.take n.toNat),m.buf.take n.toNat≠ [],false,{m with buf:=m.buf.drop (n.toNat+3),pass:=0})
 else if m.closed then(textM m.buf,m.buf≠ [],false,{m with buf:= [],pass:=0})
 else(textM (m.buf.take (m.buf.length-2)),m.buf.take (m.buf.length-2)≠ [],m.pass≠0,{m with buf:=m.buf.drop (m.buf.length-2)})
def passF (m:MkM):Out :=
 if m.pass=1 then comF m
 else if m.pass=2 then
  if 0≤Lib.indexByte m.buf 62 then doneF m ((Lib.indexByte m.buf 62).toNat+1)
  else if m.closed then doneF m m.buf.length
  else(noM,false,true,{m with buf:= []})
 else cdF m
def doM (m:MkM):Nat:=if m.pass=0 then 2*m.buf.length else if m.pass=2 then(if m.buf= []then 1 else 2*m.buf.length-1)else 2*m.buf.length+1
def oneF (m:MkM):Out:=if m.pass=0 then stepF m else passF m
def readF (m:MkM):Option MarkD×MkM :=
 if m.err≠0 then(none,m)else
 if(oneF m).2.1 then(some (oneF m).1,(oneF m).2.2.2)else if(oneF m).2.2.1 then(none,(oneF m).2.2.2)
 else if doM (oneF m).2.2.2<doM m then readF (oneF m).2.2.2 else(none,m)
termination_by doM m
end Go.Proofs.YtgepobccoffnaaaGreatDoor.Rd
end
section
namespace Go.Proofs.YtgepobccoffnaaaGreatDoor.Rd
open Mem
def OkB (s:Str):Prop:= ∀c∈s,c≠0∧c≠13
theorem OkB.suffix {s t:Str} (h:OkB s) (ht:t <:+s):OkB t:=fun c hc=>h c (ht.subset hc)
theorem untilF_eq {sg s t r:Str} (h:untilF sg s=some (t,r)):t=s.takeWhile (fun c=> !sg.contains c)∧r=s.dropWhile (fun c=> !sg.contains c)∧t++r=s:=by
 unfold untilF at h
 split at h
 ·cases h
 ·simp only[Option.some.injEq,Prod.mk.injEq]at h
  obtain⟨rfl,rfl⟩:=h
  exact⟨rfl,rfl,List.takeWhile_append_dropWhile⟩
theorem untilF_suffix {sg s t r:Str} (h:untilF sg s=some (t,r)):r <:+s∧ ∀c∈t,c∈s:=by
 have:=(untilF_eq h).2.2
 exact⟨⟨t,this⟩,fun c hc=>by rw[←this];exact List.mem_append_left _ hc⟩
theorem valueF_suffix {r v t:Str} (h:valueF r=some (v,t)):t <:+r:=by
 have h0:r.dropWhile spaceB <:+r:=List.dropWhile_suffix _
 unfold valueF at h
 split at h
 ·cases h
 ·rename_i q r1 he
  rw[he]at h0
  split at h
  ·cases hu:untilF [q] r1 with
   |none=>rw[hu]at h;cases h
   |some p =>
    rw[hu]at h
    simp only[Option.map_some,Option.some.injEq,Prod.mk.injEq]at h
    rw[←h.2]
    exact(List.drop_suffix _ _).trans ((untilF_suffix hu).1.trans ((List.suffix_cons q r1).trans h0))
  ·exact(untilF_suffix h).1.trans h0
def Nm (c:UInt8):Prop:= ¬(65≤c∧c≤90)∧c≠0∧c≠13
theorem low_all: ∀c:UInt8,c≠0∧c≠13→Nm (lowB c):=by
 have h: ∀n:Fin 256,(UInt8.ofNat n.1≠0∧UInt8.ofNat n.1≠13)→(¬(65≤lowB (UInt8.ofNat n.1)∧lowB (UInt8.ofNat n.1)≤90)∧lowB (UInt8.ofNat n.1)≠0∧lowB (UInt8.ofNat n.1)≠13):=by decide +kernel
 intro c hc
 have:=h ⟨c.toNat,c.toNat_lt⟩
 simp only[UInt8.ofNat_toNat]at this
 exact this hc
theorem lowS_nm {s:Str} (h:OkB s): ∀c∈lowS s,Nm c:=by
 intro c hc
 obtain⟨d,hd,rfl⟩:=List.mem_map.1 hc
 exact low_all d (h d hd)
theorem attrF_good {s r:Str} {a:Str×Str} (hs:OkB s) (h:attrF s=some (a,r)):r <:+s∧a.1≠ []∧ ∀c∈a.1,Nm c:=by
 cases s with
 |nil=>cases h
 |cons c s =>
  simp only[attrF]at h
  split at h
  ·cases h
  ·rename_i t r2 hu
   have h1:=untilF_suffix hu
   have h2:r2.dropWhile spaceB <:+r2:=List.dropWhile_suffix _
   have hn:lowS (c::t)≠ []:=by simp[lowS]
   have hm: ∀d∈lowS (c::t),Nm d:=lowS_nm fun d hd=>by
    rcases List.mem_cons.1 hd with rfl|hd
    ·exact hs d List.mem_cons_self
    ·exact hs d (List.mem_cons_of_mem _ (h1.2 d hd))
   have h3:r2 <:+c::s:=h1.1.trans (List.suffix_cons c s)
   split at h
   ·cases h
   ·rename_i d r4 he
    rw[he]at h2
    split at h
    ·cases hv:valueF r4 with
     |none=>rw[hv]at h;cases h
     |some p =>
      rw[hv]at h
      simp only[Option.map_some,Option.some.injEq,Prod.mk.injEq]at h
      rw[←h.1,←h.2]
      exact⟨(valueF_suffix hv).trans ((List.suffix_cons d r4).trans (h2.trans h3)),hn,hm⟩
    ·simp only[Option.some.injEq,Prod.mk.injEq]at h
     rw[←h.1,←h.2]
     exact⟨h2.trans h3,hn,hm⟩
def AtsOk (zas:List (Str×Str)):Prop:=(∀a∈zas,a.1≠ []∧ ∀c∈a.1,Nm c)∧zas.Pairwise fun a b=>a.1≠b.1
theorem AtsOk.push {zas:List (Str×Str)} (h:AtsOk zas) {a:Str×Str} (ha:a.1≠ []∧ ∀c∈a.1,Nm c):AtsOk (if hasA zas a.1 then zas else zas++ [a]):=by
 cases hh:hasA zas a.1
 ·rw[if_neg (by simp)]
  refine⟨fun b hb=> ?_,List.pairwise_append.2 ⟨h.2,List.pairwise_singleton _ _,fun b hb c hc=> ?_⟩⟩
  ·rcases List.mem_append.1 hb with hb|hb
   ·exact h.1 b hb
   ·rw[List.mem_singleton.1 hb];exact ha
  ·rw[List.mem_singleton.1 hc]
   intro e
   have:hasA zas a.1=true:=List.any_eq_true.2 ⟨b,hb,by rw[e];simp⟩
   rw[hh]at this
   cases this
 ·rw[if_pos rfl];exact h
theorem tagsF_good: ∀(n:Nat) (zas:List (Str×Str)) (r:Str),r.length≤n→OkB r→AtsOk zas→ ∀as' sl r',tagsF zas r=some (as',sl,r')→AtsOk as'∧r' <:+r:=by
 intro n
 induction n with
 |zero =>
  intro zas r hn _ _ as' sl r' h
  obtain rfl:r= []:=List.eq_nil_of_length_eq_zero (by omega)
  rw[tagsF]at h
  cases h
 |succ n ih =>
  intro zas r hn hr ha as' sl r' h
  rw[tagsF]at h
  have h0:r.dropWhile gapB <:+r:=List.dropWhile_suffix _
  split at h
  ·cases h
  ·rename_i c r1 he
   rw[he]at h0
   split at h
   ·simp only[Option.some.injEq,Prod.mk.injEq]at h
    rw[←h.1,←h.2.2]
    exact⟨ha,(List.suffix_cons c r1).trans h0⟩
   ·split at h
    ·cases h
    ·rename_i a r2 hat
     have hg:=attrF_good (hr.suffix h0) hat
     split at h
     ·rename_i hlt
      have:=ih _ r2 (by omega) (hr.suffix (hg.1.trans h0)) (ha.push hg.2) _ _ _ h
      exact⟨this.1,this.2.trans (hg.1.trans h0)⟩
     ·cases h
theorem unless_two (b:Bool) (k:Int) (_:k=0∨k=8):unlessF b k=k∨unlessF b k=1:=by unfold unlessF;cases b <;>simp
theorem folds_whole {s word:Str} (h:(foldsF s word).1=true):word.length≤s.length∧lowS (s.take word.length)=word:=by
 unfold foldsF at h
 split at h
 ·cases h
 ·rename_i hh
  have hmin:min s.length word.length=word.length:=by simpa using h
  rw[hmin,List.take_of_length_le (Nat.le_refl _)]at hh
  exact⟨by omega,by simpa using hh⟩
theorem textF_spec (m:MkM): ∀(n:Nat) (s:Str),s.length≤n→(textF m s).2.1 <:+s∧((textF m s).2.2=1∨ ∃r,(textF m s).2.1=60::r∧lookF m (60::r)=(textF m s).2.2∧(textF m s).2.2≠0):=by
 intro n
 induction n with
 |zero =>
  intro s hs
  obtain rfl:s= []:=List.eq_nil_of_length_eq_zero (by omega)
  rw[textF]
  exact⟨List.suffix_refl _,.inl rfl⟩
 |succ n ih =>
  intro s hs
  cases s with
  |nil=>rw[textF];exact⟨List.suffix_refl _,.inl rfl⟩
  |cons c r =>
   simp only[List.length_cons]at hs
   have step: ∀k,(textF m (r.drop k)).2.1 <:+c::r∧((textF m (r.drop k)).2.2=1∨ ∃q,(textF m (r.drop k)).2.1=60::q∧lookF m (60::q)=(textF m (r.drop k)).2.2∧(textF m (r.drop k)).2.2≠0):=fun k=>by
    have:=ih (r.drop k) (by rw[List.length_drop];omega)
    exact⟨this.1.trans ((List.drop_suffix k r).trans (List.suffix_cons c r)),this.2⟩
   rw[textF]
   split
   ·rename_i h60
    split
    ·exact step 0
    ·rename_i hl
     refine⟨List.suffix_refl _,?_⟩
     subst h60
     exact .inr ⟨r,rfl,rfl,hl⟩
   ·split
    ·split
     ·exact⟨List.suffix_refl _,.inl rfl⟩
     ·exact step _
    ·exact step 0
end Go.Proofs.YtgepobccoffnaaaGreatDoor.Rd
end
section
namespace Go.Proofs.YtgepobccoffnaaaGreatDoor.Rd
open Go Go.Proofs Go.Shelf Go.RowKit Go.Lib
def shelfRen:Go.Shelf.Ren:=⟨fun|99=>82|103=>134|104=>188|137=>53|166=>38|168=>216|169=>40|206=>90|207=>229|210=>184|211=>217|217=>84|240=>51|242=>228|266=>130|276=>81|278=>235|n=>n,fun|0=>0|3=>3|4=>4|5=>5|9=>9|20=>20|21=>21|24=>151|37=>54|46=>182|51=>202|70=>82|72=>84|75=>86|80=>90|127=>110|164=>119|n=>n,fun|n=>n⟩
theorem lays137:Lays.n137 Tryz.prog shelfRen:= {
 mixed:=by kernel_rfl
 f137:=Tryz.func53.trans (congrArg some (by kernel_rfl))
 f217:=Tryz.func84.trans (congrArg some (by kernel_rfl))
 f266:=Tryz.func130.trans (congrArg some (by kernel_rfl))
 t3:=Tryz.underlying3
 a3:=Tryz.isAgg3
 z3:=Tryz.sizeOf3
 v3:=Tryz.zeroValue3
 t5:=Tryz.underlying5
 a5:=Tryz.isAgg5
 z5:=Tryz.sizeOf5
 v5:=Tryz.zeroValue5
 t9:=Tryz.underlying9
 a9:=Tryz.isAgg9
 z9:=Tryz.sizeOf9
 v9:=Tryz.zeroValue9}
theorem lays166:Lays.n166 Tryz.prog shelfRen:= {
 mixed:=by kernel_rfl
 f166:=Tryz.func38.trans (congrArg some (by kernel_rfl))
 f240:=Tryz.func51.trans (congrArg some (by kernel_rfl))
 f276:=Tryz.func81.trans (congrArg some (by kernel_rfl))
 t0:=Tryz.underlying0
 a0:=Tryz.isAgg0
 z0:=Tryz.sizeOf0
 v0:=Tryz.zeroValue0
 t3:=Tryz.underlying3
 a3:=Tryz.isAgg3
 z3:=Tryz.sizeOf3
 v3:=Tryz.zeroValue3
 t4:=Tryz.underlying4
 a4:=Tryz.isAgg4
 z4:=Tryz.sizeOf4
 v4:=Tryz.zeroValue4
 t9:=Tryz.underlying9
 a9:=Tryz.isAgg9
 z9:=Tryz.sizeOf9
 v9:=Tryz.zeroValue9
 t20:=Tryz.underlying20
 a20:=Tryz.isAgg20
 z20:=Tryz.sizeOf20
 v20:=Tryz.zeroValue20
 t37:=Tryz.underlying54
 a37:=Tryz.isAgg54
 z37:=Tryz.sizeOf54
 v37:=Tryz.zeroValue54
 t70:=Tryz.underlying82
 a70:=Tryz.isAgg82
 z70:=Tryz.sizeOf82
 v70:=Tryz.zeroValue82
 t72:=Tryz.underlying84
 a72:=Tryz.isAgg84
 z72:=Tryz.sizeOf84
 v72:=Tryz.zeroValue84
 t75:=Tryz.underlying86
 a75:=Tryz.isAgg86
 z75:=Tryz.sizeOf86
 v75:=Tryz.zeroValue86
 t164:=Tryz.underlying119
 a164:=Tryz.isAgg119
 z164:=Tryz.sizeOf119
 v164:=Tryz.zeroValue119}
theorem lays169:Lays.n169 Tryz.prog shelfRen:= {
 mixed:=by kernel_rfl
 f169:=Tryz.func40.trans (congrArg some (by kernel_rfl))
 t0:=Tryz.underlying0
 a0:=Tryz.isAgg0
 z0:=Tryz.sizeOf0
 v0:=Tryz.zeroValue0
 t3:=Tryz.underlying3
 a3:=Tryz.isAgg3
 z3:=Tryz.sizeOf3
 v3:=Tryz.zeroValue3
 t9:=Tryz.underlying9
 a9:=Tryz.isAgg9
 z9:=Tryz.sizeOf9
 v9:=Tryz.zeroValue9
 t37:=Tryz.underlying54
 a37:=Tryz.isAgg54
 z37:=Tryz.sizeOf54
 v37:=Tryz.zeroValue54
 t70:=Tryz.underlying82
 a70:=Tryz.isAgg82
 z70:=Tryz.sizeOf82
 v70:=Tryz.zeroValue82
 t72:=Tryz.underlying84
 a72:=Tryz.isAgg84
 z72:=Tryz.sizeOf84
 v72:=Tryz.zeroValue84
 t127:=Tryz.underlying110
 a127:=Tryz.isAgg110
 z127:=Tryz.sizeOf110
 v127:=Tryz.zeroValue110}
theorem shelfExtra:Builder.Extra Tryz.prog shelfRen:= {
 sizeBuilder:=by kernel_rfl
 liesBuilder:=by kernel_rfl
 t5:=Tryz.underlying5
 a5:=Tryz.isAgg5
 z5:=Tryz.sizeOf5
 v5:=Tryz.zeroValue5
 infoByte:=by kernel_rfl
 cellsByte:=by kernel_rfl
 sizeByte:=by kernel_rfl
 neB5:=by decide}
theorem IndexByte_any (s:ByteArray) (c:Int) (w:World):Calls Tryz.prog 53 #[.string s,.int .u8 c] w fun e w'=>e= .returned (.int .i64 (Lib.indexByte s.data.toList c.toNat.toUInt8))∧w'=w:=Any.strings_IndexByte lays137 s c w
theorem WriteString_any (B b:Nat) (bs:List Value) (s:ByteArray) (w:World) (h:Lib.IsBuilderF 84 5 B b bs w) (hlen:bs.length+s.size≤140737488355328) (hBw:B≤w.heap.size) :
 Calls Tryz.prog 38 #[.pointer (some ⟨b,0,none⟩),.string s] w fun e w'=>e= .returned (.tuple #[.int .i64 s.size,.nilIface])∧(Lib.BuilderAtF 84 5 B b (.pointer (some ⟨b,0,none⟩)) (bs++Lib.strCells s) w'∧Below B w w'∧Lib.OthersKept 5 (some b) w w'):=Any.Builder_WriteString_k lays166 shelfExtra B b bs s w h hlen hBw
theorem BString_any (B b:Nat) (l:List UInt8) (w:World) (h:Lib.IsBuilderF 84 5 B b (Lib.byteCells l) w) (hBw:B≤w.heap.size) :
 Calls Tryz.prog 40 #[.pointer (some ⟨b,0,none⟩)] w fun e w'=>e= .returned (.string ⟨l.toArray⟩)∧(Lib.IsBuilderF 84 5 B b (Lib.byteCells l) w'∧Below B w w'∧Lib.OthersKept 5 (some b) w w'):=Any.Builder_String_any_k lays169 shelfExtra B b l w h hBw
end Go.Proofs.YtgepobccoffnaaaGreatDoor.Rd
end
section
namespace Go.Proofs.YtgepobccoffnaaaGreatDoor.Rd
open Go Go.Proofs Go.Shelf Go.RowKit Go.Lib
def shelfRenM:Go.Shelf.Ren:=⟨fun|119=>183|137=>53|143=>83|152=>131|153=>85|167=>39|217=>84|219=>129|224=>181|225=>180|226=>132|227=>93|228=>133|240=>51|266=>130|267=>182|276=>81|314=>214|n=>n,fun|0=>0|3=>3|4=>4|5=>5|9=>9|20=>20|21=>21|37=>54|46=>182|51=>202|70=>82|72=>84|75=>86|80=>90|116=>127|117=>128|124=>131|146=>203|164=>119|n=>n,fun|1=>0|n=>n⟩
theorem laysM152:Lays.n152 Tryz.prog shelfRenM:= {
 mixed:=by kernel_rfl
 f119:=Tryz.func183.trans (congrArg some (by kernel_rfl))
 f137:=Tryz.func53.trans (congrArg some (by kernel_rfl))
 f152:=Tryz.func131.trans (congrArg some (by kernel_rfl))
 f217:=Tryz.func84.trans (congrArg some (by kernel_rfl))
 f224:=Tryz.func181.trans (congrArg some (by kernel_rfl))
 f225:=Tryz.func180.trans (congrArg some (by kernel_rfl))
 f266:=Tryz.func130.trans (congrArg some (by kernel_rfl))
 t0:=Tryz.underlying0
 a0:=Tryz.isAgg0
 z0:=Tryz.sizeOf0
 v0:=Tryz.zeroValue0
 t3:=Tryz.underlying3
 a3:=Tryz.isAgg3
 z3:=Tryz.sizeOf3
 v3:=Tryz.zeroValue3
 t4:=Tryz.underlying4
 a4:=Tryz.isAgg4
 z4:=Tryz.sizeOf4
 v4:=Tryz.zeroValue4
 t5:=Tryz.underlying5
 a5:=Tryz.isAgg5
 z5:=Tryz.sizeOf5
 v5:=Tryz.zeroValue5
 t9:=Tryz.underlying9
 a9:=Tryz.isAgg9
 z9:=Tryz.sizeOf9
 v9:=Tryz.zeroValue9
 t21:=Tryz.underlying21
 a21:=Tryz.isAgg21
 z21:=Tryz.sizeOf21
 v21:=Tryz.zeroValue21
 t46:=Tryz.underlying182
 a46:=Tryz.isAgg182
 z46:=Tryz.sizeOf182
 v46:=Tryz.zeroValue182}
theorem laysM153:Lays.n153 Tryz.prog shelfRenM:= {
 mixed:=by kernel_rfl
 f119:=Tryz.func183.trans (congrArg some (by kernel_rfl))
 f137:=Tryz.func53.trans (congrArg some (by kernel_rfl))
 f152:=Tryz.func131.trans (congrArg some (by kernel_rfl))
 f153:=Tryz.func85.trans (congrArg some (by kernel_rfl))
 f217:=Tryz.func84.trans (congrArg some (by kernel_rfl))
 f224:=Tryz.func181.trans (congrArg some (by kernel_rfl))
 f225:=Tryz.func180.trans (congrArg some (by kernel_rfl))
 f226:=Tryz.func132.trans (congrArg some (by kernel_rfl))
 f227:=Tryz.func93.trans (congrArg some (by kernel_rfl))
 f228:=Tryz.func133.trans (congrArg some (by kernel_rfl))
 f266:=Tryz.func130.trans (congrArg some (by kernel_rfl))
 t0:=Tryz.underlying0
 a0:=Tryz.isAgg0
 z0:=Tryz.sizeOf0
 v0:=Tryz.zeroValue0
 t3:=Tryz.underlying3
 a3:=Tryz.isAgg3
 z3:=Tryz.sizeOf3
 v3:=Tryz.zeroValue3
 t4:=Tryz.underlying4
 a4:=Tryz.isAgg4
 z4:=Tryz.sizeOf4
 v4:=Tryz.zeroValue4
 t5:=Tryz.underlying5
 a5:=Tryz.isAgg5
 z5:=Tryz.sizeOf5
 v5:=Tryz.zeroValue5
 t9:=Tryz.underlying9
 a9:=Tryz.isAgg9
 z9:=Tryz.sizeOf9
 v9:=Tryz.zeroValue9
 t21:=Tryz.underlying21
 a21:=Tryz.isAgg21
 z21:=Tryz.sizeOf21
 v21:=Tryz.zeroValue21
 t46:=Tryz.underlying182
 a46:=Tryz.isAgg182
 z46:=Tryz.sizeOf182
 v46:=Tryz.zeroValue182
 t116:=Tryz.underlying127
 a116:=Tryz.isAgg127
 z116:=Tryz.sizeOf127
 t117:=Tryz.underlying128
 a117:=Tryz.isAgg128
 z117:=Tryz.sizeOf128
 v117:=Tryz.zeroValue128
 t124:=Tryz.underlying131
 a124:=Tryz.isAgg131
 z124:=Tryz.sizeOf131
 v124:=Tryz.zeroValue131}
theorem laysM167:Lays.n167 Tryz.prog shelfRenM:= {
 mixed:=by kernel_rfl
 f167:=Tryz.func39.trans (congrArg some (by kernel_rfl))
 f240:=Tryz.func51.trans (congrArg some (by kernel_rfl))
 f276:=Tryz.func81.trans (congrArg some (by kernel_rfl))
 t0:=Tryz.underlying0
 a0:=Tryz.isAgg0
 z0:=Tryz.sizeOf0
 v0:=Tryz.zeroValue0
 t4:=Tryz.underlying4
 a4:=Tryz.isAgg4
 z4:=Tryz.sizeOf4
 v4:=Tryz.zeroValue4
 t5:=Tryz.underlying5
 a5:=Tryz.isAgg5
 z5:=Tryz.sizeOf5
 v5:=Tryz.zeroValue5
 t9:=Tryz.underlying9
 a9:=Tryz.isAgg9
 z9:=Tryz.sizeOf9
 v9:=Tryz.zeroValue9
 t20:=Tryz.underlying20
 a20:=Tryz.isAgg20
 z20:=Tryz.sizeOf20
 v20:=Tryz.zeroValue20
 t37:=Tryz.underlying54
 a37:=Tryz.isAgg54
 z37:=Tryz.sizeOf54
 v37:=Tryz.zeroValue54
 t70:=Tryz.underlying82
 a70:=Tryz.isAgg82
 z70:=Tryz.sizeOf82
 v70:=Tryz.zeroValue82
 t72:=Tryz.underlying84
 a72:=Tryz.isAgg84
 z72:=Tryz.sizeOf84
 v72:=Tryz.zeroValue84
 t75:=Tryz.underlying86
 a75:=Tryz.isAgg86
 z75:=Tryz.sizeOf86
 v75:=Tryz.zeroValue86
 t164:=Tryz.underlying119
 a164:=Tryz.isAgg119
 z164:=Tryz.sizeOf119
 v164:=Tryz.zeroValue119}
theorem shelfExtraM:Builder.Extra Tryz.prog shelfRenM:= {
 sizeBuilder:=by kernel_rfl
 liesBuilder:=by kernel_rfl
 t5:=Tryz.underlying5
 a5:=Tryz.isAgg5
 z5:=Tryz.sizeOf5
 v5:=Tryz.zeroValue5
 infoByte:=by kernel_rfl
 cellsByte:=by kernel_rfl
 sizeByte:=by kernel_rfl
 neB5:=by decide}
theorem IndexRune_ascii_any (s:ByteArray) (r:Int) (w:World) (h0:0≤r) (h1:r<128) :
 Calls Tryz.prog 131 #[.string s,.int .i32 r] w fun e w'=>e= .returned (.int .i64 (Lib.indexByte s.data.toList r.toNat.toUInt8))∧w'=w:=Any.strings_IndexRune_ascii laysM152 s r w h0 h1
theorem IndexAny_one_any (s chars:ByteArray) (w:World) (h1:chars.size=1) (hascii: ∀(j:Nat) b,chars.data.toList[j]?=some b→b.toNat<128) :
 Calls Tryz.prog 85 #[.string s,.string chars] w fun e w'=>e= .returned (.int .i64 (Lib.indexAny s.data.toList chars.data.toList))∧w'=w:=Any.strings_IndexAny_one laysM153 s chars w h1 hascii
theorem ascii_info:(Tryz.prog.info? (shelfRenM.t 116)).map (fun i=>(i.zero,i.size))=some (some (.agg (Array.replicate 256 (.bool false))),256):=by kernel_rfl
theorem IndexAny_long_any (s chars:ByteArray) (w:World) (h2:2≤chars.size) (h8:8<s.size) (hs:s.size<4294967281) (hcs:chars.size<4294967281)
 (hascii: ∀(j:Nat) b,chars.data.toList[j]?=some b→b.toNat<128) :
 Calls Tryz.prog 85 #[.string s,.string chars] w fun e w'=>e= .returned (.int .i64 (Lib.indexAny s.data.toList chars.data.toList))∧Below w.heap.size w w' :=
 (Any.strings_IndexAny_long laysM153 (zero_of_info ascii_info).1 (zero_of_info ascii_info).2 s chars w h2 h8 hs hcs hascii).mono fun e w' ⟨h1,h2⟩=>⟨h1,by
   rw[h2]
   exact((Below.refl _ _).alloc (Nat.le_refl _) _).alloc (by simp) _⟩
theorem WriteByte_any (B b:Nat) (bs:List Value) (c:Int) (w:World) (h:Lib.IsBuilderF 84 5 B b bs w) (hlen:bs.length+1≤140737488355328) (hBw:B≤w.heap.size) :
 Calls Tryz.prog 39 #[.pointer (some ⟨b,0,none⟩),.int .u8 c] w fun e w'=>e= .returned .nilIface∧(Lib.BuilderAtF 84 5 B b (.pointer (some ⟨b,0,none⟩)) (bs++ [.int .u8 c]) w'∧Below B w w'∧Lib.OthersKept 5 (some b) w w'):=Any.Builder_WriteByte_k laysM167 shelfExtraM B b bs c w h hlen hBw
end Go.Proofs.YtgepobccoffnaaaGreatDoor.Rd
end
section
namespace Go.Proofs.YtgepobccoffnaaaGreatDoor.Rd
open Go Go.RowKit Mem
theorem wp_region_calm {P:Program} {id:Nat} {Q:Exit→Act→World→Prop} {a:Act} {w:World} {l:List Oper} (hm:P.follows .mixedOrders=true) (hB:Region.lexB .any l.toArray=true)
 (h:wpQuiet P l.toArray (fun w'=>Hid (Below w.heap.size w w')) (fun a'=> ∀w',Hid (Below w.heap.size w w')→Q .normal a' w') l a):(Code.region id l.toArray true).wp P Q a w :=
 wp_region_quiet (C:=fun w'=>Hid (Below w.heap.size w w')) hm hB (Lib.hid (Below.refl _ w).drew) (by simpa using h)
theorem calm_skip {P:Program} {ops:Array Oper} {o:Oper} {a:Act} {C:World→Prop} {K:Act→Prop} (hw:Region.wanted o (yielded ops a.tmps)=false) (h:K (a.put o.dst undef)) :
 if Region.wanted o (yielded ops a.tmps)then o.quiet P a C K else K (a.put o.dst undef):=by
 rw[if_neg (by rw[hw];decide)];exact h
theorem calm_run {P:Program} {ops:Array Oper} {o:Oper} {a:Act} {C:World→Prop} {K:Act→Prop} {v:Value} (hw:Region.wanted o (yielded ops a.tmps)=true) (h: ∀w,C w→o.quietAt P a C w v) (hk:K (a.put o.dst v)) :
 if Region.wanted o (yielded ops a.tmps)then o.quiet P a C K else K (a.put o.dst undef):=by
 rw[if_pos hw];exact⟨v,h,hk⟩
end Go.Proofs.YtgepobccoffnaaaGreatDoor.Rd
end
section
namespace Go.Proofs.YtgepobccoffnaaaGreatDoor.Rd
open Mem
def chars (a b:Nat):Str:=encF a++(if 0<b then encF b else [])
end Go.Proofs.YtgepobccoffnaaaGreatDoor.Rd
end
section
namespace Go.Proofs.YtgepobccoffnaaaGreatDoor.Rd
open Go.RowKit Mem
def strB (l:Str):ByteArray:=⟨l.toArray⟩
theorem ext_list (s:ByteArray) (a b:Nat):(s.extract a b).toList=(s.toList.drop a).take (b-a):=by
 rw[Lib.extract_toList,ByteArray.toList_eq]
end Go.Proofs.YtgepobccoffnaaaGreatDoor.Rd
end
section
namespace Go.Proofs.YtgepobccoffnaaaGreatDoor.Rd
open Go.RowKit Mem
theorem toList_strB (l:Str):(strB l).toList=l:=by rw[ByteArray.toList_eq];rfl
end Go.Proofs.YtgepobccoffnaaaGreatDoor.Rd
end
