/- oZ joined for a claim: avU, alY, aoI, aoG, aqE, aoE, aoD, asI, ak8, aqm, aqA, aqz, asH, aqt, asG, anv, alZ: plain laws and contracts. No conditions beyond those that each lemma types. -/
import Derived.BigQuiet
import Derived.Deep.QuietTactic
import Derived.Deep.RegionWith
import Derived.Laws.AppendOwnNone
import Derived.Lib.ConvBytes
import Derived.Lib.Hide
import Derived.WalkKit
import Derived.WalkLawsBesides
import Derived.WalkSpells
import Derived.Lib.Index
import Derived.Lib.IndexAny
import Derived.Shelf.Small.Strs
import Derived.Shelf.Small.Wraps
import Derived.Shelf.Strings.BuilderK
import Derived.Shelf.Strings.BuilderRune
import Derived.Shelf.Strings.Prefix
import Derived.Test.YtnlbcifhedjbfaaGreatDoorRows
import Derived.Laws.RangeAny
import Derived.Shelf.Strings.IndexAnyAll
import Derived.Shelf.Strings.Search3
import Derived.KernelRfl
import Derived.Deep.DeepMust
import Derived.Test.YtnlbcifhedjbfaaGreatDoorUQ00
set_option linter.unusedVariables false
set_option linter.unusedSimpArgs false
set_option maxRecDepth 100000
set_option maxHeartbeats 8000000
open Go.Proofs.Tryz
section
namespace Go.Proofs.YtnlbcifhedjbfaaGreatDoor.Rd.Mem
open Go Go.RowKit
abbrev bH:=List ax
theorem lt_of_cell {w:af} {a:Addr} {v:ak} (h:w.cell? a=some v):a.block<w.heap.size:=World.block_lt_of_cell? w a h
def At (w:af) (a:Option Addr) (xs:List ak):Prop :=
 ∀j u,xs[j]?=some u-> ∃b o,a=some ⟨b,o,none⟩/\w.cell? ⟨b,o+j,none⟩=some u
theorem At.below {w w':af} {a:Option Addr} {xs:List ak} (h:At w a xs) (hb:Below w.heap.size w w'):At w' a xs:=by
 intro j u hj;obtain⟨b,o,ha,hc⟩:=h j u hj;exact⟨b,o,ha,aM hb hc⟩
theorem At.nil (w:af) (a:Option Addr):At w a []:=by
 intro j u h;simp at h
theorem At.get {w:af} {b o:Nat} {xs:List ak} (h:At w (some ⟨b,o,none⟩) xs) {j:Nat} {u:ak} (hj:xs[j]?=some u):w.cell? ⟨b,o+j,none⟩=some u:=by
 obtain⟨b',o',ha,hc⟩:=h j u hj;cases ha;exact hc
theorem aK {w wr w1:af} (h:Below w.heap.size w wr) (h1:Below wr.heap.size wr w1):Below w.heap.size w w1:=h.trans (h1.mono h.size)
def Row (w:af) (g:Nat) (xs:List ak):Prop :=
 ∃di e lo hi,w.heap[g]?=some (.cells di e (lo,hi))/\di.toList.take xs.length=xs/\(xs.length<=lo\/hi=0)
theorem Row.cell {w:af} {g:Nat} {xs:List ak} (h:Row w g xs) {j:Nat} {u:ak} (hj:xs[j]?=some u):w.cell? ⟨g,j,none⟩=some u:=by
 obtain⟨di,e,lo,hi,hg,ht,_⟩:=h
 have hlt:j<xs.length:=by
  rcases lG j xs.length with h|h
  ·exact h
  ·simp[nS h]at hj
 simp only[World.cell?,hg];rw[<-ht,Lj hlt]at hj;simpa using hj
theorem Row.frozen {w:af} {g:Nat} {xs:List ak} (h:Row w g xs) {j:Nat} (hj:j<xs.length):w.frozen? ⟨g,j,none⟩=false:=by
 obtain⟨di,e,lo,hi,hg,ht,hf⟩:=h;simp only[World.frozen?,hg];rcases hf with hf|hf
 ·simp;omega
 ·subst hf;simp
theorem Row.lt {w:af} {g:Nat} {xs:List ak} (h:Row w g xs):g<w.heap.size:=by
 obtain⟨di,e,lo,hi,hg,_⟩:=h;rcases lG g w.heap.size with h|h
 ·exact h
 ·simp[Lv h]at hg
theorem Row.set {w:af} {g:Nat} {xs:List ak} (h:Row w g xs) (j:Nat) (v:ak):Row (w.setCell ⟨g,j,none⟩ v) g (xs.set j v):=by
 obtain⟨di,e,lo,hi,hg,ht,hf⟩:=h;have hlt:=Row.lt ⟨di,e,lo,hi,hg,ht,hf⟩;refine⟨di.setIfInBounds j v,e,lo,hi,?_,?_,?_⟩
 ·simp[World.setCell,Q4,hg]
 ·rw[nR,Array.toList_setIfInBounds,List.take_set,ht]
 ·rw[nR];exact hf
theorem Row.kept {w w':af} {g:Nat} {xs:List ak} (h:Row w g xs) (hg:w'.heap[g]?=w.heap[g]?):Row w' g xs:=by
 obtain⟨di,e,lo,hi,h1,h2⟩:=h;exact⟨di,e,lo,hi,hg.trans h1,h2⟩
theorem Row.below {w w':af} {g B:Nat} {xs:List ak} (h:Row w g xs) (hb:Below B w w') (hg:g<B):Row w' g xs:=h.kept (hb.block g hg)
theorem Row.at {w:af} {g:Nat} {xs:List ak} (h:Row w g xs):At w (some ⟨g,0,none⟩) xs:=by
 intro j u hj;exact⟨g,0,rfl,by rw[iM];exact h.cell hj⟩
theorem Row.alloc (w:af) (di:Array ak) (e:TypeId):Row (w.alloc (.cells di e)) w.heap.size di.toList :=
 ⟨di,e,0,0,eU w _,iH (ay _),.inr rfl⟩
theorem jy {w:af} {di:Array ak} {e:TypeId} {g:Nat} {xs:List ak} (hg:g=w.heap.size) (hc:di.toList=xs):At (w.alloc (.cells di e)) (some ⟨g,0,none⟩) xs:=by
 subst hg hc;exact(Row.alloc w di e).at
def bZ (l:bH):List ak:=l.map λb=>Value.int .u8 b.toNat
theorem dP (l:bH):(bZ l).length=l.length:=by simp[bZ]
theorem aR (s:ae):s.toList.length=s.size:=by rw[dZ,IC];rfl
theorem uE (s:ae):(ByteArray.mk s.toList.toArray)=s:=by rw[dZ]
theorem toList_inj {a b:ae} (h:a.toList=b.toList):a=b:=by rw[<-uE a,<-uE b,h]
theorem xQ (w:af) (e:TypeId) (s:ae):Row (Lib.bytesWorld w e s) w.heap.size (bZ s.toList):=by
 refine⟨_,_,_,_,Lib.bytesWorld_at_new w e s,?_,.inl ?_⟩
 ·rw[dP,aR];simp only[Lib.bytesCells,bZ,dZ,IB,Array.toList_map];rw[Eh];simp
 ·rw[dP,aR];simp[Lib.bytesCells]
theorem bytesWorld_below (w:af) (e:TypeId) (s:ae):Below w.heap.size w (Lib.bytesWorld w e s):=by
 refine⟨?_,?_,?_,by rw[QX];omega,λk hk=>Lib.bytesWorld_at_old w e s k hk⟩
 all_goals (unfold Lib.bytesWorld World.freeze;split <;>rfl)
theorem wG {P:Program} (w:af) (src dst e:TypeId) (s:ae) {u:TypeDesc}
 (hs:P.underlying src=some u) (hd:P.underlying dst=some (.slice e)) (he:P.underlying e=some (.int .u8)) :
 ∃c W,(convert src dst (.string s)).run P w= .ok (.slice (some ⟨w.heap.size,0,none⟩) s.size c) W/\Below w.heap.size w W/\W.heap.size=w.heap.size+1/\Row W w.heap.size (bZ s.toList)/\s.size<=c :=
 ⟨_,_,Lib.run_convert_string_bytes w src dst e s hs hd he,bytesWorld_below w e s,QX w e s,xQ w e s,grownCap_ge w s.size 0 e⟩
theorem foldl_push (l:bH): ∀s:ae,(l.map λb=>((b.toNat:Nat):Int)).foldl (λr n=>r.push (UInt8.ofNat n.toNat)) s=⟨(s.toList++l).toArray⟩:=by
 induction l with
 |nil=>intro s;simp[dZ]
 |cons b r ih =>
  intro s;simp only[dX,List.foldl_cons];rw[ih];congr 2;rw[dZ,dZ];simp[ByteArray.push]
theorem uQ {P:Program} (w:af) (src dst e:TypeId) (g c:Nat) (l:bH) (n:Nat) (hn:n=l.length)
 (hs:P.underlying src=some (.slice e)) (he:P.underlying e=some (.int .u8)) (hd:P.underlying dst=some .string) (hr:Row w g (bZ l)) :
 (convert src dst (.slice (some ⟨g,0,none⟩) n c)).run P w= .ok (.string ⟨l.toArray⟩) w:=by
 subst hn;rw[run_convert_bytes_string w src dst e _ _ _ hs he hd]
 have h:=run_loadCells_list (P:=P) (w:=w) ⟨g,0,none⟩ (bZ l) (by
  intro j v hj;rw[Addr.add];split
  ·rename_i h0;subst h0;exact hr.cell hj
  ·have:=hr.cell hj;simpa using this)
 rw[dP]at h
 have h2:=run_bytesToString (P:=P) w ⟨g,0,none⟩ l.length c (l.map λb=>((b.toNat:Nat):Int)) (by
  rw[h];simp[bZ,Function.comp_def])
 rw[h2,foldl_push];simp[dZ]
def jo (l:List ae):List ak:=l.map Value.string
theorem IK (l:List ae) (k:Nat) (h:k<l.length):(jo l)[k]?=some (.string l[k]):=by simp[jo,h]
abbrev dD:=ae×ae
def bz:List dD->List ak
 | []=> []
 |p::r=> .string p.1:: .string p.2::bz r
theorem lN: ∀(l:List dD) (k:Nat) (h:k<l.length),(bz l)[k*2]?=some (.string l[k].1)
 | [],_,h=>by simp at h
 |p::r,0,_=>rfl
 |p::r,k+1,h=>by
  have:=lN r k (by simpa using h);rw[show(k+1)*2=k*2+1+1 from by omega];simpa[bz] using this
theorem lM: ∀(l:List dD) (k:Nat) (h:k<l.length),(bz l)[k*2+1]?=some (.string l[k].2)
 | [],_,h=>by simp at h
 |p::r,0,_=>rfl
 |p::r,k+1,h=>by
  have:=lM r k (by simpa using h);rw[show(k+1)*2+1=k*2+1+1+1 from by omega];simpa[bz] using this
theorem pair_cells {w:af} {a:Option Addr} {l:List dD} (h:At w a (bz l)) {k:Nat} (hk:k<l.length) :
 ∃b o,a=some ⟨b,o,none⟩/\b<w.heap.size/\w.cell? ⟨b,o+k*2,none⟩=some (.string l[k].1)/\w.cell? ⟨b,o+k*2+1,none⟩=some (.string l[k].2):=by
 obtain⟨b,o,rfl,h1⟩:=h _ _ (lN l k hk);exact⟨b,o,rfl,lt_of_cell h1,h1,by rw[Nat.add_assoc];exact h.get (lM l k hk)⟩
theorem Oo (l r:List dD):bz (l++r)=bz l++bz r:=by
 induction l with
 |nil=>rfl
 |cons p l ih=>simp[bz,ih]
theorem iN {k:IntKind} {a b:Int} (h:a=b):Ending.returned (.int k a)= .returned (.int k b):=by rw[h]
theorem bJ {a b:Bool} (h:a=b):Ending.returned (.bool a)= .returned (.bool b):=by rw[h]
theorem mI {a b:ae} (h:a=b):Ending.returned (.string a)= .returned (.string b):=by rw[h]
theorem iR {v v':ak} (h:v=v'):Ending.returned v= .returned v':=by rw[h]
end Go.Proofs.YtnlbcifhedjbfaaGreatDoor.Rd.Mem
end
section
namespace Go.Proofs.YtnlbcifhedjbfaaGreatDoor.Rd
open Mem
def yu:List (bH×bH):= [([113,117,111,116],[34]),
 ([97,109,112],[38]),
 ([65,77,80],[38]),
 ([108,116],[60]),
 ([76,84],[60]),
 ([103,116],[62]),
 ([110,98,115,112],[194,160]),
 ([99,111,112,121],[194,169]),
 ([114,101,103],[194,174]),
 ([110,111,116],[194,172]),
 ([112,97,114,97],[194,182]),
 ([116,105,109,101,115],[195,151]),
 ([100,105,118,105,100,101],[195,183]),
 ([101,97,99,117,116,101],[195,169]),
 ([69,84,72],[195,144]),
 ([115,122,108,105,103],[195,159])]
def A8:List (bH×bH):= [([97,112,111,115],[39]),
 ([110,111,116,105,110],[226,136,137]),
 ([99,111,112,121,115,114],[226,132,151]),
 ([112,97,114,97,108,108,101,108],[226,136,165]),
 ([116,105,109,101,115,98],[226,138,160]),
 ([108,116,105,109,101,115],[226,139,137]),
 ([103,116,100,111,116],[226,139,151]),
 ([104,101,108,108,105,112],[226,128,166]),
 ([110,100,97,115,104],[226,128,147]),
 ([109,100,97,115,104],[226,128,148]),
 ([108,115,113,117,111],[226,128,152]),
 ([114,115,113,117,111],[226,128,153]),
 ([108,100,113,117,111],[226,128,156]),
 ([114,100,113,117,111],[226,128,157]),
 ([101,117,114,111],[226,130,172]),
 ([116,114,97,100,101],[226,132,162]),
 ([108,97,114,114],[226,134,144]),
 ([114,97,114,114],[226,134,146]),
 ([84,97,98],[9]),
 ([78,101,119,76,105,110,101],[10]),
 ([99,111,108,111,110],[58]),
 ([115,111,108],[47]),
 ([113,117,101,115,116],[63]),
 ([108,112,97,114],[40]),
 ([122,119,106],[226,128,141]),
 ([78,111,116,69,113,117,97,108,84,105,108,100,101],[226,137,130,204,184]),
 ([84,104,105,99,107,83,112,97,99,101],[226,129,159,226,128,138]),
 ([110,118,108,116],[60,226,131,146])]
def AR (c:Nat):bH :=
 if c<0x80 then [UInt8.ofNat c]
 else if c<0x800 then [UInt8.ofNat (0xc0+c/64),UInt8.ofNat (0x80+c%64)]
 else if c<0x10000 then [UInt8.ofNat (0xe0+c/4096),UInt8.ofNat (0x80+c/64%64),UInt8.ofNat (0x80+c%64)]
 else [UInt8.ofNat (0xf0+c/262144),UInt8.ofNat (0x80+c/4096%64),UInt8.ofNat (0x80+c/64%64),UInt8.ofNat (0x80+c%64)]
def xP (n:Int):Bool:=decide (0<=n)&&decide (n<=0x10ffff)&& !(decide (0xd800<=n)&&decide (n<=0xdfff))
def Kk:List Nat:= [0x20ac,0x81,0x201a,0x192,0x201e,0x2026,0x2020,0x2021,0x2c6,0x2030,0x160,0x2039,0x152,0x8d,0x17d,0x8f,
 0x90,0x2018,0x2019,0x201c,0x201d,0x2022,0x2013,0x2014,0x2dc,0x2122,0x161,0x203a,0x153,0x9d,0x17e,0x178]
def aeR (n:Int):Nat:=if n=0\/xP n=false then 0xfffd else if 0x80<=n/\n<0xa0 then Kk.getD (n.toNat-0x80) 0 else n.toNat
def Gc (n:Int):bH:=AR (aeR n)
def look:List (bH×bH)->bH->bH
 | [],_=> []
 |p::r,x=>if x==p.1 then p.2 else look r x
def amu (p:bH×bH):bH×bH:=(p.1++ [59],p.2)
def Fb (p:bH):bH :=
 if([59]:bH).isSuffixOf p then(if look yu (p.take (p.length-1))≠ []then look yu (p.take (p.length-1))else look A8 (p.take (p.length-1)))
 else look yu p
def qi (s:bH):Nat->bH×Nat
 |0=>([],0)
 |n+1=>if Fb (s.take (n+1))≠ []then(Fb (s.take (n+1)),n+1)else qi s n
def findF (s:bH):bH×Nat:=qi s (min s.length 14)
def keys:List (bH×bH):=yu++yu.map amu++A8.map amu
def A9 (s:bH):Bool:=(yu++A8).any λp=>s.isPrefixOf p.1
def DN (n:Nat):Nat:=if 48<=n/\n<=57 then n-48 else if 97<=n/\n<=102 then n-97+10 else if 65<=n/\n<=70 then n-65+10 else 99
def Zc (base:Nat) (c:ax):Option Nat:=if DN c.toNat<base then some (DN c.toNat)else none
def nH (base:Nat):Nat->bH->Nat->Nat×Nat
 |0,_,v=>(0,v)
 |_+1,[],v=>(0,v)
 |k+1,c::r,v=>match Zc base c with
  |none=>(0,v)
  |some d=>((nH base k r (min (v*base+d) 0x110000)).1+1,(nH base k r (min (v*base+d) 0x110000)).2)
def xB (s:bH):Bool:=match s with
 | []=>false
 |c::_=>c==120||c==88
def kN (s:bH):Nat:=if xB s then 1 else 0
def aa6 (s:bH):Nat:=if xB s then 16 else 10
def rP (s:bH):Nat×Nat:=nH (aa6 s) 16 (s.drop (kN s)) 0
def xX (s:bH):Nat:=kN s+(rP s).1
def ZX (c:ax):Bool:=(48<=c&&c<=57)||(97<=c&&c<=122)||(65<=c&&c<=90)||c==61
def ru (r:bH):bH×Nat :=
 if(rP r).1=0 then([],0)else(Gc (rP r).2,(if(r.drop (xX r)).head?=some 59 then xX r+1 else xX r)+2)
def refused (r:bH) (attr:Bool):Bool :=
 (findF r).2==0||(attr&& !((r.take (findF r).2).getLast?==some 59)&&(((r.drop (findF r).2).head?).map ZX).getD false)
def qN (r:bH) (attr:Bool):bH×Nat:=if refused r attr then([],0)else((findF r).1,(findF r).2+1)
def bG (s:bH) (attr:Bool):bH×Nat :=
 if([38,35]:bH).isPrefixOf s then ru (s.drop 2)else if([38]:bH).isPrefixOf s then qN (s.drop 1) attr else([],0)
def xD (s:bH):Bool :=
 if([38,35]:bH).isPrefixOf s then xX (s.drop 2)==(s.drop 2).length else if([38]:bH).isPrefixOf s then A9 (s.drop 1)else false
def adp (attr:Bool):Nat->bH->bH
 |0,_=> []
 |_+1,[]=> []
 |k+1,c::r=>if c=38/\(bG (c::r) attr).2≠0 then(bG (c::r) attr).1++adp attr k ((c::r).drop (bG (c::r) attr).2)else c::adp attr k r
def uO (s:bH) (attr:Bool):bH:=adp attr s.length s
end Go.Proofs.YtnlbcifhedjbfaaGreatDoor.Rd
end
section
namespace Go.Proofs.YtnlbcifhedjbfaaGreatDoor.Rd
open Go.RowKit Mem
def vw (b:ax):ax:=if 65<=b/\b<=90 then b+32 else b
def kK (l:bH):bH:=l.map vw
def ny (k:Nat) (l:bH):bH:=(l.take k).map vw++l.drop k
theorem Gv (b:ax):((vw b).toNat:Int)=if 65<=(b.toNat:Int)/\(b.toNat:Int)<=90 then(b.toNat:Int)+32 else b.toNat:=by
 have h1:(65<=b)↔65<=(b.toNat:Int):=by rw[Hq];simp;omega
 have h2:(b<=90)↔(b.toNat:Int)<=90:=by rw[Hq];simp;omega
 unfold vw;by_cases h:65<=(b.toNat:Int)/\(b.toNat:Int)<=90
 ·rw[au h,au ⟨h1.2 h.1,h2.2 h.2⟩,UInt8.toNat_add];simp;omega
 ·rw[aj h,aj (λhh=>h ⟨h1.1 hh.1,h2.1 hh.2⟩)]
theorem qc (k:Nat) (l:bH):(ny k l).length=l.length:=by simp[ny];omega
theorem Dk (l:bH):ny 0 l=l:=by simp[ny]
theorem Gs (l:bH):ny l.length l=kK l:=by simp[ny,kK]
theorem Ck (k:Nat) (l:bH) (h:k<l.length):(ny k l)[k]?=some l[k]:=by
 simp only[ny];rw[Ab (by simp;omega)];simp[rE (lZ h),h]
theorem IZ (k:Nat) (l:bH) (h:k<l.length):(ny k l).set k (vw l[k])=ny (k+1) l:=by
 simp only[ny];rw[Ei _ _ (by simp;omega),kR h];simp only[Ir,fV,rE (lZ h),wX,dF];rw[jL h,Lf];simp
theorem lK (k:Nat) (l:bH) (h:k<l.length) (v:ak) (hv:v= .int .u8 (vw l[k]).toNat):(bZ (ny k l)).set k v=bZ (ny (k+1) l):=by
 subst hv;unfold bZ;rw[<-IZ k l h,List.map_set]
theorem kv (k:Nat) (l:bH) (h:k<l.length) (hv:((vw l[k]).toNat:Int)=l[k].toNat):bZ (ny k l)=bZ (ny (k+1) l):=by
 rw[<-lK k l h (.int .u8 l[k].toNat) (by rw[hv])];have hg:(bZ (ny k l))[k]?=some (.int .u8 l[k].toNat):=by simp[bZ,Ck k l h]
 obtain⟨hk,he⟩:=En.1 hg;rw[<-he,List.set_getElem_self]
theorem tY (k:Nat) (l:bH) (h:k<l.length):(bZ (ny k l))[k]?=some (.int .u8 l[k].toNat):=by
 simp[bZ,Ck k l h]
end Go.Proofs.YtnlbcifhedjbfaaGreatDoor.Rd
end
section
namespace Go.Proofs.YtnlbcifhedjbfaaGreatDoor.Rd
open Mem
structure pq where
 aH:Int
 ah:bH
 aA:List (bH×bH)
 self:Bool
 aL:bH
def zU (k:Int):pq:=⟨k,[],[],false,[]⟩
def JN (t:bH):pq:=⟨1,[],[],false,t⟩
structure gP where
 bn:bH
 cr:Bool
 dO:Bool
 aD:Int
 ah:bH
 CG:Bool
 gY:Int
 aH:Int
 fresh:Bool
 dJ:Int
def ajt:gP:=⟨[],false,false,0,[],false,0,0,false,0⟩
def je (c:ax):Bool:=c==9||c==10||c==12||c==32
def jH (c:ax):Bool:=(decide (97<=c)&&decide (c<=122))||(decide (65<=c)&&decide (c<=90))
def zL (c:ax):Bool:=je c||c==47
def Ca (cr:Bool) (c:ax):bH:=if c=10/\cr=true then []else if c=13 then [10]else if c=0 then [239,191,189]else [c]
def kr:Bool->bH->bH
 |_,[]=> []
 |cr,c::r=>Ca cr c++kr (c==13) r
def EJ:Bool->bH->Bool
 |cr,[]=>cr
 |_,c::r=>EJ (c==13) r
def fH (sg s:bH):Option (bH×bH) :=
 if s.dropWhile (λc=> !sg.contains c)= []then none else some (s.takeWhile (λc=> !sg.contains c),s.dropWhile (λc=> !sg.contains c))
theorem kT {sg s t r:bH} (h:fH sg s=some (t,r)):t.length+r.length=s.length/\1<=r.length:=by
 unfold fH at h;split at h
 ·cases h
 ·rename_i hne;simp only[dQ,nP]at h;obtain⟨rfl,rfl⟩:=h;have:=aW List.length (Io (p:=λc=> !sg.contains c) (l:=s));rw[fC]at this;exact⟨this,Em.2 hne⟩
theorem kP (p:ax->Bool) (s:bH):(s.dropWhile p).length<=s.length:=by
 have:=aW List.length (Io (p:=p) (l:=s));rw[fC]at this;omega
def BV:bH:= [9,10,12,32,47,62]
def LZ:bH:= [9,10,12,32,47,62,61]
def aac:bH:= [9,10,12,32,62]
def mD (r:bH):Option (bH×bH):=match r.dropWhile je with
 | []=>none
 |q::r1=>if q=34\/q=39 then(fH [q] r1).map λp=>(p.1,p.2.drop 1)else fH aac (q::r1)
theorem Xq {r v t:bH} (h:mD r=some (v,t)):t.length<=r.length:=by
 have h0:=kP je r;unfold mD at h;split at h
 ·cases h
 ·rename_i q r1 he;rw[he]at h0;split at h
  ·cases hu:fH [q] r1 with
   |none=>rw[hu]at h;cases h
   |some p =>
    rw[hu]at h;simp only[sP,dQ,nP]at h;have:=(kT hu).1;rw[<-h.2,dN];simp only[dB]at h0;omega
  ·have:=(kT h).1;omega
def wD:bH->Option ((bH×bH)×bH)
 | []=>none
 |c::r=>match fH LZ r with
  |none=>none
  |some (t,r2)=>match r2.dropWhile je with
   | []=>none
   |d::r4=>if d=61 then(mD r4).map λp=>((kK (c::t),uO p.1 true),p.2)else some ((kK (c::t),[]),d::r4)
theorem Jw {s r:bH} {a:bH×bH} (h:wD s=some (a,r)):r.length<s.length:=by
 cases s with
 |nil=>cases h
 |cons c s =>
  simp only[wD]at h;split at h
  ·cases h
  ·rename_i t r2 hu;have h1:=(kT hu).1;have h2:=kP je r2;split at h
   ·cases h
   ·rename_i d r4 he;rw[he]at h2;simp only[dB]at h2 |-;split at h
    ·cases hv:mD r4 with
     |none=>rw[hv]at h;cases h
     |some p =>
      rw[hv]at h;simp only[sP,dQ,nP]at h;have:=Xq hv;rw[<-h.2];omega
    ·simp only[dQ,nP]at h;rw[<-h.2];simp only[dB];omega
def Nj (l:List (bH×bH)) (n:bH):Bool:=l.any λa=>a.1==n
def mO (Fx:List (bH×bH)) (r:bH):Option (List (bH×bH)×Bool×bH) :=
 match r.dropWhile zL with
 | []=>none
 |c::r1=>if c=62 then some (Fx,(r.takeWhile zL).getLast?==some 47,r1)else
  match wD (c::r1)with
  |none=>none
  |some (a,r2)=>if r2.length<r.length then mO (if Nj Fx a.1 then Fx else Fx++ [a]) r2 else none
termination_by r.length
def dI (s:bH) (e:Bool):pq×Int×Int :=
 match fH BV (s.drop (if e then 2 else 1))with
 |none=>(zU 0, -1,0)
 |some (nm,r)=>match mO [] r with
  |none=>(zU 0, -1,0)
  |some (Fx,sl,r2) =>
   if e then(⟨3,kK nm,[],false,[]⟩,(s.length:Int)-r2.length,0)
   else if 8<Fx.length then(zU 0,(s.length:Int)-r2.length,42)
   else(⟨2,kK nm,Fx,sl,[]⟩,(s.length:Int)-r2.length,0)
def mM (s word:bH):Bool×Bool :=
 if kK (s.take (min s.length word.length))≠word.take (min s.length word.length)then(false,false)
 else(min s.length word.length==word.length,decide (min s.length word.length<word.length))
def jR (dO:Bool) (is:Int):Int:=if dO then is else 1
def zN (m:gP) (s:bH):Int :=
 if(mM s ([60,47]++m.ah)).2=true\/((mM s ([60,47]++m.ah)).1=true/\s.length=m.ah.length+2)then jR m.dO 0
 else if(mM s ([60,47]++m.ah)).1=true/\(zL (s.getD (m.ah.length+2) 0)||s.getD (m.ah.length+2) 0==62)=true then 3
 else 0
def Jp:bH:= [60,33,91,67,68,65,84,65,91]
def aiI:bH:= [60,33,100,111,99,116,121,112,101]
def agm:bH:= [60,33,45,45]
def Bn (m:gP) (s:bH):Int :=
 if(mM s agm).1 then 5
 else if(mM s aiI).1 then 6
 else if Jp.isPrefixOf s/\m.CG=true then 7
 else if(mM s agm).2\/(mM s aiI).2\/(s.isPrefixOf Jp/\m.CG=true)then jR m.dO 8
 else 8
def nK (m:gP) (s:bH):Int :=
 if m.aD≠0 then zN m s
 else match s with
 |_::c::r =>
  if jH c then 2 else if c=63 then 8 else if c=33 then Bn m s else if c≠47 then 0
  else match r with
   | []=>jR m.dO 0
   |d::_=>if jH d then 3 else if d=62 then 4 else 8
 |_=>jR m.dO 0
def dL (m:gP) (s:bH):bH×bH×Int :=
 match s with
 | []=>([],[],1)
 |c::r =>
  if c=60 then(if nK m (c::r)=0 then(60::(dL m r).1,(dL m r).2)else([],c::r,nK m (c::r)))
  else if c=38/\m.aD≠2 then
   (if m.dO=false/\xD (c::r)=true then([],c::r,1)
   else((if(bG (c::r) false).2=0 then [38]else(bG (c::r) false).1)++(dL m (r.drop ((bG (c::r) false).2-1))).1,(dL m (r.drop ((bG (c::r) false).2-1))).2))
  else(c::(dL m r).1,(dL m r).2)
termination_by s.length
decreasing_by all_goals (simp only[dN,dB];omega)
abbrev Out:=pq×Bool×Bool×gP
def Ve:pq:=zU 0
def mR (m:gP) (n:Nat):Out:=(zU m.aH,true,false,{m with bn:=m.bn.drop n,gY:=0})
def Br (m:gP) (aD:Int) (ah:bH):gP :=
 if ah≠ []/\decide (97<=ah.headD 0)=true/\ah.all (λc=>(decide (97<=c)&&decide (c<=122))||(decide (48<=c)&&decide (c<=57)))=true/\(aD=1\/aD=2)
 then {m with aD:=aD,ah:=ah}else {m with aD:=0,ah:= []}
def pz (m:gP) (e:Bool):Out :=
 let s:=m.bn.take 2049
 let p:=dI s e
 let er:=if p.2.1>2048\/(p.2.1<0/\2048<s.length)then 41 else p.2.2
 if er≠0 then(Ve,false,true,{m with dJ:=er,bn:= []})
 else if p.2.1<0 then(Ve,false,true,if m.dO then {m with bn:= []}else m)
 else(p.1,true,false,if e then {m with bn:=m.bn.drop p.2.1.toNat,aD:=0}else {m with bn:=m.bn.drop p.2.1.toNat})
def wu (m:gP):Out :=
 let p:=dL m m.bn
 let m1:= {m with bn:=p.2.1}
 if p.1≠ []then(JN p.1,true,false,m1)
 else if p.2.2=2 then pz m1 false
 else if p.2.2=3 then pz m1 true
 else if p.2.2=4 then(Ve,false,false,{m1 with bn:=m1.bn.drop 3})
 else if p.2.2=5 then(Ve,false,false,{m1 with gY:=1,aH:=4,fresh:=true,bn:=m1.bn.drop 4})
 else if p.2.2=6 then(Ve,false,false,{m1 with gY:=2,aH:=5})
 else if p.2.2=7 then(Ve,false,false,{m1 with gY:=3,bn:=m1.bn.drop 9})
 else if p.2.2=8 then(Ve,false,false,{m1 with gY:=2,aH:=4})
 else(Ve,false,true,m1)
def AY:bH:= [45,45,62]
def uV:bH:= [45,45,33,62]
def agq:bH:= [93,93,62]
def iP (m:gP):Out :=
 let a:=Lib.index m.bn AY
 let b:=Lib.index m.bn uV
 if 0<=a/\(b<0\/a<b)then mR m (a.toNat+3)
 else if 0<=b then mR m (b.toNat+4)
 else if m.dO then mR m m.bn.length
 else(Ve,false,true,{m with bn:=m.bn.drop (m.bn.length-3)})
def Kn (m:gP):Out :=
 if m.fresh then
  if([62]:bH).isPrefixOf m.bn then mR m 1
  else if([45,62]:bH).isPrefixOf m.bn then mR m 2
  else if m.dO=false/\(m.bn= []\/m.bn= [45])then(Ve,false,true,m)
  else iP {m with fresh:=false}
 else iP m
def TF (m:gP):Out :=
 let n:=Lib.index m.bn agq
 if 0<=n then(JN (m.bn.take n.toNat),m.bn.take n.toNat≠ [],false,{m with bn:=m.bn.drop (n.toNat+3),gY:=0})
 else if m.dO then(JN m.bn,m.bn≠ [],false,{m with bn:= [],gY:=0})
 else(JN (m.bn.take (m.bn.length-2)),m.bn.take (m.bn.length-2)≠ [],m.gY≠0,{m with bn:=m.bn.drop (m.bn.length-2)})
def qb (m:gP):Out :=
 if m.gY=1 then Kn m
 else if m.gY=2 then
  if 0<=Lib.indexByte m.bn 62 then mR m ((Lib.indexByte m.bn 62).toNat+1)
  else if m.dO then mR m m.bn.length
  else(Ve,false,true,{m with bn:= []})
 else TF m
def vJ (m:gP):Nat:=if m.gY=0 then 2*m.bn.length else if m.gY=2 then(if m.bn= []then 1 else 2*m.bn.length-1)else 2*m.bn.length+1
def dh (m:gP):Out:=if m.gY=0 then wu m else qb m
def fF (m:gP):Option pq×gP :=
 if m.dJ≠0 then(none,m)else
 if(dh m).2.1 then(some (dh m).1,(dh m).2.2.2)else if(dh m).2.2.1 then(none,(dh m).2.2.2)
 else if vJ (dh m).2.2.2<vJ m then fF (dh m).2.2.2 else(none,m)
termination_by vJ m
end Go.Proofs.YtnlbcifhedjbfaaGreatDoor.Rd
end
section
namespace Go.Proofs.YtnlbcifhedjbfaaGreatDoor.Rd
open Mem
def Ho (s:bH):Prop:= ∀c∈s,c≠0/\c≠13
theorem Ho.suffix {s t:bH} (h:Ho s) (ht:t <:+s):Ho t:=λc hc=>h c (ht.subset hc)
theorem Ho.drop {s:bH} (h:Ho s) (n:Nat):Ho (s.drop n):=h.suffix (QS n s)
theorem Ho.append {s t:bH} (h:Ho s) (k:Ho t):Ho (s++t):=λc hc=>(fB.1 hc).elim (h c) (k c)
theorem ab1 (cr:Bool) (c:ax):Ho (Ca cr c):=by
 intro d hd;unfold Ca at hd;split at hd
 ·cases hd
 ·split at hd
  ·obtain rfl:=dG.1 hd;decide
  ·split at hd
   ·simp only[dS,mY,nO]at hd;rcases hd with rfl|rfl|rfl <;>decide
   ·obtain rfl:=dG.1 hd;exact⟨by assumption,by assumption⟩
theorem aai: ∀(s:bH) (cr:Bool),Ho (kr cr s)
 | [],_=>λ_ h=>by cases h
 |c::r,cr=>(ab1 cr c).append (aai r _)
theorem OU {sg s t r:bH} (h:fH sg s=some (t,r)):t=s.takeWhile (λc=> !sg.contains c)/\r=s.dropWhile (λc=> !sg.contains c)/\t++r=s:=by
 unfold fH at h;split at h
 ·cases h
 ·simp only[dQ,nP]at h;obtain⟨rfl,rfl⟩:=h;exact⟨rfl,rfl,Io⟩
theorem qL {sg s t r:bH} (h:fH sg s=some (t,r)):r <:+s/\ ∀c∈t,c∈s:=by
 have:=(OU h).2.2;exact⟨⟨t,this⟩,λc hc=>by rw[<-this];exact sQ _ hc⟩
theorem DV {r v t:bH} (h:mD r=some (v,t)):t <:+r:=by
 have h0:r.dropWhile je <:+r:=QU _;unfold mD at h;split at h
 ·cases h
 ·rename_i q r1 he;rw[he]at h0;split at h
  ·cases hu:fH [q] r1 with
   |none=>rw[hu]at h;cases h
   |some p =>
    rw[hu]at h;simp only[sP,dQ,nP]at h;rw[<-h.2];exact(QS _ _).trans ((qL hu).1.trans ((vL q r1).trans h0))
  ·exact(qL h).1.trans h0
def Nm (c:ax):Prop:= ¬(65<=c/\c<=90)/\c≠0/\c≠13
theorem ah6: ∀c:ax,c≠0/\c≠13->Nm (vw c):=by
 have h: ∀n:Fin 256,(UInt8.ofNat n.1≠0/\UInt8.ofNat n.1≠13)->(¬(65<=vw (UInt8.ofNat n.1)/\vw (UInt8.ofNat n.1)<=90)/\vw (UInt8.ofNat n.1)≠0/\vw (UInt8.ofNat n.1)≠13):=by decide +kernel
 intro c hc;have:=h ⟨c.toNat,c.toNat_lt⟩;simp only[QC]at this;exact this hc
theorem aaD {s:bH} (h:Ho s): ∀c∈kK s,Nm c:=by
 intro c hc;obtain⟨d,hd,rfl⟩:=Ip.1 hc;exact ah6 d (h d hd)
theorem Zy {s r:bH} {a:bH×bH} (hs:Ho s) (h:wD s=some (a,r)):r <:+s/\a.1≠ []/\ ∀c∈a.1,Nm c:=by
 cases s with
 |nil=>cases h
 |cons c s =>
  simp only[wD]at h;split at h
  ·cases h
  ·rename_i t r2 hu;have h1:=qL hu;have h2:r2.dropWhile je <:+r2:=QU _;have hn:kK (c::t)≠ []:=by simp[kK]
   have hm: ∀d∈kK (c::t),Nm d:=aaD λd hd=>by
    rcases dS.1 hd with rfl|hd
    ·exact hs d dR
    ·exact hs d (gm _ (h1.2 d hd))
   have h3:r2 <:+c::s:=h1.1.trans (vL c s);split at h
   ·cases h
   ·rename_i d r4 he;rw[he]at h2;split at h
    ·cases hv:mD r4 with
     |none=>rw[hv]at h;cases h
     |some p =>
      rw[hv]at h;simp only[sP,dQ,nP]at h;rw[<-h.1,<-h.2];exact⟨(DV hv).trans ((vL d r4).trans (h2.trans h3)),hn,hm⟩
    ·simp only[dQ,nP]at h;rw[<-h.1,<-h.2];exact⟨h2.trans h3,hn,hm⟩
def Bp (Fx:List (bH×bH)):Prop:=(∀a∈Fx,a.1≠ []/\ ∀c∈a.1,Nm c)/\Fx.Pairwise λa b=>a.1≠b.1
theorem Bp.nil:Bp []:=⟨λ_ h=>(by cases h),List.Pairwise.nil⟩
theorem Bp.push {Fx:List (bH×bH)} (h:Bp Fx) {a:bH×bH} (ha:a.1≠ []/\ ∀c∈a.1,Nm c):Bp (if Nj Fx a.1 then Fx else Fx++ [a]):=by
 cases hh:Nj Fx a.1
 ·rw[aj (by simp)];refine⟨λb hb=> ?_,List.pairwise_append.2 ⟨h.2,List.pairwise_singleton _ _,λb hb c hc=> ?_⟩⟩
  ·rcases fB.1 hb with hb|hb
   ·exact h.1 b hb
   ·rw[dG.1 hb];exact ha
  ·rw[dG.1 hc];intro e;have:Nj Fx a.1=true:=nU.2 ⟨b,hb,by rw[e];simp⟩;rw[hh]at this;cases this
 ·rw[au rfl];exact h
theorem XQ: ∀(n:Nat) (Fx:List (bH×bH)) (r:bH),r.length<=n->Ho r->Bp Fx-> ∀as' sl r',mO Fx r=some (as',sl,r')->Bp as'/\r' <:+r:=by
 intro n
 induction n with
 |zero =>
  intro Fx r hn _ _ as' sl r' h;obtain rfl:r= []:=rF (by omega);rw[mO]at h;cases h
 |succ n ih =>
  intro Fx r hn hr ha as' sl r' h;rw[mO]at h;have h0:r.dropWhile zL <:+r:=QU _;split at h
  ·cases h
  ·rename_i c r1 he;rw[he]at h0;split at h
   ·simp only[dQ,nP]at h;rw[<-h.1,<-h.2.2];exact⟨ha,(vL c r1).trans h0⟩
   ·split at h
    ·cases h
    ·rename_i a r2 hat;have hg:=Zy (hr.suffix h0) hat;split at h
     ·rename_i hlt;have:=ih _ r2 (by omega) (hr.suffix (hg.1.trans h0)) (ha.push hg.2) _ _ _ h;exact⟨this.1,this.2.trans (hg.1.trans h0)⟩
     ·cases h
structure vI (x:pq):Prop where
 aH:1<=x.aH/\x.aH<=5
 tag:(x.aH=2\/x.aH=3)↔x.ah≠ []
 aL:x.aH=1↔x.aL≠ []
 few:x.aA.length<=8
 only:x.aH≠2->x.aA= []/\x.self=false
 ah: ∀c∈x.ah,Nm c
 ats:Bp x.aA
theorem Q7 {c:ax} {r t r':bH} (hl:jH c=true) (h:fH BV (c::r)=some (t,r')):t≠ []:=by
 have:=(OU h).1;have hc: ∀n:Fin 256,jH (UInt8.ofNat n.1)=true->BV.contains (UInt8.ofNat n.1)=false:=by decide +kernel
 have hc':BV.contains c=false:=by
  have:=hc ⟨c.toNat,c.toNat_lt⟩;simp only[QC]at this;exact this hl
 rw[QO,au (by rw[hc'];rfl)]at this;rw[this];simp
theorem UY (s:bH) (e:Bool):(dI s e).2.2=0\/(dI s e).2.2=42:=by
 unfold dI
 repeat' split
 all_goals simp
theorem UX {s:bH} {e:Bool} (hs:Ho s) (hd: ∃c r,s.drop (if e then 2 else 1)=c::r/\jH c=true) (h0:0<=(dI s e).2.1) (he:(dI s e).2.2=0):vI (dI s e).1:=by
 obtain⟨c,r,hcr,hl⟩:=hd;unfold dI at h0 he |-;split at h0
 ·exact absurd h0 (by simp)
 ·rename_i nm r1 hu;simp only[hu]at h0 he |-;have hn:nm≠ []:=Q7 hl (by rw[hcr]at hu;exact hu);have hu2:=qL hu;have hok:Ho (s.drop (if e then 2 else 1)):=hs.drop _;have hnm: ∀d∈kK nm,Nm d:=aaD λd hd=>hok d (hu2.2 d hd)
  have hl0:kK nm≠ []:=by simpa[kK] using hn
  split at h0
  ·exact absurd h0 (by simp)
  ·rename_i Fx sl r2 ht;simp only[ht]at h0 he |-;have hg:=XQ _ [] r1 (ay _) (hok.suffix hu2.1) Bp.nil _ _ _ ht;cases e
   ·simp only[gQ,dM]at he |-;split at he
    ·cases he
    ·rename_i h8;rw[aj h8];exact⟨⟨by show(1:Int)<=2;omega,by show(2:Int)<=5;omega⟩,⟨λ_=>hl0,λ_=> .inl rfl⟩,⟨λh=>absurd h (by show ¬(2:Int)=1;omega),λh=>absurd rfl h⟩,by show Fx.length<=8;omega,λh=>absurd rfl h,hnm,hg.1⟩
   ·simp only[dY];exact⟨⟨by show(1:Int)<=3;omega,by show(3:Int)<=5;omega⟩,⟨λ_=>hl0,λ_=> .inr rfl⟩,⟨λh=>absurd h (by show ¬(3:Int)=1;omega),λh=>absurd rfl h⟩,by show 0<=8;omega,λ_=>⟨rfl,rfl⟩,hnm,Bp.nil⟩
def agJ (m:gP):Prop:=m.aD=0\/ ∃c r,m.ah=c::r/\(97<=c/\c<=122)
theorem mH (b:Bool) (k:Int) (_:k=0\/k=8):jR b k=k\/jR b k=1:=by unfold jR;cases b <;>simp
theorem Qg (m:gP) (s:bH):Bn m s=1\/5<=Bn m s:=by
 unfold Bn
 repeat' split
 all_goals first|(right;omega)|(rcases mH m.dO 8 (.inr rfl)with h|h <;>rw[h] <;>omega)
theorem acV (m:gP) (s:bH):zN m s=0\/zN m s=1\/zN m s=3:=by
 unfold zN
 repeat' split
 all_goals first|(rcases mH m.dO 0 (.inl rfl)with h|h <;>rw[h] <;>simp)|simp
theorem afj {m:gP} {r:bH} (h:nK m (60::r)=2): ∃c r',r=c::r'/\jH c=true:=by
 unfold nK at h;split at h
 ·rcases acV m (60::r)with e|e|e <;>rw[e]at h <;>cases h
 ·split at h
  ·rename_i c r' he;simp only[Lu]at he;refine⟨c,r',he.2,?_⟩;split at h
   ·assumption
   ·split at h
    ·cases h
    ·split at h
     ·rcases Qg m (60::r)with e|e <;>omega
     ·split at h
      ·cases h
      ·split at h
       ·rcases mH m.dO 0 (.inl rfl)with e|e <;>rw[e]at h <;>cases h
       ·repeat' split at h
        all_goals cases h
  ·rcases mH m.dO 0 (.inl rfl)with e|e <;>rw[e]at h <;>cases h
theorem YK: ∀d:ax,97<=vw d->vw d<=122->jH d=true:=by
 have h: ∀n:Fin 256,97<=vw (UInt8.ofNat n.1)->vw (UInt8.ofNat n.1)<=122->jH (UInt8.ofNat n.1)=true:=by decide +kernel
 intro d;have:=h ⟨d.toNat,d.toNat_lt⟩;simp only[QC]at this;exact this
theorem aks: ∀d:ax,vw d=47->d=47:=by
 have h: ∀n:Fin 256,vw (UInt8.ofNat n.1)=47->UInt8.ofNat n.1=47:=by decide +kernel
 intro d;have:=h ⟨d.toNat,d.toNat_lt⟩;simp only[QC]at this;exact this
theorem yo {s word:bH} (h:(mM s word).1=true):word.length<=s.length/\kK (s.take word.length)=word:=by
 unfold mM at h;split at h
 ·cases h
 ·rename_i hh;have hmin:min s.length word.length=word.length:=by simpa using h
  rw[hmin,iH (ay _)]at hh;exact⟨by omega,by simpa using hh⟩
theorem afk {m:gP} {r:bH} (hn:agJ m) (h:nK m (60::r)=3): ∃d r',r=47::d::r'/\jH d=true:=by
 unfold nK at h;split at h
 ·rename_i hm;unfold zN at h;split at h
  ·rcases mH m.dO 0 (.inl rfl)with e|e <;>rw[e]at h <;>cases h
  ·split at h
   ·rename_i hw;obtain⟨hlen,hlow⟩:=yo hw.1;obtain⟨c,rn,hcr,hc1,hc2⟩:=hn.resolve_left hm;rw[hcr]at hlow hlen;simp only[mq,jZ,dB]at hlow hlen
    match r,hlen,hlow with
    | [],hlen,_=>simp at hlen
    | [_],hlen,_=>simp at hlen
    |a::d::r',_,hlow =>
     simp only[Lc,kK,dX,Lu]at hlow;refine⟨d,r',?_,YK d (by rw[hlow.2.2.1];exact hc1) (by rw[hlow.2.2.1];exact hc2)⟩;rw[aks a hlow.2.1]
   ·cases h
 ·split at h
  ·rename_i c r' he;simp only[Lu]at he;obtain⟨_,rfl⟩:=he;split at h
   ·cases h
   ·split at h
    ·cases h
    ·split at h
     ·rcases Qg m (60::c::r')with e|e <;>omega
     ·rename_i h47;split at h
      ·cases h
      ·rename_i hc;split at h
       ·rcases mH m.dO 0 (.inl rfl)with e|e <;>rw[e]at h <;>cases h
       ·rename_i d r'';split at h
        ·exact⟨d,r'',by rw[Classical.not_not.1 hc],by assumption⟩
        ·split at h <;>cases h
  ·rcases mH m.dO 0 (.inl rfl)with e|e <;>rw[e]at h <;>cases h
theorem xq (m:gP): ∀(n:Nat) (s:bH),s.length<=n->(dL m s).2.1 <:+s/\((dL m s).2.2=1\/ ∃r,(dL m s).2.1=60::r/\nK m (60::r)=(dL m s).2.2/\(dL m s).2.2≠0):=by
 intro n
 induction n with
 |zero =>
  intro s hs;obtain rfl:s= []:=rF (by omega);rw[dL];exact⟨wZ _,.inl rfl⟩
 |succ n ih =>
  intro s hs;cases s with
  |nil=>rw[dL];exact⟨wZ _,.inl rfl⟩
  |cons c r =>
   simp only[dB]at hs
   have step: ∀k,(dL m (r.drop k)).2.1 <:+c::r/\((dL m (r.drop k)).2.2=1\/ ∃q,(dL m (r.drop k)).2.1=60::q/\nK m (60::q)=(dL m (r.drop k)).2.2/\(dL m (r.drop k)).2.2≠0):=λk=>by
    have:=ih (r.drop k) (by rw[dN];omega);exact⟨this.1.trans ((QS k r).trans (vL c r)),this.2⟩
   rw[dL];split
   ·rename_i h60;split
    ·exact step 0
    ·rename_i hl;refine⟨wZ _,?_⟩;subst h60;exact .inr ⟨r,rfl,rfl,hl⟩
   ·split
    ·split
     ·exact⟨wZ _,.inl rfl⟩
     ·exact step _
    ·exact step 0
structure Bv (m:gP):Prop where
 bn:Ho m.bn
 ah:agJ m
 gY:(m.gY=1\/m.gY=2)->(m.aH=4\/m.aH=5)
def aj9 (m:gP):Prop:=m.dJ=0\/m.dJ=41\/m.dJ=42
structure Hf (m:gP) (o:Out):Prop where
 inv:Bv o.2.2.2
 mark:o.2.1=true->vI o.1
 told:o.2.1=true->o.2.2.2.dJ=m.dJ
 dJ:o.2.2.2.dJ=m.dJ\/o.2.2.2.dJ=41\/o.2.2.2.dJ=42
theorem adi {k:Int} (h:k=4\/k=5):vI (zU k):=by
 have e:(zU k).aH=k:=rfl;refine⟨by rw[e];omega,⟨λh'=>by rw[e]at h';omega,λh'=>absurd rfl h'⟩,⟨λh'=>by rw[e]at h';omega,λh'=>absurd rfl h'⟩,bD _,λ_=>⟨rfl,rfl⟩,λ_ h'=>(by cases h'),Bp.nil⟩
theorem CV {t:bH} (h:t≠ []):vI (JN t) :=
 ⟨⟨by show(1:Int)<=1;omega,by show(1:Int)<=5;omega⟩,⟨λh'=>by have:(1:Int)=2\/(1:Int)=3:=h';omega,λh'=>absurd rfl h'⟩,⟨λ_=>h,λ_=>rfl⟩,bD _,λ_=>⟨rfl,rfl⟩,λ_ h'=>(by cases h'),Bp.nil⟩
theorem AU {m:gP} (h:Bv m) (hp:m.gY=1\/m.gY=2) (n:Nat):Hf m (mR m n) :=
 ⟨⟨h.bn.drop n,h.ah,λh'=>by have:(0:Int)=1\/(0:Int)=2:=h';omega⟩,λ_=>adi (h.gY hp),λ_=>rfl,.inl rfl⟩
theorem pY {m m':gP} {st:Bool} (h:Bv m') (he:m'.dJ=m.dJ):Hf m (Ve,false,st,m'):=⟨h,λh'=>(by cases h'),λh'=>(by cases h'),.inl he⟩
theorem Ka {m:gP} (h:Bv m) (hp:m.gY=1\/m.gY=2):Hf m (iP m):=by
 unfold iP;simp only;split
 ·exact AU h hp _
 ·split
  ·exact AU h hp _
  ·split
   ·exact AU h hp _
   ·exact pY ⟨h.bn.drop _,h.ah,h.gY⟩ rfl
theorem aiO {m:gP} (h:Bv m) (hp:m.gY=1\/m.gY=2):Hf m (Kn m):=by
 unfold Kn;split
 ·split
  ·exact AU h hp _
  ·split
   ·exact AU h hp _
   ·split
    ·exact pY h rfl
    ·have:=Ka (m:= {m with fresh:=false}) ⟨h.bn,h.ah,h.gY⟩ hp;exact⟨this.inv,this.mark,this.told,this.dJ⟩
 ·exact Ka h hp
theorem Ho.nil:Ho []:=λ_ h=>by cases h
theorem ak1 {m:gP} (h:Bv m) (hp: ¬(m.gY=1\/m.gY=2)):Hf m (TF m):=by
 unfold TF;simp only;split
 ·exact⟨⟨h.bn.drop _,h.ah,λh'=>by have:(0:Int)=1\/(0:Int)=2:=h';omega⟩,λh'=>CV (by simpa using h'),λ_=>rfl,.inl rfl⟩
 ·split
  ·exact⟨⟨Ho.nil,h.ah,λh'=>by have:(0:Int)=1\/(0:Int)=2:=h';omega⟩,λh'=>CV (by simpa using h'),λ_=>rfl,.inl rfl⟩
  ·exact⟨⟨h.bn.drop _,h.ah,λh'=>absurd h' hp⟩,λh'=>CV (by simpa using h'),λ_=>rfl,.inl rfl⟩
theorem aeF {m:gP} (h:Bv m):Hf m (qb m):=by
 unfold qb;split
 ·exact aiO h (.inl ‹_›)
 ·split
  ·split
   ·exact AU h (.inr ‹_›) _
   ·split
    ·exact AU h (.inr ‹_›) _
    ·exact pY ⟨Ho.nil,h.ah,h.gY⟩ rfl
  ·exact ak1 h (by omega)
theorem Ho.take {s:bH} (h:Ho s) (n:Nat):Ho (s.take n):=λc hc=>h c (Ej hc)
theorem Z8 {m:gP} {e:Bool} (h:Bv m) (hd: ∃c r,m.bn.drop (if e then 2 else 1)=c::r/\jH c=true):Hf m (pz m e):=by
 have hd': ∃c r,(m.bn.take 2049).drop (if e then 2 else 1)=c::r/\jH c=true:=by
  obtain⟨c,r,h1,h2⟩:=hd;refine⟨c,r.take (2049-(if e then 2 else 1)-1),?_,h2⟩;rw[List.drop_take,h1];cases e <;>rfl
 have hok:Ho (m.bn.take 2049):=h.bn.take _;have Ox:=UY (m.bn.take 2049) e;unfold pz;simp only;obtain⟨er,her⟩: ∃er,er=if(dI (m.bn.take 2049) e).2.1>2048\/((dI (m.bn.take 2049) e).2.1<0/\2048<(m.bn.take 2049).length)then(41:Int)else(dI (m.bn.take 2049) e).2.2:=⟨_,rfl⟩
 rw[<-her]
 have h41:er≠0->er=41\/er=42:=λh0=>by
  by_cases hc:(dI (m.bn.take 2049) e).2.1>2048\/((dI (m.bn.take 2049) e).2.1<0/\2048<(m.bn.take 2049).length)
  ·rw[au hc]at her;exact .inl her
  ·rw[aj hc]at her;exact .inr (her.trans (Ox.resolve_left λh=>h0 (her.trans h)))
 have h00:er=0->(dI (m.bn.take 2049) e).2.2=0:=λh0=>by
  by_cases hc:(dI (m.bn.take 2049) e).2.1>2048\/((dI (m.bn.take 2049) e).2.1<0/\2048<(m.bn.take 2049).length)
  ·rw[au hc]at her;rw[h0]at her;cases her
  ·rw[aj hc]at her;rw[<-her];exact h0
 clear her;by_cases h0:er=0
 ·rw[aj (λh=>h h0)];by_cases hn:(dI (m.bn.take 2049) e).2.1<0
  ·rw[au hn];by_cases hc:m.dO=true
   ·rw[au hc];exact pY ⟨Ho.nil,h.ah,h.gY⟩ rfl
   ·rw[aj hc];exact pY h rfl
  ·rw[aj hn];have hg:=UX hok hd' (by omega) (h00 h0);cases e
   ·exact⟨⟨h.bn.drop _,h.ah,h.gY⟩,λ_=>hg,λ_=>rfl,.inl rfl⟩
   ·exact⟨⟨h.bn.drop _,.inl rfl,h.gY⟩,λ_=>hg,λ_=>rfl,.inl rfl⟩
 ·rw[au h0];exact⟨⟨Ho.nil,h.ah,h.gY⟩,λh'=>(by cases h'),λh'=>(by cases h'),.inr (h41 h0)⟩
theorem aef {m:gP} (h:Bv m) (h0:m.gY=0):Hf m (wu m):=by
 obtain⟨hs,hk⟩:=xq m _ m.bn (ay _);have hi:Bv {m with bn:=(dL m m.bn).2.1}:=⟨h.bn.suffix hs,h.ah,h.gY⟩;have hp0: ¬(m.gY=1\/m.gY=2):=by omega
 have ape:(dL m m.bn).2.2=2-> ∃c r,(dL m m.bn).2.1.drop 1=c::r/\jH c=true:=λe=>by
  rcases hk with hk|⟨r,h1,h2,_⟩
  ·omega
  ·rw[e]at h2;obtain⟨c,r',rfl,hl⟩:=afj h2;exact⟨c,r',by rw[h1];rfl,hl⟩
 have apd:(dL m m.bn).2.2=3-> ∃c r,(dL m m.bn).2.1.drop 2=c::r/\jH c=true:=λe=>by
  rcases hk with hk|⟨r,h1,h2,_⟩
  ·omega
  ·rw[e]at h2;obtain⟨c,r',rfl,hl⟩:=afk h.ah h2;exact⟨c,r',by rw[h1];rfl,hl⟩
 unfold wu;simp only;split
 ·exact⟨hi,λ_=>CV ‹_›,λ_=>rfl,.inl rfl⟩
 ·split
  ·have:=Z8 (e:=false) hi (ape ‹_›);exact⟨this.inv,this.mark,this.told,this.dJ⟩
  ·split
   ·have:=Z8 (e:=true) hi (apd ‹_›);exact⟨this.inv,this.mark,this.told,this.dJ⟩
   ·split
    ·exact pY ⟨hi.bn.drop _,h.ah,h.gY⟩ rfl
    ·split
     ·exact pY ⟨hi.bn.drop _,h.ah,λ_=> .inl rfl⟩ rfl
     ·split
      ·exact pY ⟨hi.bn,h.ah,λ_=> .inr rfl⟩ rfl
      ·split
       ·exact pY ⟨hi.bn.drop _,h.ah,λh'=>by have:(3:Int)=1\/(3:Int)=2:=h';omega⟩ rfl
       ·split
        ·exact pY ⟨hi.bn,h.ah,λ_=> .inl rfl⟩ rfl
        ·exact pY hi rfl
theorem aap {m:gP} (h:Bv m):Hf m (dh m):=by
 unfold dh;split
 ·exact aef h ‹_›
 ·exact aeF h
theorem UH: ∀(n:Nat) (m:gP),vJ m<=n->Bv m->aj9 m->Bv (fF m).2/\aj9 (fF m).2/\ ∀x,(fF m).1=some x->vI x/\(fF m).2.dJ=0:=by
 intro n
 induction n with
 |zero =>
  intro m hm hi he;rw[fF];have ho:=aap hi;split
  ·exact⟨hi,he,λ_ h=>(by cases h)⟩
  ·rename_i h0;have h0:=Classical.not_not.1 h0;split
   ·rename_i ht;exact⟨ho.inv,.inl ((ho.told ht).trans h0),λx hx=>⟨by cases hx;exact ho.mark ht,(ho.told ht).trans h0⟩⟩
   ·split
    ·exact⟨ho.inv,by have:=ho.dJ;rw[h0]at this;exact this,λ_ h=>(by cases h)⟩
    ·rw[aj (by omega)];exact⟨hi,he,λ_ h=>(by cases h)⟩
 |succ n ih =>
  intro m hm hi he;rw[fF];have ho:=aap hi;split
  ·exact⟨hi,he,λ_ h=>(by cases h)⟩
  ·rename_i h0;have h0:=Classical.not_not.1 h0;split
   ·rename_i ht;exact⟨ho.inv,.inl ((ho.told ht).trans h0),λx hx=>⟨by cases hx;exact ho.mark ht,(ho.told ht).trans h0⟩⟩
   ·split
    ·exact⟨ho.inv,by have:=ho.dJ;rw[h0]at this;exact this,λ_ h=>(by cases h)⟩
    ·split
     ·exact ih _ (by omega) ho.inv (by have:=ho.dJ;rw[h0]at this;exact this)
     ·exact⟨hi,he,λ_ h=>(by cases h)⟩
theorem ahF {m:gP} (h:Bv m) (k:Int) (nm:bH):Bv (Br m k nm):=by
 unfold Br;split
 ·rename_i hc;refine⟨h.bn,.inr ?_,h.gY⟩;cases nm with
  |nil=>exact absurd rfl hc.1
  |cons c r =>
   have h1:97<=c:=by simpa using hc.2.1
   have h2:=hc.2.2.1;simp only[List.all_cons,cz,jD,mX]at h2;refine⟨c,r,rfl,h1,?_⟩;rcases h2.1 with h3|h3
   ·exact h3.2
   ·exact UInt8.le_trans h3.2 (by decide)
 ·exact⟨h.bn,.inl rfl,h.gY⟩
theorem aek (m:gP) (k:Int) (nm:bH):(Br m k nm).dJ=m.dJ:=by unfold Br;split <;>rfl
end Go.Proofs.YtnlbcifhedjbfaaGreatDoor.Rd
end
section
namespace Go.Proofs.YtnlbcifhedjbfaaGreatDoor.Rd
open Go Go.Proofs Go.Shelf Go.RowKit Go.Lib
def uZ:Go.Shelf.Ren:=⟨fun|99=>74|103=>126|104=>180|137=>45|166=>30|168=>208|169=>32|206=>82|207=>221|210=>176|211=>209|217=>76|240=>43|242=>220|266=>122|276=>73|278=>227|n=>n,fun|0=>0|3=>3|4=>4|5=>5|9=>9|20=>20|21=>21|24=>146|37=>73|46=>177|51=>198|70=>72|72=>75|75=>77|80=>81|127=>101|164=>110|n=>n,fun|n=>n⟩
theorem akt:Lays.n99 prog uZ:= {
 mixed:=by kernel_rfl
 f99:=func74.trans (aW some (by kernel_rfl))
 f206:=func82.trans (aW some (by kernel_rfl))
 t3:=qD
 a3:=rD
 z3:=rC
 v3:=rz
 t4:=rA
 a4:=sO
 z4:=sM
 v4:=sJ
 t9:=jK
 a9:=sN
 z9:=sK
 v9:=sI}
theorem aic:Lays.n103 prog uZ:= {
 mixed:=by kernel_rfl
 f103:=func126.trans (aW some (by kernel_rfl))
 f206:=func82.trans (aW some (by kernel_rfl))
 f210:=func176.trans (aW some (by kernel_rfl))
 t3:=qD
 a3:=rD
 z3:=rC
 v3:=rz
 t4:=rA
 a4:=sO
 z4:=sM
 v4:=sJ
 t9:=jK
 a9:=sN
 z9:=sK
 v9:=sI
 t24:=underlying146
 a24:=Tryz.isAgg146
 z24:=Tryz.sizeOf146
 v24:=Tryz.zeroValue146}
theorem aib:Lays.n104 prog uZ:= {
 mixed:=by kernel_rfl
 f104:=func180.trans (aW some (by kernel_rfl))
 f207:=func221.trans (aW some (by kernel_rfl))
 f211:=func209.trans (aW some (by kernel_rfl))
 t3:=qD
 a3:=rD
 z3:=rC
 v3:=rz
 t4:=rA
 a4:=sO
 z4:=sM
 v4:=sJ
 t9:=jK
 a9:=sN
 z9:=sK
 v9:=sI
 t24:=underlying146
 a24:=Tryz.isAgg146
 z24:=Tryz.sizeOf146
 v24:=Tryz.zeroValue146}
theorem aia:Lays.n137 prog uZ:= {
 mixed:=by kernel_rfl
 f137:=func45.trans (aW some (by kernel_rfl))
 f217:=func76.trans (aW some (by kernel_rfl))
 f266:=func122.trans (aW some (by kernel_rfl))
 t3:=qD
 a3:=rD
 z3:=rC
 v3:=rz
 t5:=qC
 a5:=yI
 z5:=yF
 v5:=yA
 t9:=jK
 a9:=sN
 z9:=sK
 v9:=sI}
theorem ah':Lays.n166 prog uZ:= {
 mixed:=by kernel_rfl
 f166:=func30.trans (aW some (by kernel_rfl))
 f240:=func43.trans (aW some (by kernel_rfl))
 f276:=func73.trans (aW some (by kernel_rfl))
 t0:=yE
 a0:=yJ
 z0:=yG
 v0:=yB
 t3:=qD
 a3:=rD
 z3:=rC
 v3:=rz
 t4:=rA
 a4:=sO
 z4:=sM
 v4:=sJ
 t9:=jK
 a9:=sN
 z9:=sK
 v9:=sI
 t20:=underlying20
 a20:=Tryz.isAgg20
 z20:=Tryz.sizeOf20
 v20:=Tryz.zeroValue20
 t37:=yC
 a37:=Tryz.isAgg73
 z37:=Tryz.sizeOf73
 v37:=QE
 t70:=QH
 a70:=Tryz.isAgg72
 z70:=Tryz.sizeOf72
 v70:=QF
 t72:=QG
 a72:=Tryz.isAgg75
 z72:=Tryz.sizeOf75
 v72:=QD
 t75:=underlying77
 a75:=Tryz.isAgg77
 z75:=Tryz.sizeOf77
 v75:=Tryz.zeroValue77
 t164:=underlying110
 a164:=Tryz.isAgg110
 z164:=Tryz.sizeOf110
 v164:=Tryz.zeroValue110}
theorem ah9:Lays.n168 prog uZ:= {
 mixed:=by kernel_rfl
 f168:=func208.trans (aW some (by kernel_rfl))
 f240:=func43.trans (aW some (by kernel_rfl))
 f242:=func220.trans (aW some (by kernel_rfl))
 f276:=func73.trans (aW some (by kernel_rfl))
 f278:=func227.trans (aW some (by kernel_rfl))
 t0:=yE
 a0:=yJ
 z0:=yG
 v0:=yB
 t3:=qD
 a3:=rD
 z3:=rC
 v3:=rz
 t4:=rA
 a4:=sO
 z4:=sM
 v4:=sJ
 t5:=qC
 a5:=yI
 z5:=yF
 v5:=yA
 t9:=jK
 a9:=sN
 z9:=sK
 v9:=sI
 t20:=underlying20
 a20:=Tryz.isAgg20
 z20:=Tryz.sizeOf20
 v20:=Tryz.zeroValue20
 t21:=Hu
 a21:=KU
 z21:=KQ
 v21:=KO
 t37:=yC
 a37:=Tryz.isAgg73
 z37:=Tryz.sizeOf73
 v37:=QE
 t46:=Hw
 a46:=Ie
 z46:=Hy
 v46:=Ht
 t51:=underlying198
 a51:=Tryz.isAgg198
 z51:=Tryz.sizeOf198
 v51:=Tryz.zeroValue198
 t70:=QH
 a70:=Tryz.isAgg72
 z70:=Tryz.sizeOf72
 v70:=QF
 t72:=QG
 a72:=Tryz.isAgg75
 z72:=Tryz.sizeOf75
 v72:=QD
 t75:=underlying77
 a75:=Tryz.isAgg77
 z75:=Tryz.sizeOf77
 v75:=Tryz.zeroValue77
 t164:=underlying110
 a164:=Tryz.isAgg110
 z164:=Tryz.sizeOf110
 v164:=Tryz.zeroValue110}
theorem ah8:Lays.n169 prog uZ:= {
 mixed:=by kernel_rfl
 f169:=func32.trans (aW some (by kernel_rfl))
 t0:=yE
 a0:=yJ
 z0:=yG
 v0:=yB
 t3:=qD
 a3:=rD
 z3:=rC
 v3:=rz
 t9:=jK
 a9:=sN
 z9:=sK
 v9:=sI
 t37:=yC
 a37:=Tryz.isAgg73
 z37:=Tryz.sizeOf73
 v37:=QE
 t70:=QH
 a70:=Tryz.isAgg72
 z70:=Tryz.sizeOf72
 v70:=QF
 t72:=QG
 a72:=Tryz.isAgg75
 z72:=Tryz.sizeOf75
 v72:=QD
 t127:=underlying101
 a127:=Tryz.isAgg101
 z127:=Tryz.sizeOf101
 v127:=Tryz.zeroValue101}
theorem EE:Builder.Extra prog uZ:= {
 sizeBuilder:=by kernel_rfl
 liesBuilder:=by kernel_rfl
 t5:=qC
 a5:=yI
 z5:=yF
 v5:=yA
 infoByte:=by kernel_rfl
 cellsByte:=by kernel_rfl
 sizeByte:=by kernel_rfl
 neB5:=by decide}
theorem rq (s:ae) (c:Int) (w:af):Calls prog 45 #[.string s,.int .u8 c] w λe w'=>e= .returned (.int .i64 (Lib.indexByte s.data.toList c.toNat.toUInt8))/\w'=w:=Any.strings_IndexByte aia s c w
theorem Ea (s p:ae) (w:af):Calls prog 126 #[.string s,.string p] w λe w'=>e= .returned (.tuple #[.string ⟨(Lib.trimPrefix s.data.toList p.data.toList).toArray⟩,.bool (Lib.hasPrefix s.data.toList p.data.toList)])/\w'=w:=Any.strings_CutPrefix aic s p w
theorem OO (s p:ae) (w:af) (hs:s.size<=9223372036854775807):Calls prog 180 #[.string s,.string p] w λe w'=>e= .returned (.tuple #[.string ⟨(Lib.trimSuffix s.data.toList p.data.toList).toArray⟩,.bool (Lib.hasSuffix s.data.toList p.data.toList)])/\w'=w:=Any.strings_CutSuffix aib s p w hs
theorem OH (s p:ae) (w:af):Calls prog 74 #[.string s,.string p] w λe w'=>e= .returned (.bool (Lib.hasPrefix s.data.toList p.data.toList))/\w'=w:=Any.strings_HasPrefix akt s p w
theorem gG (B b:Nat) (bs:List ak) (s:ae) (w:af) (h:Lib.IsBuilderF 75 5 B b bs w) (hlen:bs.length+s.size<=140737488355328) (hBw:B<=w.heap.size) :
 Calls prog 30 #[.pointer (some ⟨b,0,none⟩),.string s] w λe w'=>e= .returned (.tuple #[.int .i64 s.size,.nilIface])/\(Lib.BuilderAtF 75 5 B b (.pointer (some ⟨b,0,none⟩)) (bs++Lib.strCells s) w'/\Below B w w'/\Lib.OthersKept 5 (some b) w w'):=Any.Builder_WriteString_k ah' EE B b bs s w h hlen hBw
theorem sH (B b:Nat) (l:List ax) (w:af) (h:Lib.IsBuilderF 75 5 B b (Lib.byteCells l) w) (hBw:B<=w.heap.size) :
 Calls prog 32 #[.pointer (some ⟨b,0,none⟩)] w λe w'=>e= .returned (.string ⟨l.toArray⟩)/\(Lib.IsBuilderF 75 5 B b (Lib.byteCells l) w'/\Below B w w'/\Lib.OthersKept 5 (some b) w w'):=Any.Builder_String_any_k ah8 EE B b l w h hBw
theorem D9 (B b:Nat) (bs:List ak) (r:Int) (w:af) (hr0: -2147483648<=r) (hr1:r<=2147483647) (h:Lib.IsBuilderF 75 5 B b bs w) (hlen:bs.length+4<=140737488355328) (hBw:B<=w.heap.size) :
 Calls prog 208 #[.pointer (some ⟨b,0,none⟩),.int .i32 r] w λe w'=>e= .returned (.tuple #[.int .i64 (Lib.runeCells r).length,.nilIface])/\(Lib.BuilderAtF 75 5 B b (.pointer (some ⟨b,0,none⟩)) (bs++Lib.runeCells r) w'/\Below B w w'/\Lib.OthersKept 5 (some b) w w'):=Any.Builder_WriteRune_k ah9 EE B b bs r hr0 hr1 w h hlen hBw
end Go.Proofs.YtnlbcifhedjbfaaGreatDoor.Rd
end
section
namespace Go.Proofs.YtnlbcifhedjbfaaGreatDoor.Rd
open Go Go.Proofs Go.Shelf Go.RowKit Go.Lib
def wO:Go.Shelf.Ren:=⟨fun|119=>175|137=>45|143=>75|152=>123|153=>77|167=>31|217=>76|219=>121|224=>173|225=>172|226=>124|227=>85|228=>125|240=>43|266=>122|267=>174|276=>73|314=>206|n=>n,fun|0=>0|3=>3|4=>4|5=>5|9=>9|20=>20|21=>21|37=>73|46=>177|51=>198|70=>72|72=>75|75=>77|80=>81|116=>119|117=>120|124=>123|146=>199|164=>110|n=>n,fun|1=>0|n=>n⟩
theorem afs:Lays.n143 prog wO:= {
 mixed:=by kernel_rfl
 f143:=func75.trans (aW some (by kernel_rfl))
 f217:=func76.trans (aW some (by kernel_rfl))
 f219:=func121.trans (aW some (by kernel_rfl))
 f224:=func173.trans (aW some (by kernel_rfl))
 f225:=func172.trans (aW some (by kernel_rfl))
 f266:=func122.trans (aW some (by kernel_rfl))
 f267:=func174.trans (aW some (by kernel_rfl))
 f314:=func206.trans (aW some (by kernel_rfl))
 t3:=qD
 a3:=rD
 z3:=rC
 v3:=rz
 t4:=rA
 a4:=sO
 z4:=sM
 v4:=sJ
 t5:=qC
 a5:=yI
 z5:=yF
 v5:=yA
 t9:=jK
 a9:=sN
 z9:=sK
 v9:=sI
 t46:=Hw
 a46:=Ie
 z46:=Hy
 v46:=Ht
 t51:=underlying198
 a51:=Tryz.isAgg198
 z51:=Tryz.sizeOf198
 v51:=Tryz.zeroValue198
 t146:=underlying199
 a146:=Tryz.isAgg199
 z146:=Tryz.sizeOf199
 v146:=Tryz.zeroValue199
 g1:=by kernel_rfl}
theorem afr:Lays.n152 prog wO:= {
 mixed:=by kernel_rfl
 f119:=func175.trans (aW some (by kernel_rfl))
 f137:=func45.trans (aW some (by kernel_rfl))
 f152:=func123.trans (aW some (by kernel_rfl))
 f217:=func76.trans (aW some (by kernel_rfl))
 f224:=func173.trans (aW some (by kernel_rfl))
 f225:=func172.trans (aW some (by kernel_rfl))
 f266:=func122.trans (aW some (by kernel_rfl))
 t0:=yE
 a0:=yJ
 z0:=yG
 v0:=yB
 t3:=qD
 a3:=rD
 z3:=rC
 v3:=rz
 t4:=rA
 a4:=sO
 z4:=sM
 v4:=sJ
 t5:=qC
 a5:=yI
 z5:=yF
 v5:=yA
 t9:=jK
 a9:=sN
 z9:=sK
 v9:=sI
 t21:=Hu
 a21:=KU
 z21:=KQ
 v21:=KO
 t46:=Hw
 a46:=Ie
 z46:=Hy
 v46:=Ht}
theorem M6:Lays.n153 prog wO:= {
 mixed:=by kernel_rfl
 f119:=func175.trans (aW some (by kernel_rfl))
 f137:=func45.trans (aW some (by kernel_rfl))
 f152:=func123.trans (aW some (by kernel_rfl))
 f153:=func77.trans (aW some (by kernel_rfl))
 f217:=func76.trans (aW some (by kernel_rfl))
 f224:=func173.trans (aW some (by kernel_rfl))
 f225:=func172.trans (aW some (by kernel_rfl))
 f226:=func124.trans (aW some (by kernel_rfl))
 f227:=func85.trans (aW some (by kernel_rfl))
 f228:=func125.trans (aW some (by kernel_rfl))
 f266:=func122.trans (aW some (by kernel_rfl))
 t0:=yE
 a0:=yJ
 z0:=yG
 v0:=yB
 t3:=qD
 a3:=rD
 z3:=rC
 v3:=rz
 t4:=rA
 a4:=sO
 z4:=sM
 v4:=sJ
 t5:=qC
 a5:=yI
 z5:=yF
 v5:=yA
 t9:=jK
 a9:=sN
 z9:=sK
 v9:=sI
 t21:=Hu
 a21:=KU
 z21:=KQ
 v21:=KO
 t46:=Hw
 a46:=Ie
 z46:=Hy
 v46:=Ht
 t116:=underlying119
 a116:=Tryz.isAgg119
 z116:=Tryz.sizeOf119
 t117:=underlying120
 a117:=Tryz.isAgg120
 z117:=Tryz.sizeOf120
 v117:=Tryz.zeroValue120
 t124:=underlying123
 a124:=Tryz.isAgg123
 z124:=Tryz.sizeOf123
 v124:=Tryz.zeroValue123}
theorem afq:Lays.n167 prog wO:= {
 mixed:=by kernel_rfl
 f167:=func31.trans (aW some (by kernel_rfl))
 f240:=func43.trans (aW some (by kernel_rfl))
 f276:=func73.trans (aW some (by kernel_rfl))
 t0:=yE
 a0:=yJ
 z0:=yG
 v0:=yB
 t4:=rA
 a4:=sO
 z4:=sM
 v4:=sJ
 t5:=qC
 a5:=yI
 z5:=yF
 v5:=yA
 t9:=jK
 a9:=sN
 z9:=sK
 v9:=sI
 t20:=underlying20
 a20:=Tryz.isAgg20
 z20:=Tryz.sizeOf20
 v20:=Tryz.zeroValue20
 t37:=yC
 a37:=Tryz.isAgg73
 z37:=Tryz.sizeOf73
 v37:=QE
 t70:=QH
 a70:=Tryz.isAgg72
 z70:=Tryz.sizeOf72
 v70:=QF
 t72:=QG
 a72:=Tryz.isAgg75
 z72:=Tryz.sizeOf75
 v72:=QD
 t75:=underlying77
 a75:=Tryz.isAgg77
 z75:=Tryz.sizeOf77
 v75:=Tryz.zeroValue77
 t164:=underlying110
 a164:=Tryz.isAgg110
 z164:=Tryz.sizeOf110
 v164:=Tryz.zeroValue110}
theorem Us:Builder.Extra prog wO:= {
 sizeBuilder:=by kernel_rfl
 liesBuilder:=by kernel_rfl
 t5:=qC
 a5:=yI
 z5:=yF
 v5:=yA
 infoByte:=by kernel_rfl
 cellsByte:=by kernel_rfl
 sizeByte:=by kernel_rfl
 neB5:=by decide}
theorem JH (s sub:ae) (m:Int) (w:af) (hs:s.size<4294967281) (hm:w.cell? ⟨0,0,none⟩=some (.int .i64 m)) :
 Calls prog 75 #[.string s,.string sub] w λe w'=>e= .returned (.int .i64 (Lib.index s.data.toList sub.data.toList))/\w'=w:=Any.strings_Index afs s sub m w hs hm
theorem DT (s:ae) (r:Int) (w:af) (h0:0<=r) (h1:r<128) :
 Calls prog 123 #[.string s,.int .i32 r] w λe w'=>e= .returned (.int .i64 (Lib.indexByte s.data.toList r.toNat.toUInt8))/\w'=w:=Any.strings_IndexRune_ascii afr s r w h0 h1
theorem JI (s chars:ae) (w:af) (h1:chars.size=1) (hascii: ∀(j:Nat) b,chars.data.toList[j]?=some b->b.toNat<128) :
 Calls prog 77 #[.string s,.string chars] w λe w'=>e= .returned (.int .i64 (Lib.indexAny s.data.toList chars.data.toList))/\w'=w:=Any.strings_IndexAny_one M6 s chars w h1 hascii
theorem NN:(prog.info? (wO.t 116)).map (λi=>(i.zero,i.size))=some (some (.agg (Array.replicate 256 (.bool false))),256):=by kernel_rfl
theorem Hg (s chars:ae) (w:af) (h2:2<=chars.size) (h8:8<s.size) (hs:s.size<4294967281) (hcs:chars.size<4294967281)
 (hascii: ∀(j:Nat) b,chars.data.toList[j]?=some b->b.toNat<128) :
 Calls prog 77 #[.string s,.string chars] w λe w'=>e= .returned (.int .i64 (Lib.indexAny s.data.toList chars.data.toList))/\Below w.heap.size w w' :=
 (Any.strings_IndexAny_long M6 (zero_of_info NN).1 (zero_of_info NN).2 s chars w h2 h8 hs hcs hascii).mono λe w' ⟨h1,h2⟩=>⟨h1,by
   rw[h2]
   exact((aQ _ _).alloc (ay _) _).alloc (by simp) _⟩
theorem uX (B b:Nat) (bs:List ak) (c:Int) (w:af) (h:Lib.IsBuilderF 75 5 B b bs w) (hlen:bs.length+1<=140737488355328) (hBw:B<=w.heap.size) :
 Calls prog 31 #[.pointer (some ⟨b,0,none⟩),.int .u8 c] w λe w'=>e= .returned .nilIface/\(Lib.BuilderAtF 75 5 B b (.pointer (some ⟨b,0,none⟩)) (bs++ [.int .u8 c]) w'/\Below B w w'/\Lib.OthersKept 5 (some b) w w'):=Any.Builder_WriteByte_k afq Us B b bs c w h hlen hBw
end Go.Proofs.YtnlbcifhedjbfaaGreatDoor.Rd
end
section
namespace Go.Proofs.YtnlbcifhedjbfaaGreatDoor.Rd
open Go Go.RowKit Mem
theorem bX {P:Program} {id:Nat} {Q:Exit->Act->af->Prop} {a:Act} {w:af} {l:List Oper} (hm:P.follows .mixedOrders=true) (hB:Region.lexB .any l.toArray=true)
 (h:wpQuiet P l.toArray (λw'=>Hid (Below w.heap.size w w')) (λa'=> ∀w',Hid (Below w.heap.size w w')->Q .normal a' w') l a):(Code.region id l.toArray true).wp P Q a w :=
 wp_region_quiet (C:=λw'=>Hid (Below w.heap.size w w')) hm hB (hd' (aQ _ w).drew) (by simpa using h)
theorem Jq {P:Program} {ops:Array Oper} {o:Oper} {a:Act} {C:af->Prop} {K:Act->Prop} (hw:Region.wanted o (yielded ops a.tmps)=false) (h:K (a.put o.dst undef)) :
 if Region.wanted o (yielded ops a.tmps)then o.quiet P a C K else K (a.put o.dst undef):=by
 rw[aj (by rw[hw];decide)];exact h
theorem gK {P:Program} {ops:Array Oper} {o:Oper} {a:Act} {C:af->Prop} {K:Act->Prop} {v:ak} (hw:Region.wanted o (yielded ops a.tmps)=true) (h: ∀w,C w->o.quietAt P a C w v) (hk:K (a.put o.dst v)) :
 if Region.wanted o (yielded ops a.tmps)then o.quiet P a C K else K (a.put o.dst undef):=by
 rw[au hw];exact⟨v,h,hk⟩
end Go.Proofs.YtnlbcifhedjbfaaGreatDoor.Rd
end
section
namespace Go.Proofs.YtnlbcifhedjbfaaGreatDoor.Rd
open Mem
theorem Gw: ∀(t:List (bH×bH)) (x:bH),look t x≠ []->(x,look t x)∈t
 | [],x,h=>absurd rfl h
 |p::r,x,h=>by
  unfold look at h |-;by_cases e:(x==p.1)=true
  ·rw[au e];obtain rfl:x=p.1:=by simpa using e
   exact dR
  ·rw[aj e]at h |-;exact gm _ (Gw r x h)
theorem ait {p:bH} (h:Fb p≠ []):(p,Fb p)∈keys:=by
 unfold Fb at h |-;by_cases h1:([59]:bH).isSuffixOf p=true
 ·rw[au h1]at h |-;obtain⟨q,rfl⟩:=List.isSuffixOf_iff_suffix.1 h1;have e:(q++ [59]).take ((q++ [59]).length-1)=q:=by simp
  rw[e]at h |-;by_cases h2:look yu q≠ []
  ·rw[au h2]at h |-;exact sQ _ (xf _ (Ip.2 ⟨_,Gw _ _ h2,rfl⟩))
  ·rw[aj h2]at h |-;exact xf _ (Ip.2 ⟨_,Gw _ _ h,rfl⟩)
 ·rw[aj h1]at h |-;exact sQ _ (sQ _ (Gw _ _ h))
theorem VA: ∀k∈keys,Fb k.1=k.2/\k.2≠ []/\1<=k.1.length/\k.1.length<=14:=by decide +kernel
theorem J5 (s:bH): ∀n,n<=s.length->(qi s n).2<=n/\(((qi s n).2=0/\(qi s n).1= [])\/(0<(qi s n).2/\(s.take (qi s n).2,(qi s n).1)∈keys)) /\
 ∀k∈keys,k.1 <+:s->k.1.length<=n->k.1.length<=(qi s n).2
 |0,_=>⟨ay _,.inl ⟨rfl,rfl⟩,λ_ _ _ h=>h⟩
 |n+1,hn=>by
  obtain⟨h1,h2,h3⟩:=J5 s n (by omega);unfold qi;by_cases hh:Fb (s.take (n+1))≠ []
  ·rw[au hh];exact⟨ay _,.inr ⟨by omega,ait hh⟩,λ_ _ _ h=>h⟩
  ·rw[aj hh];refine⟨by omega,h2,λk hk hp hl=> ?_⟩;by_cases he:k.1.length=n+1
   ·have:k.1=s.take (n+1):=by rw[<-he];exact List.prefix_iff_eq_take.1 hp
    rw[<-this]at hh;obtain⟨e1,e2,_⟩:=VA k hk;rw[e1]at hh;exact absurd e2 hh
   ·exact h3 k hk hp (by omega)
theorem Ns (s:bH):(((findF s).2=0/\(findF s).1= [])\/(0<(findF s).2/\(findF s).2<=s.length/\(s.take (findF s).2,(findF s).1)∈keys))/\ ∀k∈keys,k.1 <+:s->k.1.length<=(findF s).2:=by
 obtain⟨h1,h2,h3⟩:=J5 s (min s.length 14) (Nat.min_le_left _ _);refine⟨h2.imp id λ⟨a,b⟩=>⟨a,by unfold findF;omega,b⟩,λk hk hp=>h3 k hk hp ?_⟩;have:=hp.length_le;have:=(VA k hk).2.2.2;omega
theorem VZ (s:bH):(findF s).2<=s.length:=by
 rcases(Ns s).1 with⟨h,_⟩|⟨_,h,_⟩
 ·omega
 ·exact h
def chars (a b:Nat):bH:=AR a++(if 0<b then AR b else [])
end Go.Proofs.YtnlbcifhedjbfaaGreatDoor.Rd
end
section
namespace Go.Proofs.YtnlbcifhedjbfaaGreatDoor.Rd
open Go Go.RowKit Mem
theorem clash {x l:List ax} (h:(x==l)=true) (h':(x==l)=false) {p:Prop}:p:=by rw[h]at h';cases h'
end Go.Proofs.YtnlbcifhedjbfaaGreatDoor.Rd
end
section
namespace Go.Proofs.YtnlbcifhedjbfaaGreatDoor.Rd
open Go.RowKit Mem
def bA (l:bH):ae:=⟨l.toArray⟩
theorem zu (l:bH):(bA l).data.toList=l:=rfl
theorem Vu {T:List (bH×bH)} {x l v:bH} (h:(x==l)=true) (hv:look T l=v):look T x=v:=by
 have:x=l:=by simpa using h
 rw[this];exact hv
theorem aaf {a b:ae} {l:bH} (h:l=b.data.toList) (e:a=b):Ending.returned (.string a)= .returned (.string (bA l)):=by
 subst h e;rfl
theorem agy (ah:ae) (w:af):Calls prog 181 #[.string ah] w λe w'=>e= .returned (.string (bA (look yu ah.toList)))/\w=w':=by
 go_enter func181,ntmps181
 go_wp2_with fail
 all_goals go_ret
 all_goals exact⟨aaf (by first|exact Vu ‹_› (by decide)|exact clash (x:=ah.toList) (l:= [97,109,112]) ‹_› ‹_›|exact clash (x:=ah.toList) (l:= [108,116]) ‹_› ‹_›|simp[look,yu, *]) rfl,rfl⟩
theorem ada (ah:ae) (w:af):Calls prog 182 #[.string ah] w λe w'=>e= .returned (.string (bA (look A8 ah.toList)))/\w=w':=by
 go_enter func182,ntmps182
 go_wp2_with fail
 all_goals go_ret
 all_goals exact⟨aaf (by first|exact Vu ‹_› (by decide)|simp[look,A8, *]) rfl,rfl⟩
theorem ext_list (s:ae) (a b:Nat):(s.extract a b).toList=(s.toList.drop a).take (b-a):=by
 rw[Lib.extract_toList,dZ]
end Go.Proofs.YtnlbcifhedjbfaaGreatDoor.Rd
end
section
namespace Go.Proofs.YtnlbcifhedjbfaaGreatDoor.Rd
open Go.RowKit Mem
def GX (p:ae):ae:=⟨(Lib.trimSuffix p.data.toList [59]).toArray⟩
def agl (p:ae):Bool:=Lib.hasSuffix p.data.toList [59]
theorem ac0 (p:ae):(GX p).toList=Lib.trimSuffix p.data.toList [59]:=by rw[dZ];rfl
theorem afM (p:ae):Fb p.toList=if look yu (GX p).toList≠ []then look yu (GX p).toList else if agl p=true then look A8 (GX p).toList else []:=by
 rw[ac0,dZ];unfold Fb agl Lib.trimSuffix Lib.hasSuffix;cases h:([59]:bH).isSuffixOf p.data.toList
 ·simp
 ·simp
theorem aiN (p:ae) (w:af) (hp:p.size<=9223372036854775807):Calls prog 180 #[.string p,.string ⟨#[59]⟩] w λe w'=>e= .returned (.tuple #[.string (GX p),.bool (agl p)])/\w=w' :=
 (OO p ⟨#[59]⟩ w hp).mono λ_ _ ⟨h1,h2⟩=>⟨h1,h2.symm⟩
theorem FP (s:ae):bA s.toList=s:=by rw[dZ];rfl
theorem bT (l:bH):(bA l).toList=l:=by rw[dZ];rfl
theorem AO {s:bH} {j:Nat} {p:ae} {t:bH} (hp:p.toList=s.take (j+1)) (h:Fb p.toList=t) (ht:t≠ []):qi s (j+1)=(t,j+1):=by
 rw[hp]at h;subst h;rw[qi,au ht]
theorem J6 {s:bH} {j:Nat} {p:ae} (hp:p.toList=s.take (j+1)) (h:Fb p.toList= []):qi s (j+1)=qi s j:=by
 rw[hp]at h;rw[qi,aj (by simp[h])]
theorem lL {a b:ae} {i j:Int} (h:a=b) (h':i=j):Ending.returned (.tuple #[.string a,.int .i64 i])= .returned (.tuple #[.string b,.int .i64 j]):=by rw[h,h']
def agP (p:ae) (tb td:ae) (gZ:Bool):Prop :=
 (tb.toList≠ []/\Fb p.toList=tb.toList)\/(tb.toList= []/\gZ=true/\td.toList≠ []/\Fb p.toList=td.toList)\/(tb.toList= []/\gZ=true/\td.toList= []/\Fb p.toList= [])\/(tb.toList= []/\gZ=false/\Fb p.toList= [])
theorem acQ (p:ae) (w:af) (hp:p.size<=9223372036854775807): ∃(nm tb td:ae) (gZ:Bool),
 Calls prog 180 #[.string p,.string ⟨#[59]⟩] w (λe w'=>e= .returned (.tuple #[.string nm,.bool gZ])/\w=w') /\
 Calls prog 181 #[.string nm] w (λe w'=>e= .returned (.string tb)/\w=w') /\
 Calls prog 182 #[.string nm] w (λe w'=>e= .returned (.string td)/\w=w')/\agP p tb td gZ:=by
 refine⟨GX p,_,_,agl p,aiN p w hp,agy (GX p) w,ada (GX p) w,?_⟩;have h:=afM p;unfold agP;rw[bT,bT];by_cases h1:look yu (GX p).toList= []
 ·rw[aj (by simp[h1])]at h;cases h2:agl p
  ·rw[h2]at h;exact .inr (.inr (.inr ⟨h1,rfl,h⟩))
  ·rw[h2,au rfl]at h;by_cases h3:look A8 (GX p).toList= []
   ·exact .inr (.inr (.inl ⟨h1,rfl,h3,h.trans h3⟩))
   ·exact .inr (.inl ⟨h1,rfl,h3,h⟩)
 ·rw[au h1]at h;exact .inl ⟨h1,h⟩
theorem MM {s:ae} (h:s.toList≠ []):s.toList.isEmpty=false:=by
 cases hs:s.toList with
 |nil=>exact absurd hs h
 |cons c r=>rfl
theorem Cm {s:ae} (h:s.toList= []):s.toList.isEmpty=true:=by rw[h];rfl
theorem ag7 (s:ae) (w:af) (hs:s.size<=9223372036854775807):Calls prog 130 #[.string s] w λe w'=>e= .returned (.tuple #[.string (bA (findF s.toList).1),.int .i64 (findF s.toList).2])/\w=w':=by
 have HP:Hid (findF s.toList=qi s.toList (min s.size 14)):=by show _=_;rw[findF,aR]
 have h0:((min s.size 14:Nat):Int)=min (s.size:Int) 14:=by omega
 have H0:=hd' h0;clear h0;go_enter func130,ntmps130
 go_wp2_with fail
 go_loop [4] (λi=> ∃k:Nat,k<=s.size/\k<=14/\i= .int .i64 k/\findF s.toList=qi s.toList k) (λi=>(intOf i).toNat)
 case atStart=>exact⟨min s.size 14,by omega,by omega,by(rw[H0.o']),HP.o'⟩
 case round =>
  obtain⟨k,hk,hk2,rfl,hv⟩:=hrel;have HV:=hd' hv;clear hv;cases k with
  |zero =>
   go_wp2_with fail
   go_ret2;exact⟨lL (by rw[HV.o'];rfl) (by rw[HV.o'];rfl),rfl⟩
  |succ j =>
   have hsz:(s.extract 0 (j+1)).size<=9223372036854775807:=by rw[Ac];omega
   have hpl:(s.extract 0 (j+1)).toList=s.toList.take (j+1):=by rw[ext_list,xh,Ef]
   obtain⟨nm,tb,td,gZ,hc,hb,hd,hh⟩:=acQ (s.extract 0 (j+1)) w hsz;have HC:=hd' hc;have HB:=hd' hb;have HD:=hd' hd;have HPL:=hd' hpl;clear hc hb hd hpl;rcases hh with⟨h1,h2⟩|⟨h1,rfl,h3,h2⟩|⟨h1,rfl,h3,h2⟩|⟨h1,rfl,h2⟩
   ·have HH:=hd' h2;have HN:=hd' h1;have h1':=MM h1;clear h2
    go_wp2_with (first
     |(go_at_call 180;refine HC.o'.mono ?_;rintro e w1 ⟨rfl,rfl⟩)
     |(go_at_call 181;refine HB.o'.mono ?_;rintro e w1 ⟨rfl,rfl⟩))
    go_ret2;exact⟨lL (by rw[HV.o',AO HPL.o' HH.o' HN.o'];exact(FP _).symm) (by rw[HV.o',AO HPL.o' HH.o' HN.o'];rfl),rfl⟩
   ·have HH:=hd' h2;have HN:=hd' h3;have h1':=Cm h1;have h3':=MM h3;clear h2
    go_wp2_with (first
     |(go_at_call 180;refine HC.o'.mono ?_;rintro e w1 ⟨rfl,rfl⟩)
     |(go_at_call 181;refine HB.o'.mono ?_;rintro e w1 ⟨rfl,rfl⟩)
     |(go_at_call 182;refine HD.o'.mono ?_;rintro e w1 ⟨rfl,rfl⟩))
    go_ret2;exact⟨lL (by rw[HV.o',AO HPL.o' HH.o' HN.o'];exact(FP _).symm) (by rw[HV.o',AO HPL.o' HH.o' HN.o'];rfl),rfl⟩
   ·have HH:=hd' h2;have h1':=Cm h1;have h3':=Cm h3;clear h2
    go_wp2_with (first
     |(go_at_call 180;refine HC.o'.mono ?_;rintro e w1 ⟨rfl,rfl⟩)
     |(go_at_call 181;refine HB.o'.mono ?_;rintro e w1 ⟨rfl,rfl⟩)
     |(go_at_call 182;refine HD.o'.mono ?_;rintro e w1 ⟨rfl,rfl⟩))
    go_round
    case rel=>exact⟨j,by omega,by omega,rfl,by rw[HV.o',J6 HPL.o' HH.o']⟩
    case measure=>simp[intOf]
   ·have HH:=hd' h2;have h1':=Cm h1;clear h2
    go_wp2_with (first
     |(go_at_call 180;refine HC.o'.mono ?_;rintro e w1 ⟨rfl,rfl⟩)
     |(go_at_call 181;refine HB.o'.mono ?_;rintro e w1 ⟨rfl,rfl⟩)
     |(go_at_call 182;refine HD.o'.mono ?_;rintro e w1 ⟨rfl,rfl⟩))
    go_round
    case rel=>exact⟨j,by omega,by omega,rfl,by rw[HV.o',J6 HPL.o' HH.o']⟩
    case measure=>simp[intOf]
end Go.Proofs.YtnlbcifhedjbfaaGreatDoor.Rd
end
section
namespace Go.Proofs.YtnlbcifhedjbfaaGreatDoor.Rd.Mem
open Go Go.RowKit
theorem gH {w w':af} {base:Nat} {e:TypeId} {size:Nat} {v:ak} {n:Nat} {xs:List ak} (h:w.ownsRow base e size v n xs) (hb: ∀g,v.ownBlock=some g->w'.heap[g]?=w.heap[g]?):w'.ownsRow base e size v n xs:=by
 obtain⟨h1,h2⟩:=h;refine⟨h1,?_⟩;rcases h2 with h2|⟨g,cap,di,rfl,hg,hh,r⟩
 ·exact .inl h2
 ·exact .inr ⟨g,cap,di,rfl,hg,(hb g rfl).trans hh,r⟩
theorem own_below {w w':af} {base:Nat} {e:TypeId} {size:Nat} {v:ak} {n:Nat} {xs:List ak} (h:w.ownsRow base e size v n xs) (hb:Below w.heap.size w w'):w'.ownsRow base e size v n xs :=
 gH h λg hg=>hb.block g (h.lt g hg).2
theorem jh {w:af} {base:Nat} {e:TypeId} {size g:Nat} {n c:Nat} {xs:List ak} (h:w.ownsRow base e size (.slice (some ⟨g,0,none⟩) n c) n xs):Row w g xs:=by
 rcases h.2 with⟨h',_⟩|⟨g',cap,di,h',_,hg,_,_,_,ht⟩
 ·cases h'
 ·cases h';exact⟨di,e,0,0,hg,by rw[h.1];exact ht,.inr rfl⟩
theorem fJ {w:af} {base:Nat} {e:TypeId} {size:Nat} {v:ak} {n:Nat} {xs:List ak} (h:w.ownsRow base e size v n xs) :
 ∃a c,v= .slice a n c/\n<=c/\c<=maxLen/\(a=none->c=0)/\At w a xs:=by
 obtain⟨h1,h2⟩:=h;rcases h2 with⟨rfl,rfl⟩|⟨g,cap,di,rfl,hg,hh,r1,r2,r3,r4⟩
 ·have:xs= []:=rF (by simpa using h1);subst this;exact⟨none,0,rfl,ay _,bD _,λ_=>rfl,At.nil _ _⟩
 ·exact⟨some ⟨g,0,none⟩,cap,rfl,r1,r2,(λh=>by cases h),(jh (base:=base) (e:=e) (size:=size) ⟨h1,.inr ⟨g,cap,di,rfl,hg,hh,r1,r2,r3,r4⟩⟩).at⟩
end Go.Proofs.YtnlbcifhedjbfaaGreatDoor.Rd.Mem
end
section
namespace Go.Proofs.YtnlbcifhedjbfaaGreatDoor.Rd
open Go.RowKit Mem
theorem aki {x:Int} {d b:Nat} (h:x=d):Ending.returned (.tuple #[.int .i64 x,.bool (decide (x<(b:Int)))])= .returned (.tuple #[.int .i64 d,.bool (decide (d<b))]):=by
 subst h;simp
theorem wN (n b:Nat) (hn:n<256) (w:af):Calls prog 177 #[.int .u8 n,.int .i64 b] w λe w'=>e= .returned (.tuple #[.int .i64 (DN n),.bool (decide (DN n<b))])/\w=w':=by
 have HV:Hid (DN n=if 48<=n/\n<=57 then n-48 else if 97<=n/\n<=102 then n-97+10 else if 65<=n/\n<=70 then n-65+10 else 99):=by show _=_;rfl
 go_enter func177,ntmps177
 go_wp2_with fail
 all_goals go_ret2
 all_goals exact⟨aki (by have h:=HV.o';clear HV;(repeat' split at h) <;>omega),rfl⟩
end Go.Proofs.YtnlbcifhedjbfaaGreatDoor.Rd
end
section
namespace Go.Proofs.YtnlbcifhedjbfaaGreatDoor.Rd.Mem
open Go Go.RowKit
theorem qW {w:af} {base:Nat} {e:TypeId} {size:Nat} {v:ak} {n:Nat} {xs:List ak} (h:w.ownsRow base e size v n xs) (hn:0<n): ∃g cap,v= .slice (some ⟨g,0,none⟩) n cap/\base<=g/\n<=cap/\cap<=maxLen:=by
 rcases h.2 with⟨_,h0⟩|⟨g,cap,di,rfl,hg,_,hc,hm,_⟩
 ·omega
 ·exact⟨g,cap,rfl,hg,hc,hm⟩
end Go.Proofs.YtnlbcifhedjbfaaGreatDoor.Rd.Mem
end
section
namespace Go.Proofs.YtnlbcifhedjbfaaGreatDoor.Rd.Mem
open Go Go.RowKit
structure az (F:Nat->Prop) (w w':af):Prop where
 os:w'.os=w.os
 tape:w'.tape=w.tape
 output:w'.output=w.output
 size:w.heap.size<=w'.heap.size
 block: ∀k,k<w.heap.size-> ¬F k->w'.heap[k]?=w.heap[k]?
theorem az.refl (F:Nat->Prop) (w:af):az F w w:=⟨rfl,rfl,rfl,ay _,λ_ _ _=>rfl⟩
theorem az.trans {F:Nat->Prop} {a b c:af} (h:az F a b) (k:az F b c):az F a c :=
 ⟨k.os.trans h.os,k.tape.trans h.tape,k.output.trans h.output,bY h.size k.size,λi hi hF=>(k.block i (fA hi h.size) hF).trans (h.block i hi hF)⟩
theorem az.bC {F:Nat->Prop} {w w':af} (h:Below w.heap.size w w'):az F w w':=⟨h.os,h.tape,h.output,h.size,λk hk _=>h.block k hk⟩
theorem az.set {F:Nat->Prop} {a w:af} (h:az F a w) {p:Addr} (hp:F p.block\/a.heap.size<=p.block) (u:ak):az F a (w.setCell p u) :=
 ⟨h.os,h.tape,h.output,by rw[pK];exact h.size,λk hk hF=>by
  have hne:k≠p.block:=by
   intro e;rcases hp with hp|hp
   ·exact hF (e▸hp)
   ·omega
  rw[eG _ _ _ _ hne];exact h.block k hk hF⟩
theorem az.alloc {F:Nat->Prop} {a w:af} (h:az F a w) (o:Obj):az F a (w.alloc o) :=
 ⟨h.os,h.tape,h.output,by rw[zY];have:=h.size;omega,λk hk hF=>(pU w o k (fA hk h.size)).trans (h.block k hk hF)⟩
theorem az.drew {F:Nat->Prop} {a w:af} (h:az F a w):az F a w.drew:=⟨h.os,h.tape,h.output,h.size,h.block⟩
end Go.Proofs.YtnlbcifhedjbfaaGreatDoor.Rd.Mem
end
section
namespace Go.Proofs.YtnlbcifhedjbfaaGreatDoor.Rd
open Mem
theorem Wd (b:Nat): ∀(k:Nat) (s:bH) (v:Nat),(nH b k s v).1<=s.length/\(nH b k s v).1<=k
 |0,_,_=>⟨bD _,bD _⟩
 |_+1,[],_=>⟨bD _,bD _⟩
 |k+1,c::r,v=>by
  unfold nH;cases Zc b c with
  |none=>exact⟨bD _,bD _⟩
  |some d =>
   have:=Wd b k r (min (v*b+d) 0x110000);exact⟨by simp only[dB];omega,by simp only;omega⟩
theorem afS (s:bH):kN s<=s.length/\kN s<=1:=by
 unfold kN xB;cases s with
 |nil=>simp
 |cons c r=>simp only[dB];split <;>omega
theorem aaq (s:bH):xX s<=s.length:=by
 have h1:=afS s;have h2:=Wd (aa6 s) 16 (s.drop (kN s)) 0;unfold xX rP;rw[dN]at h2;omega
theorem XK (r:bH):(ru r).2<=r.length+2:=by
 have h:=aaq r;unfold ru;split
 ·exact bD _
 ·simp only;split
  ·rename_i h';have:r.drop (xX r)≠ []:=by intro e;rw[e]at h';simp at h'
   have:xX r<r.length:=by
    rcases lG (xX r) r.length with h2|h2
    ·exact h2
    ·exact absurd (iZ h2) this
   omega
  ·omega
theorem Uk (r:bH) (attr:Bool):(qN r attr).2<=r.length+1:=by
 have:=VZ r;unfold qN;split
 ·exact bD _
 ·simp only;omega
theorem EB (r:bH) (attr:Bool):bG (38::35::r) attr=ru r:=by simp[bG]
theorem IJ {r:bH} (h:r.head?≠some 35) (attr:Bool):bG (38::r) attr=qN r attr:=by
 cases r with
 |nil=>simp[bG]
 |cons c r =>
  have hc: ¬35=c:=λe=>h (by simp[e])
  simp[bG,hc]
theorem JP {c:ax} {r:bH} (h:c≠38) (attr:Bool):bG (c::r) attr=([],0):=by
 have hc: ¬38=c:=λe=>h e.symm
 simp[bG,hc]
theorem O4 (attr:Bool):bG [] attr=([],0):=by simp[bG]
theorem YD (r:bH):xD (38::35::r)=(xX r==r.length):=by simp[xD]
theorem acu {r:bH} (h:r.head?≠some 35):xD (38::r)=A9 r:=by
 cases r with
 |nil=>simp[xD]
 |cons c r =>
  have hc: ¬35=c:=λe=>h (by simp[e])
  simp[xD,hc]
theorem DC (s:bH):(∃r,s=38::35::r)\/(∃r,s=38::r/\r.head?≠some 35)\/(∃c r,s=c::r/\c≠38)\/s= []:=by
 cases s with
 |nil=>exact .inr (.inr (.inr rfl))
 |cons c r =>
  by_cases hc:c=38
  ·subst hc;cases r with
   |nil=>exact .inr (.inl ⟨[],rfl,by simp⟩)
   |cons d r =>
    by_cases hd:d=35
    ·subst hd;exact .inl ⟨r,rfl⟩
    ·exact .inr (.inl ⟨d::r,rfl,by simpa using hd⟩)
  ·exact .inr (.inr (.inl ⟨c,r,rfl,hc⟩))
theorem FO (s:bH) (attr:Bool):(bG s attr).2<=s.length:=by
 rcases DC s with⟨r,rfl⟩|⟨r,rfl,h⟩|⟨c,r,rfl,h⟩|rfl
 ·rw[EB];have:=XK r;simp only[dB];omega
 ·rw[IJ h];have:=Uk r attr;simp only[dB];omega
 ·rw[JP h];exact bD _
 ·rw[O4];exact bD _
theorem Qn (attr:Bool): ∀(n:Nat) (s:bH) (k:Nat),s.length<=n->s.length<=k->adp attr k s=uO s attr:=by
 intro n
 induction n with
 |zero =>
  intro s k hs hk;have:s= []:=rF (by omega);subst this;cases k <;>rfl
 |succ n ih =>
  intro s k hs hk;cases s with
  |nil=>cases k <;>rfl
  |cons c r =>
   cases k with
   |zero=>simp at hk
   |succ k =>
    simp only[dB]at hs hk;unfold uO;simp only[dB,adp];by_cases h:c=38/\(bG (c::r) attr).2≠0
    ·rw[au h,au h]
     have hl:((c::r).drop (bG (c::r) attr).2).length<=r.length:=by
      rw[dN,dB];have:=h.2;omega
     rw[ih _ k (by omega) (by omega),ih _ r.length (by omega) hl]
    ·rw[aj h,aj h,ih r k (by omega) (by omega),ih r r.length (by omega) (ay _)]
theorem WK (attr:Bool):uO [] attr= []:=rfl
theorem DD (c:ax) (r:bH) (attr:Bool):uO (c::r) attr=if c=38/\(bG (c::r) attr).2≠0 then(bG (c::r) attr).1++uO ((c::r).drop (bG (c::r) attr).2) attr else c::uO r attr:=by
 rw[uO,dB,adp];by_cases h:c=38/\(bG (c::r) attr).2≠0
 ·rw[au h,au h]
  have hl:((c::r).drop (bG (c::r) attr).2).length<=r.length:=by
   rw[dN,dB];have:=h.2;omega
  rw[Qn attr _ _ _ (ay _) hl]
 ·rw[aj h,aj h,Qn attr _ _ _ (ay _) (ay _)]
theorem NR {c:ax} {r:bH} {attr:Bool} (h:c≠38):uO (c::r) attr=c::uO r attr:=by
 rw[DD,aj λh'=>h h'.1]
theorem NQ (attr:Bool): ∀s:bH,(∀c∈s,c≠38)->uO s attr=s
 | [],_=>rfl
 |c::r,h=>by rw[NR (h c dR),NQ attr r λd hd=>h d (gm _ hd)]
end Go.Proofs.YtnlbcifhedjbfaaGreatDoor.Rd
end
