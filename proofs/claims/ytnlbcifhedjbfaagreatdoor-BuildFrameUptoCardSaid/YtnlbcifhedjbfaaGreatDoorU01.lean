/- oZ joined for a claim: Mem, asK, aoC, aoJ, aqG, TxA: plain laws and contracts. No conditions beyond those that each lemma types. -/
import Derived.BigQuiet
import Derived.Deep.QuietTactic
import Derived.Deep.RegionWith
import Derived.Laws.AppendOwnNone
import Derived.Lib.ConvBytes
import Derived.Lib.Hide
import Derived.WalkKit
import Derived.WalkLawsBesides
import Derived.WalkSpells
import Derived.Deep.AppendLies
import Derived.Laws.ResultCell
import Derived.Lib.BufferMore
import Derived.Test.YtnlbcifhedjbfaaGreatDoorRows
import Derived.KernelRfl
import Derived.Test.YtnlbcifhedjbfaaGreatDoorUQ00
set_option linter.unusedVariables false
set_option linter.unusedSimpArgs false
set_option maxRecDepth 100000
set_option maxHeartbeats 8000000
open Go.Proofs.Tryz
section
namespace Go.Proofs.YtnlbcifhedjbfaaGreatDoor.Mem
open Go Go.RowKit
abbrev bH:=List ax
theorem lt_of_cell {w:af} {a:Addr} {v:ak} (h:w.cell? a=some v):a.block<w.heap.size:=World.block_lt_of_cell? w a h
def At (w:af) (a:Option Addr) (xs:List ak):Prop :=
 ∀j u,xs[j]?=some u-> ∃b o,a=some ⟨b,o,none⟩/\w.cell? ⟨b,o+j,none⟩=some u
theorem At.below {w w':af} {a:Option Addr} {xs:List ak} (h:At w a xs) (hb:Below w.heap.size w w'):At w' a xs:=by
 intro j u hj;obtain⟨b,o,ha,hc⟩:=h j u hj;exact⟨b,o,ha,aM hb hc⟩
theorem At.nil (w:af) (a:Option Addr):At w a []:=by
 intro j u h;simp at h
theorem At.get {w:af} {b o:Nat} {xs:List ak} (h:At w (some ⟨b,o,none⟩) xs) {j:Nat} {u:ak} (hj:xs[j]?=some u):w.cell? ⟨b,o+j,none⟩=some u:=by
 obtain⟨b',o',ha,hc⟩:=h j u hj;cases ha;exact hc
theorem At.tq {w:af} {a:Option Addr} {xs:List ak} (h:At w a xs) (hx:xs≠ []): ∃b o,a=some ⟨b,o,none⟩:=by
 cases xs with
 |nil=>exact absurd rfl hx
 |cons u r =>
  obtain⟨b,o,ha,_⟩:=h 0 u rfl;exact⟨b,o,ha⟩
theorem aK {w wr w1:af} (h:Below w.heap.size w wr) (h1:Below wr.heap.size wr w1):Below w.heap.size w w1:=h.trans (h1.mono h.size)
def Row (w:af) (g:Nat) (xs:List ak):Prop :=
 ∃di e lo hi,w.heap[g]?=some (.cells di e (lo,hi))/\di.toList.take xs.length=xs/\(xs.length<=lo\/hi=0)
theorem Row.cell {w:af} {g:Nat} {xs:List ak} (h:Row w g xs) {j:Nat} {u:ak} (hj:xs[j]?=some u):w.cell? ⟨g,j,none⟩=some u:=by
 obtain⟨di,e,lo,hi,hg,ht,_⟩:=h
 have hlt:j<xs.length:=by
  rcases lG j xs.length with h|h
  ·exact h
  ·simp[nS h]at hj
 simp only[World.cell?,hg];rw[<-ht,Lj hlt]at hj;simpa using hj
theorem Row.frozen {w:af} {g:Nat} {xs:List ak} (h:Row w g xs) {j:Nat} (hj:j<xs.length):w.frozen? ⟨g,j,none⟩=false:=by
 obtain⟨di,e,lo,hi,hg,ht,hf⟩:=h;simp only[World.frozen?,hg];rcases hf with hf|hf
 ·simp;omega
 ·subst hf;simp
theorem Row.lt {w:af} {g:Nat} {xs:List ak} (h:Row w g xs):g<w.heap.size:=by
 obtain⟨di,e,lo,hi,hg,_⟩:=h;rcases lG g w.heap.size with h|h
 ·exact h
 ·simp[Lv h]at hg
theorem Row.set {w:af} {g:Nat} {xs:List ak} (h:Row w g xs) (j:Nat) (v:ak):Row (w.setCell ⟨g,j,none⟩ v) g (xs.set j v):=by
 obtain⟨di,e,lo,hi,hg,ht,hf⟩:=h;have hlt:=Row.lt ⟨di,e,lo,hi,hg,ht,hf⟩;refine⟨di.setIfInBounds j v,e,lo,hi,?_,?_,?_⟩
 ·simp[World.setCell,Q4,hg]
 ·rw[nR,Array.toList_setIfInBounds,List.take_set,ht]
 ·rw[nR];exact hf
theorem Row.kept {w w':af} {g:Nat} {xs:List ak} (h:Row w g xs) (hg:w'.heap[g]?=w.heap[g]?):Row w' g xs:=by
 obtain⟨di,e,lo,hi,h1,h2⟩:=h;exact⟨di,e,lo,hi,hg.trans h1,h2⟩
theorem Row.below {w w':af} {g B:Nat} {xs:List ak} (h:Row w g xs) (hb:Below B w w') (hg:g<B):Row w' g xs:=h.kept (hb.block g hg)
theorem Row.at {w:af} {g:Nat} {xs:List ak} (h:Row w g xs):At w (some ⟨g,0,none⟩) xs:=by
 intro j u hj;exact⟨g,0,rfl,by rw[iM];exact h.cell hj⟩
theorem Row.alloc (w:af) (di:Array ak) (e:TypeId):Row (w.alloc (.cells di e)) w.heap.size di.toList :=
 ⟨di,e,0,0,eU w _,iH (ay _),.inr rfl⟩
theorem jy {w:af} {di:Array ak} {e:TypeId} {g:Nat} {xs:List ak} (hg:g=w.heap.size) (hc:di.toList=xs):At (w.alloc (.cells di e)) (some ⟨g,0,none⟩) xs:=by
 subst hg hc;exact(Row.alloc w di e).at
def bZ (l:bH):List ak:=l.map λb=>Value.int .u8 b.toNat
theorem dP (l:bH):(bZ l).length=l.length:=by simp[bZ]
theorem aR (s:ae):s.toList.length=s.size:=by rw[dZ,IC];rfl
theorem uE (s:ae):(ByteArray.mk s.toList.toArray)=s:=by rw[dZ]
theorem toList_inj {a b:ae} (h:a.toList=b.toList):a=b:=by rw[<-uE a,<-uE b,h]
theorem ak4 {a b:ae} (h:(a.toList==b.toList)=true):a=b:=toList_inj (by simpa using h)
theorem aqf {a b:ae} (h:(a.toList==b.toList)=false):a≠b:=λe=>by subst e;simp at h
theorem aqe {a b:bH} (h:(a==b)=true):a=b:=by simpa using h
theorem anr {a b:bH} (h:(a==b)=false):a≠b:=by simpa using h
theorem xQ (w:af) (e:TypeId) (s:ae):Row (Lib.bytesWorld w e s) w.heap.size (bZ s.toList):=by
 refine⟨_,_,_,_,Lib.bytesWorld_at_new w e s,?_,.inl ?_⟩
 ·rw[dP,aR];simp only[Lib.bytesCells,bZ,dZ,IB,Array.toList_map];rw[Eh];simp
 ·rw[dP,aR];simp[Lib.bytesCells]
theorem bytesWorld_below (w:af) (e:TypeId) (s:ae):Below w.heap.size w (Lib.bytesWorld w e s):=by
 refine⟨?_,?_,?_,by rw[QX];omega,λk hk=>Lib.bytesWorld_at_old w e s k hk⟩
 all_goals (unfold Lib.bytesWorld World.freeze;split <;>rfl)
theorem wG {P:Program} (w:af) (src dst e:TypeId) (s:ae) {u:TypeDesc}
 (hs:P.underlying src=some u) (hd:P.underlying dst=some (.slice e)) (he:P.underlying e=some (.int .u8)) :
 ∃c W,(convert src dst (.string s)).run P w= .ok (.slice (some ⟨w.heap.size,0,none⟩) s.size c) W/\Below w.heap.size w W/\W.heap.size=w.heap.size+1/\Row W w.heap.size (bZ s.toList)/\s.size<=c :=
 ⟨_,_,Lib.run_convert_string_bytes w src dst e s hs hd he,bytesWorld_below w e s,QX w e s,xQ w e s,grownCap_ge w s.size 0 e⟩
theorem foldl_push (l:bH): ∀s:ae,(l.map λb=>((b.toNat:Nat):Int)).foldl (λr n=>r.push (UInt8.ofNat n.toNat)) s=⟨(s.toList++l).toArray⟩:=by
 induction l with
 |nil=>intro s;simp[dZ]
 |cons b r ih =>
  intro s;simp only[dX,List.foldl_cons];rw[ih];congr 2;rw[dZ,dZ];simp[ByteArray.push]
theorem uQ {P:Program} (w:af) (src dst e:TypeId) (g c:Nat) (l:bH) (n:Nat) (hn:n=l.length)
 (hs:P.underlying src=some (.slice e)) (he:P.underlying e=some (.int .u8)) (hd:P.underlying dst=some .string) (hr:Row w g (bZ l)) :
 (convert src dst (.slice (some ⟨g,0,none⟩) n c)).run P w= .ok (.string ⟨l.toArray⟩) w:=by
 subst hn;rw[run_convert_bytes_string w src dst e _ _ _ hs he hd]
 have h:=run_loadCells_list (P:=P) (w:=w) ⟨g,0,none⟩ (bZ l) (by
  intro j v hj;rw[Addr.add];split
  ·rename_i h0;subst h0;exact hr.cell hj
  ·have:=hr.cell hj;simpa using this)
 rw[dP]at h
 have h2:=run_bytesToString (P:=P) w ⟨g,0,none⟩ l.length c (l.map λb=>((b.toNat:Nat):Int)) (by
  rw[h];simp[bZ,Function.comp_def])
 rw[h2,foldl_push];simp[dZ]
def jo (l:List ae):List ak:=l.map Value.string
theorem IK (l:List ae) (k:Nat) (h:k<l.length):(jo l)[k]?=some (.string l[k]):=by simp[jo,h]
abbrev dD:=ae×ae
def bz:List dD->List ak
 | []=> []
 |p::r=> .string p.1:: .string p.2::bz r
theorem qV (l:List dD):(bz l).length=l.length*2:=by
 induction l with
 |nil=>rfl
 |cons p r ih=>simp only[bz,dB,ih];omega
theorem lN: ∀(l:List dD) (k:Nat) (h:k<l.length),(bz l)[k*2]?=some (.string l[k].1)
 | [],_,h=>by simp at h
 |p::r,0,_=>rfl
 |p::r,k+1,h=>by
  have:=lN r k (by simpa using h);rw[show(k+1)*2=k*2+1+1 from by omega];simpa[bz] using this
theorem lM: ∀(l:List dD) (k:Nat) (h:k<l.length),(bz l)[k*2+1]?=some (.string l[k].2)
 | [],_,h=>by simp at h
 |p::r,0,_=>rfl
 |p::r,k+1,h=>by
  have:=lM r k (by simpa using h);rw[show(k+1)*2+1=k*2+1+1+1 from by omega];simpa[bz] using this
theorem pair_cells {w:af} {a:Option Addr} {l:List dD} (h:At w a (bz l)) {k:Nat} (hk:k<l.length) :
 ∃b o,a=some ⟨b,o,none⟩/\b<w.heap.size/\w.cell? ⟨b,o+k*2,none⟩=some (.string l[k].1)/\w.cell? ⟨b,o+k*2+1,none⟩=some (.string l[k].2):=by
 obtain⟨b,o,rfl,h1⟩:=h _ _ (lN l k hk);exact⟨b,o,rfl,lt_of_cell h1,h1,by rw[Nat.add_assoc];exact h.get (lM l k hk)⟩
theorem LU {w:af} {a:Option Addr} {l:List ae} (h:At w a (jo l)) {k:Nat} (hk:k<l.length) :
 ∃b o,a=some ⟨b,o,none⟩/\b<w.heap.size/\w.cell? ⟨b,o+k,none⟩=some (.string l[k]):=by
 obtain⟨b,o,rfl,h1⟩:=h _ _ (IK l k hk);exact⟨b,o,rfl,lt_of_cell h1,h1⟩
theorem Ar (l:List dD): ∀u∈bz l,u.oneCell'=true:=by
 induction l with
 |nil=>intro u h;cases h
 |cons p r ih =>
  intro u h;simp only[bz,dS]at h;rcases h with rfl|rfl|h
  ·rfl
  ·rfl
  ·exact ih u h
theorem iN {k:IntKind} {a b:Int} (h:a=b):Ending.returned (.int k a)= .returned (.int k b):=by rw[h]
theorem bJ {a b:Bool} (h:a=b):Ending.returned (.bool a)= .returned (.bool b):=by rw[h]
theorem mI {a b:ae} (h:a=b):Ending.returned (.string a)= .returned (.string b):=by rw[h]
theorem iR {v v':ak} (h:v=v'):Ending.returned v= .returned v':=by rw[h]
end Go.Proofs.YtnlbcifhedjbfaaGreatDoor.Mem
end
section
namespace Go.Proofs.YtnlbcifhedjbfaaGreatDoor.Mem
open Go Go.RowKit
theorem gH {w w':af} {base:Nat} {e:TypeId} {size:Nat} {v:ak} {n:Nat} {xs:List ak} (h:w.ownsRow base e size v n xs) (hb: ∀g,v.ownBlock=some g->w'.heap[g]?=w.heap[g]?):w'.ownsRow base e size v n xs:=by
 obtain⟨h1,h2⟩:=h;refine⟨h1,?_⟩;rcases h2 with h2|⟨g,cap,di,rfl,hg,hh,r⟩
 ·exact .inl h2
 ·exact .inr ⟨g,cap,di,rfl,hg,(hb g rfl).trans hh,r⟩
theorem own_below {w w':af} {base:Nat} {e:TypeId} {size:Nat} {v:ak} {n:Nat} {xs:List ak} (h:w.ownsRow base e size v n xs) (hb:Below w.heap.size w w'):w'.ownsRow base e size v n xs :=
 gH h λg hg=>hb.block g (h.lt g hg).2
theorem jh {w:af} {base:Nat} {e:TypeId} {size g:Nat} {n c:Nat} {xs:List ak} (h:w.ownsRow base e size (.slice (some ⟨g,0,none⟩) n c) n xs):Row w g xs:=by
 rcases h.2 with⟨h',_⟩|⟨g',cap,di,h',_,hg,_,_,_,ht⟩
 ·cases h'
 ·cases h';exact⟨di,e,0,0,hg,by rw[h.1];exact ht,.inr rfl⟩
theorem fJ {w:af} {base:Nat} {e:TypeId} {size:Nat} {v:ak} {n:Nat} {xs:List ak} (h:w.ownsRow base e size v n xs) :
 ∃a c,v= .slice a n c/\n<=c/\c<=maxLen/\(a=none->c=0)/\At w a xs:=by
 obtain⟨h1,h2⟩:=h;rcases h2 with⟨rfl,rfl⟩|⟨g,cap,di,rfl,hg,hh,r1,r2,r3,r4⟩
 ·have:xs= []:=rF (by simpa using h1);subst this;exact⟨none,0,rfl,ay _,bD _,λ_=>rfl,At.nil _ _⟩
 ·exact⟨some ⟨g,0,none⟩,cap,rfl,r1,r2,(λh=>by cases h),(jh (base:=base) (e:=e) (size:=size) ⟨h1,.inr ⟨g,cap,di,rfl,hg,hh,r1,r2,r3,r4⟩⟩).at⟩
def blanks (n:Nat):List dD:=List.replicate n (⟨#[]⟩,⟨#[]⟩)
theorem EW (n:Nat):(madeCells #[.string ⟨#[]⟩,.string ⟨#[]⟩] (n*2)).toList=bz (blanks n):=by
 apply QR;intro j;have hl:(bz (blanks n)).length=n*2:=by rw[qV];simp[blanks]
 by_cases hj:j<n*2
 ·have hk:j/2<(blanks n).length:=by simp[blanks];omega
  have h0:=lN (blanks n) (j/2) hk;have h1:=lM (blanks n) (j/2) hk;rcases Nat.mod_two_eq_zero_or_one j with h|h
  ·rw[show j/2*2=j from by omega]at h0;rw[h0];simp[madeCells,hj,h,blanks]
  ·rw[show j/2*2+1=j from by omega]at h1;rw[h1];simp[madeCells,hj,h,blanks]
 ·rw[nS (by simp[madeCells];omega),nS (by omega)]
theorem MC: ∀(l:List dD) (k:Nat) (p:dD),((bz l).set (k*2) (.string p.1)).set (k*2+1) (.string p.2)=bz (l.set k p)
 | [],_,_=>by simp[bz]
 |q::r,0,p=>rfl
 |q::r,k+1,p=>by
  rw[show(k+1)*2=k*2+1+1 from by omega,show k*2+1+1+1=(k*2+1)+1+1 from rfl];simp only[bz,dK,MC r k p]
theorem At.left {w:af} {a:Option Addr} {xs ys:List ak} (h:At w a (xs++ys)):At w a xs:=by
 intro j u hj;refine h j u ?_
 rw[vN (by
  rcases lG j xs.length with h'|h'
  ·exact h'
  ·simp[nS h']at hj)]
 exact hj
theorem At.news {w:af} {ad:Addr} {xs:List ak} (h:At w (some ad) xs): ∀j u,xs[j]?=some u->w.cell? (ad.add j)=some u:=by
 intro j u hj;obtain⟨b,o,ha,hc⟩:=h j u hj;cases ha;unfold Addr.add;split
 ·rename_i h0;subst h0;exact hc
 ·exact hc
theorem qW {w:af} {base:Nat} {e:TypeId} {size:Nat} {v:ak} {n:Nat} {xs:List ak} (h:w.ownsRow base e size v n xs) (hn:0<n): ∃g cap,v= .slice (some ⟨g,0,none⟩) n cap/\base<=g/\n<=cap/\cap<=maxLen:=by
 rcases h.2 with⟨_,h0⟩|⟨g,cap,di,rfl,hg,_,hc,hm,_⟩
 ·omega
 ·exact⟨g,cap,rfl,hg,hc,hm⟩
theorem kz {P:Program} (w:af) {ops:Array Oper} {rest:List Oper} {o:Oper} {a:Act} {Q:Exit->Act->af->Prop} (hgd:o.guard=none) (s x:Operand) (t:TypeId)
 (ho:o.op= .call {callee:= .builtin .append,args:= #[s,x],argTypes:= #[t,t]})
 (base:Nat) (e:TypeId) (i:TypeInfo) (z:ak) (size bytes:Nat) (ht:P.underlying t=some (.slice e)) (hi:P.info? e=some i) (hz:i.zero=some z)
 (hsize:i.size=size) (hby:i.bytes=bytes) (hzs:z.cells.size=size) (hsz:0<size)
 (v:ak) (n:Nat) (xs:List ak) (hs:a.eval s=v) (hown:w.ownsRow base e size v n xs)
 (ao:Option Addr) (m c:Nat) (news:List ak) (hx:a.eval x= .slice ao m c) (hl:news.length=m*size) (hnil:ao=none->c=0) (hat:At w ao news) (h1: ∀u∈news,u.oneCell'=true)
 (h63:n+m<=maxLen) (hbytes:(n+m)*bytes<=140737488355328) (hbase:base<=w.heap.size)
 (h: ∀v' w',w'.ownsRow base e size v' (n+m) (xs++news)->w.grownBy w' v.ownBlock->wpList P ops Q rest (a.put o.dst v') w'):wpList P ops Q (o::rest) a w:=by
 cases ao with
 |some ad=>exact wpList_append_own w hgd s x t ho base e i z size bytes ht hi hz hsize hby hzs hsz v n xs hs hown ad m c news hx hl hat.news h1 h63 hbytes hbase λv' w' h2 h3 _=>h v' w' h2 h3
 |none =>
  obtain rfl:c=0:=hnil rfl
  have hn:news= []:=by
   cases news with
   |nil=>rfl
   |cons u r=>obtain⟨b,q,he,_⟩:=hat 0 u rfl;cases he
  subst hn
  obtain rfl:m=0:=by
   have:m*size=0:=by simpa using hl.symm
   rcases Nat.mul_eq_zero.1 this with h|h
   ·exact h
   ·omega
  exact wpList_append_own_none hgd s x t ho base e i size ht hi v n xs hs hown hx (h v w (by simpa using hown) (World.grownBy.refl _ _))
end Go.Proofs.YtnlbcifhedjbfaaGreatDoor.Mem
end
section
namespace Go.Proofs.YtnlbcifhedjbfaaGreatDoor.Mem
open Go Go.RowKit
def bB (l:List Int):List ak:=l.map (Value.int .i64)
theorem eu (l:List Int):(bB l).length=l.length:=by simp[bB]
theorem fw (l:List Int) (k:Nat) (h:k<l.length):(bB l)[k]?=some (.int .i64 l[k]):=by simp[bB,h]
theorem jI (l r:List Int):bB (l++r)=bB l++bB r:=by simp[bB]
theorem jl (l:List Int): ∀u∈bB l,u.oneCell'=true:=by
 intro u h;obtain⟨n,_,rfl⟩:=Ip.1 h;rfl
structure az (F:Nat->Prop) (w w':af):Prop where
 os:w'.os=w.os
 tape:w'.tape=w.tape
 output:w'.output=w.output
 size:w.heap.size<=w'.heap.size
 block: ∀k,k<w.heap.size-> ¬F k->w'.heap[k]?=w.heap[k]?
theorem az.refl (F:Nat->Prop) (w:af):az F w w:=⟨rfl,rfl,rfl,ay _,λ_ _ _=>rfl⟩
theorem az.trans {F:Nat->Prop} {a b c:af} (h:az F a b) (k:az F b c):az F a c :=
 ⟨k.os.trans h.os,k.tape.trans h.tape,k.output.trans h.output,bY h.size k.size,λi hi hF=>(k.block i (fA hi h.size) hF).trans (h.block i hi hF)⟩
theorem az.bC {F:Nat->Prop} {w w':af} (h:Below w.heap.size w w'):az F w w':=⟨h.os,h.tape,h.output,h.size,λk hk _=>h.block k hk⟩
theorem az.mono {F G:Nat->Prop} {w w':af} (h:az F w w') (hFG: ∀k,k<w.heap.size->F k->G k):az G w w':=⟨h.os,h.tape,h.output,h.size,λk hk hG=>h.block k hk λhF=>hG (hFG k hk hF)⟩
theorem az.set {F:Nat->Prop} {a w:af} (h:az F a w) {p:Addr} (hp:F p.block\/a.heap.size<=p.block) (u:ak):az F a (w.setCell p u) :=
 ⟨h.os,h.tape,h.output,by rw[pK];exact h.size,λk hk hF=>by
  have hne:k≠p.block:=by
   intro e;rcases hp with hp|hp
   ·exact hF (e▸hp)
   ·omega
  rw[eG _ _ _ _ hne];exact h.block k hk hF⟩
theorem az.alloc {F:Nat->Prop} {a w:af} (h:az F a w) (o:Obj):az F a (w.alloc o) :=
 ⟨h.os,h.tape,h.output,by rw[zY];have:=h.size;omega,λk hk hF=>(pU w o k (fA hk h.size)).trans (h.block k hk hF)⟩
theorem az.drew {F:Nat->Prop} {a w:af} (h:az F a w):az F a w.drew:=⟨h.os,h.tape,h.output,h.size,h.block⟩
theorem az.below {F:Nat->Prop} {w w':af} {B:Nat} (h:az F w w') (hF: ∀k,k<B-> ¬F k) (hB:B<=w.heap.size):Below B w w' :=
 ⟨h.os,h.tape,h.output,h.size,λk hk=>h.block k (fA hk hB) (hF k hk)⟩
def rX (F:Nat->Prop) (w:af) (a:Option Addr) (xs:List ak):Prop :=
 ∀j u,xs[j]?=some u-> ∃b o,a=some ⟨b,o,none⟩/\ ¬F b/\w.cell? ⟨b,o+j,none⟩=some u
theorem rX.at {F:Nat->Prop} {w:af} {a:Option Addr} {xs:List ak} (h:rX F w a xs):At w a xs:=λj u hj =>
 let⟨b,o,ha,_,hc⟩:=h j u hj;⟨b,o,ha,hc⟩
theorem rX.kept {F:Nat->Prop} {w w':af} {a:Option Addr} {xs:List ak} (h:rX F w a xs) (hk:az F w w'):rX F w' a xs:=by
 intro j u hj;obtain⟨b,o,ha,hF,hc⟩:=h j u hj;refine⟨b,o,ha,hF,?_⟩;rw[yz (w:=w) (hk.block b (lt_of_cell hc) hF)];exact hc
theorem rX.yS {F:Nat->Prop} {w':af} {a:Option Addr} {xs:List ak} (h:At w' a xs) (hF: ∀b o s,a=some ⟨b,o,s⟩-> ¬F b):rX F w' a xs:=λj u hj =>
 let⟨b,o,ha,hc⟩:=h j u hj;⟨b,o,ha,hF b o _ ha,hc⟩
theorem rX.other {F G:Nat->Prop} {w:af} {a:Option Addr} {xs:List ak} (h:rX F w a xs) (hFG: ∀b,b<w.heap.size->G b->F b):rX G w a xs:=λj u hj =>
 let⟨b,o,ha,hF,hc⟩:=h j u hj;⟨b,o,ha,λhG=>hF (hFG b (lt_of_cell hc) hG),hc⟩
structure ND where
 elem:Bool
 aN:Int
 ah:ae
 aA:List dD
 aL:ae
 parent:Int
 aP:List Int
def AZ (d:ND) (aa:Option Addr) (ac:Nat) (ka:Option Addr) (kc:Nat):List ak :=
 [.bool d.elem,.int .i64 d.aN,.string d.ah,.slice aa d.aA.length ac,.string d.aL,.int .i64 d.parent,.slice ka d.aP.length kc]
def Bg (a:Option Addr) (c:Nat):Prop:=(a=none/\c=0)\/ ∃b,a=some ⟨b,0,none⟩
theorem Bg.nil {a:Option Addr} {c:Nat} (h:Bg a c):a=none->c=0:=by
 rcases h with⟨_,h⟩|⟨b,h⟩
 ·exact λ_=>h
 ·intro e;rw[h]at e;cases e
theorem U4 {w:af} {base:Nat} {e:TypeId} {size:Nat} {a:Option Addr} {n m c:Nat} {xs:List ak} (h:w.ownsRow base e size (.slice a m c) n xs):Bg a c:=by
 rcases h.2 with⟨hv,_⟩|⟨g,cap,di,hv,_⟩
 ·cases hv;exact .inl ⟨rfl,rfl⟩
 ·cases hv;exact .inr ⟨g,rfl⟩
def lJ (F:Nat->Prop) (w:af) (cs:List ak) (d:ND):Prop :=
 ∃aa ac ka kc,cs=AZ d aa ac ka kc/\d.aA.length<=ac/\ac<=maxLen/\(aa=none->ac=0)/\d.aP.length<=kc/\kc<=maxLen/\Bg ka kc/\rX F w aa (bz d.aA)/\rX F w ka (bB d.aP)
theorem lJ.kept {F:Nat->Prop} {w w':af} {cs:List ak} {d:ND} (h:lJ F w cs d) (hk:az F w w'):lJ F w' cs d:=by
 obtain⟨aa,ac,ka,kc,h1,h2,h3,h4,h5,h6,h7,h8,h9⟩:=h;exact⟨aa,ac,ka,kc,h1,h2,h3,h4,h5,h6,h7,h8.kept hk,h9.kept hk⟩
theorem lJ.other {F G:Nat->Prop} {w:af} {cs:List ak} {d:ND} (h:lJ F w cs d) (hFG: ∀b,b<w.heap.size->G b->F b):lJ G w cs d:=by
 obtain⟨aa,ac,ka,kc,h1,h2,h3,h4,h5,h6,h7,h8,h9⟩:=h;exact⟨aa,ac,ka,kc,h1,h2,h3,h4,h5,h6,h7,h8.other hFG,h9.other hFG⟩
theorem lJ.len {F:Nat->Prop} {w:af} {cs:List ak} {d:ND} (h:lJ F w cs d):cs.length=7:=by
 obtain⟨aa,ac,ka,kc,rfl,_⟩:=h;rfl
theorem Qd: ∀(Cs:List (List ak)) (i f:Nat) (hi:i<Cs.length),(∀c∈Cs,c.length=7)->f<7->Cs.flatten[i*7+f]?=Cs[i][f]?
 | [],_,_,hi,_,_=>by simp at hi
 |c::r,0,f,_,h,hf=>by
  rw[yL,vN (by rw[h c dR];omega)];simp
 |c::r,i+1,f,hi,h,hf=>by
  have h7:=h c dR;rw[yL,Ab (by rw[h7];omega),h7,show(i+1)*7+f-7=i*7+f from by omega];rw[Qd r i f (by simpa using hi) (λx hx=>h x (gm _ hx)) hf];simp
theorem Qc: ∀(Cs:List (List ak)) (i f:Nat) (v:ak) (hi:i<Cs.length),(∀c∈Cs,c.length=7)->f<7->Cs.flatten.set (i*7+f) v=(Cs.set i (Cs[i].set f v)).flatten
 | [],_,_,_,hi,_,_=>by simp at hi
 |c::r,0,f,v,_,h,hf=>by
  rw[yL,List.set_append_left _ _ (by rw[h c dR];omega)];simp
 |c::r,i+1,f,v,hi,h,hf=>by
  have h7:=h c dR;rw[yL,Ei _ _ (by rw[h7];omega),h7,show(i+1)*7+f-7=i*7+f from by omega];rw[Qc r i f v (by simpa using hi) (λx hx=>h x (gm _ hx)) hf];simp
structure aB where
 ai:List ND
 gy:Int
 /--blocks that its data asz -/
 jV:Nat->Prop
def MJ:Nat->Prop:=λ_=>False
def Two (tb g:Nat):Nat->Prop:=λk=>k=tb\/k=g
def Dat (jV:Nat->Prop) (tb g:Nat):Nat->Prop:=λk=>Two tb g k\/jV k
def kM (tT tN:TypeId) (w:af) (tb g:Nat) (T:aB):Prop :=
 ∃cap Cs,tb≠g/\w.heap[tb]?=some (.cells #[.slice (some ⟨g,0,none⟩) T.ai.length cap,.int .i64 T.gy] tT (0,0)) /\
  w.ownsRow 0 tN 7 (.slice (some ⟨g,0,none⟩) T.ai.length cap) T.ai.length (List.flatten Cs)/\Cs.length=T.ai.length /\
  (∀i (h:i<Cs.length) (h':i<T.ai.length),lJ (Dat T.jV tb g) w Cs[i] T.ai[i])/\ ∀k,T.jV k->k<w.heap.size/\k≠tb/\k≠g
section
variable {tT tN:TypeId} {w w':af} {tb g:Nat} {T:aB}
theorem kM.lt (h:kM tT tN w tb g T):tb<w.heap.size/\g<w.heap.size:=by
 obtain⟨cap,Cs,hne,ht,ho,hl,hn,Ct⟩:=h;refine⟨?_,(ho.lt g rfl).2⟩;rcases lG tb w.heap.size with h|h
 ·exact h
 ·simp[Lv h]at ht
theorem kM.vY (h:kM tT tN w tb g T): ∀k,T.jV k->k<w.heap.size/\k≠tb/\k≠g:=by
 obtain⟨cap,Cs,hne,ht,ho,hl,hn,Ct⟩:=h;exact Ct
theorem kM.below (h:kM tT tN w tb g T) (hb:Below w.heap.size w w'):kM tT tN w' tb g T:=by
 have hlt:=h.lt;obtain⟨cap,Cs,hne,ht,ho,hl,hn,Ct⟩:=h;exact⟨cap,Cs,hne,(hb.block tb hlt.1).trans ht,own_below ho hb,hl,λi h h'=>(hn i h h').kept (az.bC hb),λk hk=>⟨fA (Ct k hk).1 hb.size,(Ct k hk).2⟩⟩
theorem kM.head (h:kM tT tN w tb g T): ∃cap,T.ai.length<=cap/\cap<=maxLen/\w.cell? ⟨tb,0,none⟩=some (.slice (some ⟨g,0,none⟩) T.ai.length cap)/\w.cell? ⟨tb,1,none⟩=some (.int .i64 T.gy) /\
 w.frozen? ⟨tb,0,none⟩=false/\w.frozen? ⟨tb,1,none⟩=false:=by
 obtain⟨cap,Cs,hne,ht,ho,hl,hn,Ct⟩:=h;obtain⟨a,c,hv,h1,h2,_⟩:=fJ ho;simp only[QB]at hv;obtain⟨_,_,rfl⟩:=hv;exact⟨cap,h1,h2,by simp[World.cell?,ht],by simp[World.cell?,ht],vK _ _ _ _ _ ht,vK _ _ _ _ _ ht⟩
theorem Py {Cs:List (List ak)} (hl:Cs.length=T.ai.length) (hn: ∀i (h:i<Cs.length) (h':i<T.ai.length),lJ (Dat T.jV tb g) w Cs[i] T.ai[i]): ∀c∈Cs,c.length=7:=by
 intro c hc;obtain⟨i,hi,rfl⟩:=pR hc;exact(hn i hi (by omega)).len
theorem kM.node (h:kM tT tN w tb g T) {i:Nat} (hi:i<T.ai.length) :
 ∃aa ac ka kc,T.ai[i].aA.length<=ac/\ac<=maxLen/\(aa=none->ac=0)/\T.ai[i].aP.length<=kc/\kc<=maxLen/\Bg ka kc /\
  rX (Dat T.jV tb g) w aa (bz T.ai[i].aA)/\rX (Dat T.jV tb g) w ka (bB T.ai[i].aP) /\
  (∀f v,(AZ T.ai[i] aa ac ka kc)[f]?=some v->w.cell? ⟨g,i*7+f,none⟩=some v)/\ ∀j,w.frozen? ⟨g,j,none⟩=false:=by
 obtain⟨cap,Cs,hne,ht,ho,hl,hn,Ct⟩:=h;have h7:=Py hl hn;obtain⟨aa,ac,ka,kc,h1,h2,h3,h4,h5,h6,h7',h8,h9⟩:=hn i (by omega) hi;refine⟨aa,ac,ka,kc,h2,h3,h4,h5,h6,h7',h8,h9,?_,ho.frozenAt⟩;intro f v hf
 have hf7:f<7:=by
  have:=(En.1 hf).1;simpa[AZ] using this
 refine(jh ho).cell ?_;rw[Qd Cs i f (by omega) h7 hf7,h1];exact hf
theorem kM.write (h:kM tT tN w tb g T) {i:Nat} (hi:i<T.ai.length) (f:Nat) (hf:f<7) (v:ak) (d:ND)
 (hd: ∀cs,lJ (Dat T.jV tb g) w cs T.ai[i]->lJ (Dat T.jV tb g) w (cs.set f v) d) :
 kM tT tN (w.setCell ⟨g,i*7+f,none⟩ v) tb g {T with ai:=T.ai.set i d}:=by
 obtain⟨cap,Cs,hne,ht,ho,hl,hn,Ct⟩:=h;have h7:=Py hl hn;have hk:az (Dat T.jV tb g) w (w.setCell ⟨g,i*7+f,none⟩ v):=(az.refl _ _).set (.inl (.inl (.inr rfl))) v
 refine⟨cap,Cs.set i (Cs[i].set f v),hne,?_,?_,by simpa using hl,?_,λk hk=>by rw[pK];exact Ct k hk⟩
 ·rw[eG _ _ _ _ hne];simpa using ht
 ·rw[<-Qc Cs i f v (by omega) h7 hf];simpa using (ho.stored (i*7+f) v).1
 ·intro j hj hj';simp only[nR]at hj hj';simp only[List.getElem_set];split
  ·rename_i e;subst e;exact(hd _ (hn i hj hj')).kept hk
  ·exact(hn j hj hj').kept hk
end
section
variable {tT tN:TypeId} {w w':af} {tb g:Nat} {T:aB}
theorem kM.open_ (h:kM tT tN w tb g T): ∃cap Cs,tb≠g/\w.heap[tb]?=some (.cells #[.slice (some ⟨g,0,none⟩) T.ai.length cap,.int .i64 T.gy] tT (0,0)) /\
 w.ownsRow 0 tN 7 (.slice (some ⟨g,0,none⟩) T.ai.length cap) T.ai.length (List.flatten Cs)/\Cs.length=T.ai.length /\
 (∀i (h:i<Cs.length) (h':i<T.ai.length),lJ (Dat T.jV tb g) w Cs[i] T.ai[i])/\ ∀k,T.jV k->k<w.heap.size/\k≠tb/\k≠g:=h
theorem abz {cap cap' g':Nat} {Cs:List (List ak)} {cs:List ak} {d:ND} (hne:tb≠g) (ht:w.heap[tb]?=some (.cells #[.slice (some ⟨g,0,none⟩) T.ai.length cap,.int .i64 T.gy] tT (0,0)))
 (hl:Cs.length=T.ai.length) (hn: ∀i (h:i<Cs.length) (h':i<T.ai.length),lJ (Dat T.jV tb g) w Cs[i] T.ai[i]) (Ct: ∀k,T.jV k->k<w.heap.size/\k≠tb/\k≠g)
 (hk:az (· =g) w w') (ho:w'.ownsRow 0 tN 7 (.slice (some ⟨g',0,none⟩) (T.ai.length+1) cap') (T.ai.length+1) (List.flatten Cs++cs))
 (hg:g'=g\/w.heap.size<=g') (hd:lJ (Dat T.jV tb g') w' cs d) :
 kM tT tN (w'.setCell ⟨tb,0,none⟩ (.slice (some ⟨g',0,none⟩) (T.ai.length+1) cap')) tb g' ⟨T.ai++ [d],T.gy,T.jV⟩:=by
 have htb:tb<w.heap.size:=by
  rcases lG tb w.heap.size with h|h
  ·exact h
  ·simp[Lv h]at ht
 have hne':tb≠g':=by
  rcases hg with rfl|hg
  ·exact hne
  ·omega
 have ht':w'.heap[tb]?=some (.cells #[.slice (some ⟨g,0,none⟩) T.ai.length cap,.int .i64 T.gy] tT (0,0)):=(hk.block tb htb hne).trans ht;have hs:az (Dat T.jV tb g') w' (w'.setCell ⟨tb,0,none⟩ (.slice (some ⟨g',0,none⟩) (T.ai.length+1) cap')):=(az.refl _ _).set (.inl (.inl (.inl rfl))) _
 refine⟨cap',Cs++ [cs],hne',?_,?_,by simp[hl],?_,λk hk'=> ?_⟩
 ·rw[mr (i:=0) ht'];simp
 ·have:(Cs++ [cs]).flatten=Cs.flatten++cs:=by simp
  rw[this];simp only[fC,sS];refine gH ho λk hk'=> ?_
  simp only[Value.ownBlock,dQ]at hk';subst hk';exact eG _ _ _ _ (Ne.symm hne')
 ·intro i hi hi';by_cases hlt:i<Cs.length
  ·have h1:(Cs++ [cs])[i]=Cs[i]:=Li hlt;have h2:(T.ai++ [d])[i]'hi'=T.ai[i]'(by omega):=Li (by omega);rw[h1];show lJ _ _ _ ((T.ai++ [d])[i]'hi');rw[h2];have h3:=hn i hlt (by omega);have h4:lJ (Dat T.jV tb g) w' Cs[i] (T.ai[i]'(by omega)):=h3.kept (hk.mono λk _ h=> .inl (.inr h))
   --what the node holds lies where it lay in w
   have h5:lJ (Dat T.jV tb g') w Cs[i] (T.ai[i]'(by omega)):=h3.other λb hb hh=>by
    rcases hh with(hh|hh)|hh
    ·exact .inl (.inl hh)
    ·rcases hg with rfl|hg
     ·exact .inl (.inr hh)
     ·omega
    ·exact .inr hh
   have h6:lJ (Dat T.jV tb g') w' Cs[i] (T.ai[i]'(by omega)):=by
    obtain⟨aa,ac,ka,kc,q1,q2,q3,q4,q5,q6,q7,q8,q9⟩:=h5;obtain⟨aa',ac',ka',kc',r1,r2,r3,r4,r5,r6,r7,r8,r9⟩:=h3;rw[q1]at r1;simp only[AZ,Lu,QB,and_true,BD]at r1;obtain⟨⟨rfl,rfl⟩,⟨rfl,rfl⟩⟩:=r1;refine⟨aa,ac,ka,kc,q1,q2,q3,q4,q5,q6,q7,?_,?_⟩
    ·intro j u hj;obtain⟨b,o,rfl,hF,hc⟩:=q8 j u hj;obtain⟨b',o',he,hF',hc'⟩:=r8 j u hj;cases he;refine⟨b,o,rfl,hF,?_⟩;rw[yz (w:=w) (hk.block b (lt_of_cell hc) λe=>hF' (.inl (.inr e)))];exact hc
    ·intro j u hj;obtain⟨b,o,rfl,hF,hc⟩:=q9 j u hj;obtain⟨b',o',he,hF',hc'⟩:=r9 j u hj;cases he;refine⟨b,o,rfl,hF,?_⟩;rw[yz (w:=w) (hk.block b (lt_of_cell hc) λe=>hF' (.inl (.inr e)))];exact hc
   exact h6.kept hs
  ·have he:i=Cs.length:=by simp at hi;omega
   subst he;have h1:(Cs++ [cs])[Cs.length]'hi=cs:=by simp
   have h2:(T.ai++ [d])[Cs.length]'hi'=d:=by simp[hl]
   rw[h1];show lJ _ _ _ ((T.ai++ [d])[Cs.length]'hi');rw[h2];exact hd.kept hs
 ·obtain⟨k1,k2,k3⟩:=Ct k hk';have:=hk.size;refine⟨by rw[pK];omega,k2,?_⟩;rcases hg with rfl|hg
  ·exact k3
  ·omega
end
theorem fZ {w:af} {b:Nat} {o:Obj} (h:w.heap[b]?=some o):b<w.heap.size:=by
 rcases lG b w.heap.size with h'|h'
 ·exact h'
 ·simp[Lv h']at h
theorem F9 {F:Nat->Prop} {w:af} {base:Nat} {e:TypeId} {size:Nat} {v:ak} {n:Nat} {xs:List ak} (h:w.ownsRow base e size v n xs) (hF: ∀k,F k->k<base) :
 ∃a c,v= .slice a n c/\n<=c/\c<=maxLen/\Bg a c/\rX F w a xs:=by
 obtain⟨a,c,rfl,h1,h2,h3,h4⟩:=fJ h;refine⟨a,c,rfl,h1,h2,U4 h,rX.yS h4 λb o s ha hb=> ?_⟩;subst ha;have hb':=hF b hb;rcases h.2 with⟨hv,_⟩|⟨g,cap,di,hv,hg,_⟩
 ·cases hv
 ·cases hv;omega
theorem fO {P:Program} {w:af} {ops:Array Oper} {o:Oper} {a:Act} {K:Act->af->Prop} {Q:Exit->Act->af->Prop} {E:Prop} (hgd:o.guard=none) (s x:Operand) (t:TypeId)
 (ho:o.op= .call {callee:= .builtin .append,args:= #[s,x],argTypes:= #[t,t]})
 (base:Nat) (e:TypeId) (i:TypeInfo) (z:ak) (size bytes:Nat) (ht:P.underlying t=some (.slice e)) (hi:P.info? e=some i) (hz:i.zero=some z)
 (hsize:i.size=size) (hby:i.bytes=bytes) (hzs:z.cells.size=size) (hsz:0<size)
 (v:ak) (n:Nat) (xs:List ak) (hs:a.eval s=v) (hown:w.ownsRow base e size v n xs)
 (ao:Option Addr) (m c:Nat) (news:List ak) (hx:a.eval x= .slice ao m c) (hl:news.length=m*size) (hnil:ao=none->c=0) (hat:At w ao news) (h1: ∀u∈news,u.oneCell'=true)
 (h63:n+m<=maxLen) (hbytes:(n+m)*bytes<=140737488355328) (hbase:base<=w.heap.size)
 (h: ∀v' w',w'.ownsRow base e size v' (n+m) (xs++news)->w.grownBy w' v.ownBlock->K (a.put o.dst v') w') :
 if Region.wanted o (yielded ops a.tmps)=true then Oper.wp P o a w K Q else E:=by
 have hw:Region.wanted o (yielded ops a.tmps)=true:=by simp[Region.wanted,hgd]
 rw[au hw];cases ao with
 |some ad=>exact wp_append_own w s x t ho base e i z size bytes ht hi hz hsize hby hzs hsz v n xs hs hown ad m c news hx hl hat.news h1 h63 hbytes hbase λv' w' h2 h3 _=>h v' w' h2 h3
 |none =>
  obtain rfl:c=0:=hnil rfl
  have hn:news= []:=by
   cases news with
   |nil=>rfl
   |cons u r=>obtain⟨b,q,he,_⟩:=hat 0 u rfl;cases he
  subst hn
  obtain rfl:m=0:=by
   have:m*size=0:=by simpa using hl.symm
   rcases Nat.mul_eq_zero.1 this with h|h
   ·exact h
   ·omega
  have hrun:=run_append_owned_none (P:=P) (w:=w) base t o.type e i size ht hi v n xs hown;unfold Oper.wp;simp[execOp,ho,resolve,invoke,builtin,hs,hx,hrun,Result.andThen];exact h v w (by simpa using hown) (World.grownBy.refl _ _)
theorem cell_grown {w w':af} {row:Option Nat} {p:Addr} {v:ak} (h:w.cell? p=some v) (hg:w.grownBy w' row) (hne:some p.block≠row):w'.cell? p=some v:=by
 rw[yz (w:=w) (hg.block p.block (lt_of_cell h) hne)];exact h
inductive NT where
 |mk (aH aN:Int) (ah:ae) (aA:List dD) (aL:ae) (aP:List NT)
def iF (aH aN:Int) (ah:ae) (a:Option Addr) (n c:Nat) (aL:ae) (ka:Option Addr) (kn kc:Nat):List ak :=
 [.int .i64 aH,.int .i64 aN,.string ah,.slice a n c,.string aL,.slice ka kn kc]
inductive gq (F:Nat->Prop) (w:af):List ak->NT->Prop
 |mk {aH aN:Int} {ah:ae} {a:Option Addr} {c:Nat} {aA:List dD} {aL:ae} {ka:Option Addr} {kc:Nat} {aP:List NT} (css:List (List ak))
   (h1:aA.length<=c) (h2:c<=maxLen) (h3:a=none->c=0) (h4:rX F w a (bz aA))
   (k1:aP.length<=kc) (k2:kc<=maxLen) (k3:ka=none->kc=0) (k4:rX F w ka css.flatten) (hl:css.length=aP.length)
   (hk: ∀i (h:i<css.length) (h':i<aP.length),gq F w css[i] aP[i]):gq F w (iF aH aN ah a aA.length c aL ka aP.length kc) (.mk aH aN ah aA aL aP)
theorem gq.len {F:Nat->Prop} {w:af} {cs:List ak} {n:NT} (h:gq F w cs n):cs.length=6:=by
 cases h;rfl
theorem gq.kept {F:Nat->Prop} {w w':af} {cs:List ak} {n:NT} (h:gq F w cs n) (hk:az F w w'):gq F w' cs n:=by
 induction h with
 |mk css h1 h2 h3 h4 k1 k2 k3 k4 hl _ ih=>exact .mk css h1 h2 h3 (h4.kept hk) k1 k2 k3 (k4.kept hk) hl λi h h'=>ih i h h'
theorem gq.other {F G:Nat->Prop} {w:af} {cs:List ak} {n:NT} (h:gq F w cs n) (hFG: ∀b,b<w.heap.size->G b->F b):gq G w cs n:=by
 induction h with
 |mk css h1 h2 h3 h4 k1 k2 k3 k4 hl _ ih=>exact .mk css h1 h2 h3 (h4.other hFG) k1 k2 k3 (k4.other hFG) hl λi h h'=>ih i h h'
theorem af6: ∀(Cs:List (List ak)),(∀c∈Cs,c.length=6)->Cs.flatten.length=Cs.length*6
 | [],_=>rfl
 |c::r,h=>by
  rw[yL,fC,af6 r λx hx=>h x (gm _ hx),h c dR,dB];omega
theorem Jg: ∀(Cs:List (List ak)) (i f:Nat) (hi:i<Cs.length),(∀c∈Cs,c.length=6)->f<6->Cs.flatten[i*6+f]?=Cs[i][f]?
 | [],_,_,hi,_,_=>by simp at hi
 |c::r,0,f,_,h,hf=>by
  rw[yL,vN (by rw[h c dR];omega)];simp
 |c::r,i+1,f,hi,h,hf=>by
  have h6:=h c dR;rw[yL,Ab (by rw[h6];omega),h6,show(i+1)*6+f-6=i*6+f from by omega];rw[Jg r i f (by simpa using hi) (λx hx=>h x (gm _ hx)) hf];simp
theorem tu {P:Program} {fn:Func} {p q:Tmp} {ty:TypeId} (h:fn.results= #[.cell p ty,.tmp q]) (tmps:Array ak) (w:af) (g:Nat) (t:TypeId) (cs:Array ak) (fr:Nat×Nat) (d:TypeDesc) (u:ak)
 (hp:tmps.getD p undef= .pointer (some ⟨g,0,none⟩)) (hq:tmps.getD q undef=u) (hg:w.heap[g]?=some (.cells cs t fr))
 (hu:P.underlying ty=some d) (hd:(match d with| .struct _| .array _ _=>true|_=>false)=true) (hi:(P.info? ty).map (·.size)=some cs.size) :
 (results fn tmps).run P w= .ok (.tuple #[.agg cs,u]) w:=by
 have hp':tmps.getD p undef= .pointer (some ⟨g,0,none⟩):=hp;rw[results_cell_tmp h,hp',hq];simp[asAddr,Result.andThen,QA w g t ty cs fr d hg hu hd hi]
section
variable {tT tN:TypeId} {w w':af} {tb g:Nat} {T:aB}
theorem kM.dE {F far':Nat->Prop} (h:kM tT tN w tb g T) (hk:az F w w') (hF: ∀k,F k->T.jV k) (hf: ∀k,far' k->(T.jV k\/w.heap.size<=k)/\k<w'.heap.size):kM tT tN w' tb g {T with jV:=far'}:=by
 have hlt:=h.lt;obtain⟨cap,Cs,hne,ht,ho,hl,hn,Ct⟩:=h;have hFt: ∀k,F k->k≠tb/\k≠g:=λk hk=>(Ct k (hF k hk)).2
 refine⟨cap,Cs,hne,(hk.block tb hlt.1 λe=>(hFt tb e).1 rfl).trans ht,?_,hl,?_,?_⟩
 ·refine gH ho λk hk'=> ?_
  simp only[Value.ownBlock,dQ]at hk';subst hk';exact hk.block g hlt.2 λe=>(hFt g e).2 rfl
 ·intro i h1 h2
  have h3:lJ (λk=>Dat T.jV tb g k\/Dat far' tb g k) w Cs[i] T.ai[i]:=(hn i h1 h2).other λb hb hh=>by
   rcases hh with hh|hh|hh
   ·exact hh
   ·exact .inl hh
   ·rcases(hf b hh).1 with h|h
    ·exact .inr h
    ·omega
  exact(h3.kept (hk.mono λk _ h=> .inl (.inr (hF k h)))).other λb _ hh=> .inr hh
 ·intro k hk';obtain⟨h1,h2⟩:=hf k hk';refine⟨h2,?_⟩;rcases h1 with h1|h1
  ·exact(Ct k h1).2
  ·omega
end
end Go.Proofs.YtnlbcifhedjbfaaGreatDoor.Mem
end
section
namespace Go.Proofs.YtnlbcifhedjbfaaGreatDoor
open Mem
def xF (T:aB) (n:Int):Bool:=decide (1<=n)&&decide (n<(T.ai.length:Int))
def aY (T:aB) (n:Int):Bool:=xF T n&&((T.ai[n.toNat]?).map (·.elem)).getD false
def dw (T:aB) (n:Int):Bool:=(n==0)||aY T n
def xJ:List Int->Int->Int->Int
 | [],_,_=> -1
 |y::r,x,k=>if y=x then k else xJ r x (k+1)
def aG (T:aB) (n:Int):List Int:=((T.ai[n.toNat]?).map (·.aP)).getD []
def aJ (T:aB) (n:Int):Int:=((T.ai[n.toNat]?).map (·.parent)).getD (-1)
def eT (T:aB) (parent before:Int):Int:=if before=0 then(aG T parent).length else xJ (aG T parent) before 0
theorem acO (l:List Int) (x:Int) (k:Nat) (h:k<l.length) (hne:l[k]≠x) (z:Int):xJ (l.drop k) x z=xJ (l.drop (k+1)) x (z+1):=by
 rw[kR h,xJ,aj hne]
theorem afE (l:List Int) (x:Int) (k:Nat) (h:k<l.length) (he:l[k]=x) (z:Int):xJ (l.drop k) x z=z:=by
 rw[kR h,xJ,au he]
theorem lS (T:aB) (i:Nat) (h:i<T.ai.length):aG T i=T.ai[i].aP:=by simp[aG,h]
theorem Ao (T:aB) (i:Nat) (h:i<T.ai.length):aJ T i=T.ai[i].parent:=by simp[aJ,h]
theorem xO (T:aB) (i:Nat) (h1:1<=i) (h:i<T.ai.length):aY T i=T.ai[i].elem:=by
 have h2:xF T i=true:=by simp[xF];omega
 rw[aY,h2];simp[h]
inductive Reach (T:aB) (top:Int):Int->Prop
 |here:Reach T top top
 |up {n:Int}:0<n->Reach T top (aJ T n)->Reach T top n
theorem su {T:aB} {top n:Int} (h:n<=0):Reach T top n↔n=top:=by
 constructor
 ·intro hr;cases hr with
  |here=>rfl
  |up h0 _=>omega
 ·rintro rfl;exact .here
theorem Mk {T:aB} {top n:Int} (h:0<n) (hne:n≠top):Reach T top n↔Reach T top (aJ T n):=by
 constructor
 ·intro hr;cases hr with
  |here=>exact absurd rfl hne
  |up _ hr=>exact hr
 ·exact .up h
def lg (T:aB) (top:Int):Nat->Int->Bool
 |0,n=>n==top
 |k+1,n=>(n==top)||(decide (0<n)&&lg T top k (aJ T n))
def gM (T:aB) (n top:Int):Bool:=lg T top (T.ai.length+1) n
section
variable {T:aB} {top:Int}
theorem Kh: ∀(k:Nat) (n:Int),lg T top k n=true->lg T top (k+1) n=true
 |0,n,h=>by rw[lg];rw[lg]at h;rw[h];rfl
 |k+1,n,h=>by
  rw[lg];rw[lg,jD,cz]at h;rcases h with h|⟨h1,h2⟩
  ·rw[h];rfl
  ·rw[h1,Kh k _ h2];simp
theorem adf {j k:Nat} (hjk:j<=k) {n:Int} (h:lg T top j n=true):lg T top k n=true:=by
 induction hjk with
 |refl=>exact h
 |step _ ih=>exact Kh _ _ ih
theorem G8: ∀(k:Nat) (n:Int),lg T top k n=true->Reach T top n
 |0,n,h=>by rw[lg,cO]at h;rw[h];exact .here
 |k+1,n,h=>by
  rw[lg,jD,cz]at h;rcases h with h|⟨h1,h2⟩
  ·rw[cO]at h;rw[h];exact .here
  ·exact .up (by simpa using h1) (G8 k _ h2)
theorem Rw {n:Int} (h:Reach T top n): ∃k,lg T top k n=true:=by
 induction h with
 |here=>exact⟨0,by rw[lg];simp⟩
 |up h0 _ ih =>
  obtain⟨k,hk⟩:=ih;exact⟨k+1,by rw[lg,hk];simp[h0]⟩
def CK (T:aB) (top:Int) (k:Nat) (n:Int):Prop:=lg T top k n=true/\ ∀j,j<k->lg T top j n=false
theorem Un {k:Nat} {n:Int} (h:CK T top (k+1) n):0<n/\CK T top k (aJ T n):=by
 obtain⟨h1,h2⟩:=h;have h0:=h2 0 (by omega);rw[lg.eq_1]at h0;rw[lg.eq_2,h0,Ev,cz]at h1;refine⟨by simpa using h1.1,h1.2,λj hj=> ?_⟩;have h3:=h2 (j+1) (by omega);rw[lg.eq_2,h0,Ev,h1.1,nW]at h3;exact h3
theorem abO {j k:Nat} {n:Int} (h:CK T top j n) (h':CK T top k n):j=k:=by
 rcases Nat.lt_trichotomy j k with hx|hx|hx
 ·have:=h.1;rw[h'.2 j hx]at this;cases this
 ·exact hx
 ·have:=h'.1;rw[h.2 k hx]at this;cases this
theorem LV: ∀(k:Nat) (n:Int),CK T top (k+1) n-> ∃L:List Int,L.length=k/\L.Nodup/\ ∀x∈L,0<=x/\x<T.ai.length/\ ∃j,j<=k+1/\CK T top j x
 |0,_,_=>⟨[],rfl,Le,λ_ h=>absurd h (by simp)⟩
 |k+1,n,h=>by
  obtain⟨h0,h1⟩:=Un h;obtain⟨L,l1,l2,l3⟩:=LV k _ h1;refine⟨n::L,by rw[dB,l1],mh.2 ⟨λhm=> ?_,l2⟩,λx hx=> ?_⟩
  ·obtain⟨-, -,j,hj,hs⟩:=l3 n hm;have:=abO h hs;omega
  ·rcases dS.1 hx with hx|hx
   ·subst hx;refine⟨by omega,?_,_,ay _,h⟩;rcases mZ x T.ai.length with hl|hl
    ·exact hl
    ·obtain⟨h2, -⟩:=Un h1;have:aJ T x= -1:=by unfold aJ;rw[nS (by omega)];rfl
     omega
   ·obtain⟨a,b,j,hj,hs⟩:=l3 x hx;exact⟨a,b,j,by omega,hs⟩
theorem Nu: ∀(n:Nat) (L:List Int),L.Nodup->(∀x∈L,0<=x/\x<n)->L.length<=n
 |0,L,_,h=>by
  cases L with
  |nil=>exact ay _
  |cons x r=>have:=h x (dR ..);omega
 |n+1,L,hd,h=>by
  have h1:=Nu n (L.erase (n:Int)) (hd.erase _) λx hx=>by
   have h2:=h x (List.mem_of_mem_erase hx);have h3:x≠(n:Int):=(List.Nodup.mem_erase_iff hd).1 hx |>.1;omega
  have h4:=List.length_erase (a:=(n:Int)) (l:=L);split at h4 <;>omega
theorem abP {k:Nat} {n:Int} (h:CK T top k n):k<=T.ai.length+1:=by
 cases k with
 |zero=>omega
 |succ k =>
  obtain⟨L,h1,h2,h3⟩:=LV k n h;have:=Nu T.ai.length L h2 λx hx=>⟨(h3 x hx).1,(h3 x hx).2.1⟩
  omega
theorem xR {n:Int}:gM T n top=true↔Reach T top n:=by
 refine⟨G8 _ n,λh=> ?_⟩;obtain⟨k,hk⟩:=Rw h
 have hs: ∃j,CK T top j n:=by
  induction k using Nat.strongRecOn with
  |ind k ih =>
   by_cases hx: ∃j,j<k/\lg T top j n=true
   ·obtain⟨j,hj,hb⟩:=hx;exact ih j hj hb
   ·refine⟨k,hk,λj hj=> ?_⟩;cases e:lg T top j n with
    |false=>rfl
    |true=>exact absurd ⟨j,hj,e⟩ hx
 obtain⟨j,hj⟩:=hs;exact adf (abP hj) hj.1
theorem ky {n:Int}:gM T n top= @decide (Reach T top n) (Classical.propDecidable _):=by
 rw[rG,xR];simp
end
theorem SY {T:aB} {n m top:Int} (h:Reach T top n↔Reach T top m):gM T n top=gM T m top:=by
 rw[rG,xR,xR];exact h
theorem lX {T:aB} {n top:Int} (h:Reach T top n):gM T n top=true:=xR.2 h
theorem Zr {T:aB} {n top:Int} (h:n<=0):gM T n top=(n==top):=by
 rw[rG,xR,su h];simp
def upM (r:Int->Nat) (m:Int):Nat:=if 0<m then r m+1 else 0
theorem aka (r:Int->Nat) (m p:Int) (hm:0<m) (h:1<=p->r p<r m):upM r p<upM r m:=by
 unfold upM;rw[au hm];split
 ·have:=h (by omega);omega
 ·omega
structure WF (T:aB):Prop where
 pos:0<T.ai.length
 root:aJ T 0= -1
 par: ∀i:Nat,i<T.ai.length-> -1<=aJ T i/\aJ T i<T.ai.length
 kid: ∀i:Nat,i<T.ai.length-> ∀k∈aG T i,1<=k/\k<T.ai.length/\aJ T k=i
 mem: ∀i:Nat,i<T.ai.length->0<=aJ T i->(i:Int)∈aG T (aJ T i)
 nodup: ∀i:Nat,i<T.ai.length->(aG T i).Nodup
 rank: ∃r:Int->Nat,∀i:Nat,i<T.ai.length->1<=aJ T i->r (aJ T i)<r i
 holds: ∀i:Nat,i<T.ai.length->aG T i≠ []->dw T i=true
end Go.Proofs.YtnlbcifhedjbfaaGreatDoor
namespace Go.Proofs.YtnlbcifhedjbfaaGreatDoor
open Go.RowKit Mem
abbrev eH (w:af) (tb g:Nat) (T:aB):Prop:=kM 86 83 w tb g T
section
variable (T:aB) (tb g:Nat) (w:af)
theorem RP (h:eH w tb g T):Calls prog 211 #[.pointer (some ⟨tb,0,none⟩)] w λe w'=>e= .returned (.int .i64 ((T.ai.length:Int)-1))/\w=w':=by
 obtain⟨cap,h1,h2,c0,_,_,_⟩:=h.head;unfold maxLen at h2;clear h;go_enter func211,ntmps211
 go_wp2
 go_ret;exact⟨rfl,rfl⟩
theorem AB (n:Int) (h:eH w tb g T):Calls prog 40 #[.pointer (some ⟨tb,0,none⟩),.int .i64 n] w λe w'=>e= .returned (.bool (xF T n))/\w=w':=by
 obtain⟨cap,h1,h2,c0,_,_,_⟩:=h.head;unfold maxLen at h2;have HP:Hid (xF T n=(decide (1<=n)&&decide (n<(T.ai.length:Int)))):=by show _=_;rfl
 clear h;by_cases hn:1<=n
 all_goals
  go_enter func40,ntmps40
  go_wp2
  go_ret;exact⟨bJ (by rw[HP.o'];first|(simp[hn];done)|(simp;omega)),rfl⟩
theorem zO (n:Int) (h:eH w tb g T):Calls prog 72 #[.pointer (some ⟨tb,0,none⟩),.int .i64 n] w λe w'=>e= .returned (.bool (aY T n))/\w=w':=by
 have HC:=hd' (AB T tb g w n h);cases hi:xF T n
 ·have HP:Hid (aY T n=false):=by show _=_;rw[aY,hi];rfl
  rw[hi]at HC;clear h;go_enter func72,ntmps72
  go_wp2_with (go_at_call 40;refine HC.o'.mono ?_;rintro e w1 ⟨rfl,rfl⟩)
  go_ret;exact⟨bJ HP.o'.symm,rfl⟩
 ·have hb:1<=n/\n<(T.ai.length:Int):=by simpa[xF] using hi
  obtain⟨i,rfl⟩:=bQ (by omega:0<=n);have hlt:i<T.ai.length:=by omega
  have HP:Hid (aY T i=T.ai[i].elem):=by show _=_;exact xO T i (by omega) hlt
  obtain⟨cap,h1,h2,c0,_,_,_⟩:=h.head;obtain⟨aa,ac,ka,kc,_,_,_,_,_,_,_,_,hc,_⟩:=h.node hlt;have d0:=hc 0 _ rfl;rw[pM]at d0;unfold maxLen at h2;rw[hi]at HC;clear h hc hi;go_enter func72,ntmps72
  go_wp2_with (go_at_call 40;refine HC.o'.mono ?_;rintro e w1 ⟨rfl,rfl⟩)
  go_ret;exact⟨bJ HP.o'.symm,rfl⟩
theorem nD (n:Int) (h:eH w tb g T):Calls prog 191 #[.pointer (some ⟨tb,0,none⟩),.int .i64 n] w λe w'=>e= .returned (.bool (dw T n))/\w=w':=by
 have HC:=hd' (zO T tb g w n h);clear h;by_cases hn:n=0
 ·have HP:Hid (dw T n=true):=by show _=_;rw[dw,hn];rfl
  subst hn;go_enter func191,ntmps191
  go_wp2_with fail
  go_ret;exact⟨bJ HP.o'.symm,rfl⟩
 ·have hn':(n==0)=false:=by simpa using hn
  have HP:Hid (dw T n=aY T n):=by show _=_;rw[dw,hn'];rfl
  clear hn;go_enter func191,ntmps191
  go_wp2_with (go_at_call 72;refine HC.o'.mono ?_;rintro e w1 ⟨rfl,rfl⟩)
  go_ret;exact⟨bJ HP.o'.symm,rfl⟩
theorem qw (parent:Nat) (before:Int) (hp:parent<T.ai.length) (h:eH w tb g T) :
 Calls prog 192 #[.pointer (some ⟨tb,0,none⟩),.int .i64 parent,.int .i64 before] w λe w'=>e= .returned (.int .i64 (eT T parent before))/\w=w':=by
 obtain⟨cap,h1,h2,c0,_,_,_⟩:=h.head;obtain⟨aa,ac,ka,kc,_,_,_,hk1,hk2,_,_,hk,hc,_⟩:=h.node hp;have d6:=hc 6 _ rfl;obtain⟨l,hl⟩: ∃l,l=T.ai[parent].aP:=⟨_,rfl⟩;rw[<-hl]at d6 hk hk1;have HK:=hd' hk.at;have HL:Hid (aG T parent=l):=by show _=_;rw[lS T parent hp,hl]
 unfold maxLen at h2 hk2;clear h hc hk hl;by_cases hb:before=0
 ·have HP:Hid (eT T parent before=l.length):=by show _=_;rw[eT,au hb,HL.o']
  subst hb;go_enter func192,ntmps192
  go_wp2_with fail
  go_ret;exact⟨iN HP.o'.symm,rfl⟩
 ·have hb':(before==0)=false:=by simpa using hb
  have HP:Hid (eT T parent before=xJ l before 0):=by show _=_;rw[eT,aj hb,HL.o']
  clear hb;go_enter func192,ntmps192
  go_wp2_with fail
  go_loop [24] (λi=> ∃k:Nat,k<=l.length/\i= .int .i64 k/\xJ l before 0=xJ (l.drop k) before k) (λi=>l.length-(intOf i).toNat)
  case atStart=>exact⟨0,bD _,rfl,rfl⟩
  case round =>
   obtain⟨k,hk,rfl,hv⟩:=hrel;have HV:=hd' hv;clear hv;by_cases hlt:k<l.length
   ·obtain⟨b,o,rfl,e1⟩:=HK.o' _ _ (fw l k hlt);by_cases he:l[k]=before
    ·have he':(l[k]==before)=true:=by simpa using he
     have HE:=hd' he;clear he;go_wp2_with fail
     go_ret;exact⟨iN (by rw[HP.o',HV.o',afE l before k hlt HE.o']),rfl⟩
    ·have he':(l[k]==before)=false:=by simpa using he
     have HE:=hd' he;clear he;go_wp2_with fail
     go_round
     case rel=>exact⟨k+1,by omega,by go_num,by rw[HV.o',acO l before k hlt HE.o'];rfl⟩
     case measure=>simp[intOf];omega
   ·go_wp2_with fail
    go_ret;exact⟨iN (by rw[HP.o',HV.o',iZ (by omega)];rfl),rfl⟩
theorem Dy (n top:Int) (hn:n<T.ai.length) (hw:WF T) (h:eH w tb g T) :
 Calls prog 195 #[.pointer (some ⟨tb,0,none⟩),.int .i64 n,.int .i64 top] w λe w'=>e= .returned (.bool (gM T n top))/\w=w':=by
 obtain⟨cap,h1,h2,c0,_,_,_⟩:=h.head;obtain⟨r,hr⟩:=hw.rank;have HR:=hd' hr;have HW:=hd' hw;have HT:=hd' h;unfold maxLen at h2;clear h hw hr;go_enter func195,ntmps195
 go_wp2_with fail
 go_loop [1] (λx=> ∃m:Int,m<T.ai.length/\x= .int .i64 m/\gM T n top=gM T m top) (λx=>upM r (intOf x))
 case atStart=>exact⟨n,hn,rfl,rfl⟩
 case round =>
  obtain⟨m,hm,rfl,hv⟩:=hrel;have HV:=hd' hv;clear hv;by_cases hp:0<m
  ·by_cases he:m=top
   ·have HE:Hid (gM T m top=true):=by show _=_;rw[he];exact lX .here
    have he':(m==top)=true:=by simpa using he
    clear he;go_wp2_with fail
    go_ret;exact⟨bJ (by rw[HV.o',HE.o']),rfl⟩
   ·have HE:Hid (gM T m top=gM T (aJ T m) top):=SY (Mk hp he);have he':(m==top)=false:=by simpa using he
    clear he;obtain⟨i,rfl⟩:=bQ (by omega:0<=m);have hi:i<T.ai.length:=by omega
    obtain⟨aa,ac,ka,kc,_,_,_,_,_,_,_,_,hc,_⟩:=HT.o'.node hi;have d5:=hc 5 _ rfl;have HP:Hid (aJ T i=T.ai[i].parent):=Ao T i hi;have Ox:=HW.o'.par i hi;rw[HP.o']at Ox;clear hc;go_wp2_with fail
    go_round
    case rel=>exact⟨T.ai[i].parent,Ox.2,rfl,by rw[HV.o',HE.o',HP.o']⟩
    case measure =>
     have hlt2:=HR.o' i hi;rw[HP.o']at hlt2;exact aka r i T.ai[i].parent hp hlt2
  ·have HE:Hid (gM T m top=(m==top)):=Zr (by omega);go_wp2_with fail
   go_ret;exact⟨bJ (by rw[HV.o',HE.o']),rfl⟩
theorem Yo (n:Int) (h:eH w tb g T) :
 Calls prog 190 #[.pointer (some ⟨tb,0,none⟩),.int .i64 n] w λe w'=>e= .returned (.int .i64 (if xF T n then aJ T n else -1))/\w=w':=by
 have HC:=hd' (AB T tb g w n h);cases hi:xF T n
 ·rw[hi]at HC;clear h;go_enter func190,ntmps190
  go_wp2_with (go_at_call 40;refine HC.o'.mono ?_;rintro e w1 ⟨rfl,rfl⟩)
  go_ret;exact⟨rfl,rfl⟩
 ·have hb:1<=n/\n<(T.ai.length:Int):=by simpa[xF] using hi
  obtain⟨i,rfl⟩:=bQ (by omega:0<=n);have hlt:i<T.ai.length:=by omega
  have HP:Hid (aJ T i=T.ai[i].parent):=Ao T i hlt;obtain⟨cap,h1,h2,c0,_,_,_⟩:=h.head;obtain⟨aa,ac,ka,kc,_,_,_,_,_,_,_,_,hc,_⟩:=h.node hlt;have d5:=hc 5 _ rfl;unfold maxLen at h2;rw[hi]at HC;clear h hc hi;go_enter func190,ntmps190
  go_wp2_with (go_at_call 40;refine HC.o'.mono ?_;rintro e w1 ⟨rfl,rfl⟩)
  go_ret;exact⟨iN (by rw[HP.o']),rfl⟩
theorem alc (n:Int) (h:eH w tb g T):Calls prog 210 #[.pointer (some ⟨tb,0,none⟩),.int .i64 n] w λe w'=>e= .returned (.bool (aY T n))/\w=w':=by
 have HC:=hd' (zO T tb g w n h);clear h;go_enter func210,ntmps210
 go_wp2_with (go_at_call 72;refine HC.o'.mono ?_;rintro e w1 ⟨rfl,rfl⟩)
 go_ret;exact⟨rfl,rfl⟩
end
def vD (T:aB) (n:Int):List Int:=if 0<=n/\n<T.ai.length then aG T n else []
theorem GG:(prog.info? 3).map (λi=>(i.zero,i.size,i.bytes))=some (some (.int .i64 0),1,8):=by kernel_rfl
section
variable (T:aB) (tb g:Nat) (w:af)
theorem Vz (n:Int) (h:eH w tb g T) (hsz: ∀i (h:i<T.ai.length),T.ai[i].aP.length<=2097152) :
 Calls prog 25 #[.pointer (some ⟨tb,0,none⟩),.int .i64 n] w λe w'=> ∃v,e= .returned v/\w'.ownsRow w.heap.size 3 1 v (vD T n).length (bB (vD T n))/\Below w.heap.size w w':=by
 obtain⟨cap,h1,h2,c0,_,_,_⟩:=h.head;unfold maxLen at h2;by_cases hn:n<0
 ·have HQ:Hid (vD T n= []):=by show _=_;rw[vD,aj (by omega)]
  clear h;go_enter func25,ntmps25
  go_wp2_with fail
  go_ret;exact⟨_,rfl,by rw[HQ.o'];exact jY _ _ _ _,aQ _ _⟩
 ·by_cases hge:(T.ai.length:Int)<=n
  ·have HQ:Hid (vD T n= []):=by show _=_;rw[vD,aj (by omega)]
   clear h;go_enter func25,ntmps25
   go_wp2_with fail
   go_ret;exact⟨_,rfl,by rw[HQ.o'];exact jY _ _ _ _,aQ _ _⟩
  ·obtain⟨i,rfl⟩:=bQ (by omega:0<=n);have hlt:i<T.ai.length:=by omega
   obtain⟨aa,ac,ka,kc,_,_,_,hk1,hk2,hk3,_,hk,hc,_⟩:=h.node hlt;obtain⟨ht1,ht2⟩:=h.lt;have d6:=hc 6 _ rfl;have apt:=hsz i hlt;obtain⟨l,hl⟩: ∃l,l=T.ai[i].aP:=⟨_,rfl⟩;rw[<-hl]at d6 hk hk1 apt;have HQ:Hid (vD T i=l):=by show _=_;rw[vD,au (by omega),lS T i hlt,hl]
   have HK:=hd' (hk.at.below ((aQ _ _).alloc (ay _) (.cells #[] 3)));have HE:Hid ((w.alloc (.cells #[] 3)).ownsRow w.heap.size 3 1 (.slice (some ⟨w.heap.size,0,none⟩) 0 0) 0 []):=oI w #[] 0 (ay _) (bD _) rfl;have H3:=hd' hk3.nil;obtain⟨i0,hi,hz0,hz1,hz2⟩:=lY GG;have b0:0+l.length<=maxLen:=by unfold maxLen;omega
   have b1:(0+l.length)*8<=140737488355328:=by omega
   have hnl:(bB l).length=l.length*1:=by rw[eu,Eg]
   have W9:=hd' hnl;have HZ:Hid (w.heap.size<=(w.alloc (.cells #[] 3)).heap.size):=by show _<=_;simp
   clear h hc hk hl hk3 hsz hnl;go_enter func25,ntmps25
   go_wp2_with (at_builtin;refine kz _ rfl _ _ 65 rfl w.heap.size 3 i0 _ 1 8 oJ hi hz0 hz1 hz2 rfl (by decide) _ 0 [] rfl HE.o' ka l.length kc (bB l) rfl W9.o' H3.o' HK.o' (jl l) b0 b1 HZ.o' ?_;intro v2 w2 hown2 mU;simp only[iM,jZ]at hown2;have OJ:=hd' hown2;have HG2:=hd' mU;clear hown2 mU)
   go_ret;exact⟨_,rfl,by rw[HQ.o'];exact OJ.o',((aQ _ _).alloc (ay _) _).grown HG2.o' HZ.o' (λb h=>(HE.o'.lt b h).1)⟩
end
def ve:ND:=⟨false,0,⟨#[]⟩,[],⟨#[]⟩, -1,[]⟩
theorem vF {w:af} {o:Obj} {n:Nat} (h:w.heap.size=n):(w.alloc o).heap[n]?=some o:=by
 subst h;exact eU w o
end Go.Proofs.YtnlbcifhedjbfaaGreatDoor
end
section
namespace Go.Proofs.YtnlbcifhedjbfaaGreatDoor
open Mem
structure Ti (N:Nat) (p:Int->Int) (K:Int->List Int) (H:Int->Bool):Prop where
 pos:0<N
 root:p 0= -1
 par: ∀i:Nat,i<N-> -1<=p i/\p i<N
 kid: ∀i:Nat,i<N-> ∀k∈K i,1<=k/\k<N/\p k=i
 mem: ∀i:Nat,i<N->0<=p i->(i:Int)∈K (p i)
 nodup: ∀i:Nat,i<N->(K i).Nodup
 rank: ∃r:Int->Nat,∀i:Nat,i<N->1<=p i->r (p i)<r i
 holds: ∀i:Nat,i<N->K i≠ []->H i=true
theorem WF.view {T:aB} (h:WF T):Ti T.ai.length (aJ T) (aG T) (dw T):=⟨h.pos,h.root,h.par,h.kid,h.mem,h.nodup,h.rank,h.holds⟩
theorem Ti.wf {T:aB} (h:Ti T.ai.length (aJ T) (aG T) (dw T)):WF T:=⟨h.pos,h.root,h.par,h.kid,h.mem,h.nodup,h.rank,h.holds⟩
theorem Ti.congr {N:Nat} {p q:Int->Int} {K L:Int->List Int} {H G:Int->Bool} (h:Ti N p K H) (hp: ∀i:Nat,i<N->q i=p i) (hK: ∀i:Nat,i<N->L i=K i) (hH: ∀i:Nat,i<N->G i=H i):Ti N q L G where
 pos:=h.pos
 root:=by have:=hp 0 h.pos;rw[show((0:Nat):Int)=0 from rfl]at this;rw[this];exact h.root
 par:=λi hi=>by rw[hp i hi];exact h.par i hi
 kid:=λi hi k hk=>by
  rw[hK i hi]at hk;obtain⟨h1,h2,h3⟩:=h.kid i hi k hk;obtain⟨m,rfl⟩:=bQ (by omega:0<=k);exact⟨h1,h2,by rw[hp m (by omega)];exact h3⟩
 mem:=λi hi h0=>by
  rw[hp i hi]at h0 |-;have hm:=h.mem i hi h0;have hr:=h.par i hi;obtain⟨m,hm'⟩:=bQ h0;rw[hm']at hm hr |-;rw[hK m (by omega)];exact hm
 nodup:=λi hi=>by rw[hK i hi];exact h.nodup i hi
 rank:=by
  obtain⟨r,hr⟩:=h.rank;exact⟨r,λi hi h1=>by rw[hp i hi]at h1 |-;exact hr i hi h1⟩
 holds:=λi hi hk=>by rw[hK i hi]at hk;rw[hH i hi];exact h.holds i hi hk
inductive wm (p:Int->Int) (top:Int):Int->Prop
 |here:wm p top top
 |up {n:Int}:0<n->wm p top (p n)->wm p top n
theorem Ye {T:aB} {top n:Int}:Reach T top n↔wm (aJ T) top n:=by
 constructor
 ·intro h
  induction h with
  |here=>exact .here
  |up h _ ih=>exact .up h ih
 ·intro h
  induction h with
  |here=>exact .here
  |up h _ ih=>exact .up h ih
theorem Ti.take {N:Nat} {p:Int->Int} {K:Int->List Int} {H:Int->Bool} (h:Ti N p K H) {n:Int} (h1:1<=n) :
 Ti N (λi=>if i=n then -1 else p i) (λi=>if i=p n then(K i).filter (· !=n)else K i) H where
 pos:=h.pos
 root:=by rw[aj (by omega)];exact h.root
 par:=λi hi=>by
  have:=h.par i hi;show -1<=(if(i:Int)=n then -1 else p i)/\(if(i:Int)=n then -1 else p i)<N;split
  ·have:=h.pos;omega
  ·exact this
 kid:=λi hi k hk=>by
  have hne:k≠n/\k∈K i:=by
   try dsimp only at hk
   split at hk
   ·simp only[qE,jJ]at hk;exact⟨hk.2,hk.1⟩
   ·rename_i hni;refine⟨λe=> ?_,hk⟩;obtain⟨_,_,h4⟩:=h.kid i hi k hk;rw[e]at h4;exact hni h4.symm
  obtain⟨h2,h3,h4⟩:=h.kid i hi k hne.2;exact⟨h2,h3,by rw[aj hne.1];exact h4⟩
 mem:=λi hi h0=>by
  try dsimp only at h0 |-
  by_cases he:(i:Int)=n
  ·rw[au he]at h0;omega
  ·rw[aj he]at h0;rw[aj he];have hm:=h.mem i hi h0;split
   ·simp only[qE,jJ];exact⟨hm,he⟩
   ·exact hm
 nodup:=λi hi=>by
  try dsimp only
  split
  ·exact(h.nodup i hi).filter _
  ·exact h.nodup i hi
 rank:=by
  obtain⟨r,hr⟩:=h.rank;refine⟨r,λi hi h2=> ?_⟩
  try dsimp only at h2 |-
  by_cases he:(i:Int)=n
  ·rw[au he]at h2;omega
  ·rw[aj he]at h2 |-;exact hr i hi h2
 holds:=λi hi hk=>by
  refine h.holds i hi λe=>hk ?_
  try dsimp only
  rw[e];split <;>rfl
theorem Ti.insert {N:Nat} {p:Int->Int} {K:Int->List Int} {H:Int->Bool} (h:Ti N p K H) {n a:Int} {i:Nat} (h1:1<=n) (hn:n<N) (ha0:0<=a) (ha:a<N) (hH:H a=true) (hp:p n= -1) (hr: ¬wm p n a) :
 Ti N (λj=>if j=n then a else p j) (λj=>if j=a then(K j).take i++n::(K j).drop i else K j) H:=by
 have hna:a≠n:=λe=>hr (e▸ .here)
 have hnot: ∀j:Nat,j<N->n∉K j:=λj hj hm=>by
  have:=(h.kid j hj n hm).2.2;omega
 have hperm: ∀(l:List Int),(l.take i++n::l.drop i).Perm (n::l):=λl=>by
  have:=(List.perm_middle:(l.take i++n::l.drop i).Perm (n::(l.take i++l.drop i)))
  rwa [nQ]at this
 refine⟨h.pos,?_,?_,?_,?_,?_,?_,?_⟩
 ·rw[aj (by omega)];exact h.root
 ·intro j hj
  try dsimp only
  split
  ·omega
  ·exact h.par j hj
 ·intro j hj k hk
  try dsimp only at hk |-
  by_cases hja:(j:Int)=a
  ·rw[au hja]at hk;rcases dS.1 ((hperm _).mem_iff.1 hk)with rfl|hk
   ·exact⟨h1,hn,by rw[au rfl];exact hja.symm⟩
   ·obtain⟨h2,h3,h4⟩:=h.kid j hj k hk;have:k≠n:=λe=>hnot j hj (e▸hk)
    exact⟨h2,h3,by rw[aj this];exact h4⟩
  ·rw[aj hja]at hk;obtain⟨h2,h3,h4⟩:=h.kid j hj k hk;have:k≠n:=λe=>hnot j hj (e▸hk)
   exact⟨h2,h3,by rw[aj this];exact h4⟩
 ·intro j hj h0
  try dsimp only at h0 |-
  by_cases he:(j:Int)=n
  ·rw[au he,au rfl];exact(hperm _).mem_iff.2 (by rw[he];exact dR)
  ·rw[aj he]at h0 |-;have hm:=h.mem j hj h0;split
   ·exact(hperm _).mem_iff.2 (gm _ hm)
   ·exact hm
 ·intro j hj
  try dsimp only
  split
  ·exact(hperm _).nodup_iff.2 (mh.2 ⟨hnot j hj,h.nodup j hj⟩)
  ·exact h.nodup j hj
 ·obtain⟨r,hrk⟩:=h.rank
  classical
  refine⟨λj=>if wm p n j then r j+r a+1 else r j,λj hj h2=> ?_⟩
  try dsimp only at h2 |-
  by_cases he:(j:Int)=n
  ·rw[au he,aj hr,au (by rw[he];exact .here)];omega
  ·rw[aj he]at h2 |-
   have hj0:(0:Int)<j:=by
    rcases Lb j with h0|h0
    ·subst h0;have hroot:=h.root;rw[show((0:Nat):Int)=0 from rfl]at h2;omega
    ·omega
   have hlt:=hrk j hj h2;by_cases hj2:wm p n j
   ·rw[au hj2]
    have:wm p n (p j):=by
     cases hj2 with
     |here=>exact absurd rfl he
     |up _ hh=>exact hh
    rw[au this];omega
   ·rw[aj hj2,aj (λhh=>hj2 (.up hj0 hh))];exact hlt
 ·intro j hj hk
  try dsimp only at hk
  by_cases hja:(j:Int)=a
  ·rw[hja];exact hH
  ·rw[aj hja]at hk;exact h.holds j hj hk
theorem Ti.add {N:Nat} {p q:Int->Int} {K L:Int->List Int} {H G:Int->Bool} (h:Ti N p K H) (hq: ∀i:Nat,i<N->q i=p i) (hL: ∀i:Nat,i<N->L i=K i) (hG: ∀i:Nat,i<N->G i=H i) (hqN:q N= -1) (hLN:L N= []):Ti (N+1) q L G:=by
 have h':=h.congr hq hL hG;refine⟨KY _,h'.root,?_,?_,?_,?_,?_,?_⟩
 ·intro i hi;by_cases he:i=N
  ·subst he;rw[hqN];omega
  ·have:=h'.par i (by omega);omega
 ·intro i hi k hk;by_cases he:i=N
  ·subst he;rw[hLN]at hk;cases hk
  ·have:=h'.kid i (by omega) k hk;exact⟨this.1,by omega,this.2.2⟩
 ·intro i hi h0;by_cases he:i=N
  ·subst he;rw[hqN]at h0;omega
  ·exact h'.mem i (by omega) h0
 ·intro i hi;by_cases he:i=N
  ·subst he;rw[hLN];exact Le
  ·exact h'.nodup i (by omega)
 ·obtain⟨r,hr⟩:=h'.rank;refine⟨r,λi hi h1=> ?_⟩;by_cases he:i=N
  ·subst he;rw[hqN]at h1;omega
  ·exact hr i (by omega) h1
 ·intro i hi hk;by_cases he:i=N
  ·subst he;exact absurd hLN hk
  ·exact h'.holds i (by omega) hk
theorem UJ {p:Int->Int} {n m:Int} (h:wm (λi=>if i=n then -1 else p i) n m):wm p n m:=by
 induction h with
 |here=>exact .here
 | @up m hm _ ih =>
   by_cases he:m=n
   ·rw[he];exact .here
   ·try dsimp only at ih
    rw[aj he]at ih;exact .up hm ih
theorem JV: ∀(N:Nat) (l:List Int),l.Nodup->(∀k∈l,0<=k/\k<N)->l.length<=N
 |0,l,_,h=>by
  cases l with
  |nil=>exact bD _
  |cons a r=>have:=h a dR;omega
 |N+1,l,hd,h=>by
  have h1:=JV N (l.erase (N:Int)) (hd.erase _) (λk hk=>by
   have hk':=(hd.mem_erase_iff).1 hk;have:=h k hk'.2
   omega)
  have:=List.length_erase (a:=(N:Int)) (l:=l);split at this <;>omega
def iK (T:aB) (n:Int) (f:ND->ND):aB:=⟨T.ai.modify n.toNat f,T.gy,T.jV⟩
def iC (l:List Int) (d:ND):ND:= {d with aP:=l}
def fo (p:Int) (d:ND):ND:= {d with parent:=p}
def iQ (s:ae) (d:ND):ND:= {d with aL:=d.aL++s}
def pW (s:ae):ND:=⟨false,0,⟨#[]⟩,[],s, -1,[]⟩
def fQ (aN:Int) (ah:ae) (aA:List dD):ND:=⟨true,aN,ah,aA,⟨#[]⟩, -1,[]⟩
def bL (T:aB) (d:ND):aB:=⟨T.ai++ [d],T.gy,T.jV⟩
def iD (T:aB) (n:Int):aB:=if 0<=aJ T n then iK T (aJ T n) (iC ((aG T (aJ T n)).filter (· !=n)))else T
def bG (T:aB) (n:Int):aB:=iK (iD T n) n (fo (-1))
def eF (T:aB) (a:Int) (i:Nat) (n:Int):aB:=iK (iK T a (iC ((aG T a).take i++n::(aG T a).drop i))) n (fo a)
noncomputable def nu (T:aB) (a b n:Int):Bool:=dw T a&&xF T n&&(b !=n)&&decide (0<=eT T a b)&& !gM T a n
def kr (T:aB) (a b n:Int):aB:=eF (bG T n) a (eT (bG T n) a b).toNat n
theorem acw (T:aB) (n:Int) (f:ND->ND):(iK T n f).gy=T.gy:=rfl
theorem gU (T:aB) (n:Int) (f:ND->ND):(iK T n f).ai.length=T.ai.length:=by simp[iK]
theorem zD (T:aB) (n:Nat) (f:ND->ND) (i:Nat):(iK T n f).ai[i]?=if n=i then T.ai[i]?.map f else T.ai[i]?:=by
 simp only[iK,xg,kg];split <;>simp
theorem RJ (T:aB) (n:Nat) (f:ND->ND) (h:n<T.ai.length):iK T n f=⟨T.ai.set n (f T.ai[n]),T.gy,T.jV⟩:=by
 simp only[iK,kg,aB.mk.injEq,and_true];refine QR λi=> ?_
 simp only[xg,List.getElem?_set];by_cases he:n=i
 ·subst he;simp[h]
 ·simp[he]
theorem aif {T U:aB} (h:U.ai.length=T.ai.length) (n:Int):xF U n=xF T n:=by simp[xF,h]
section
variable (T:aB) (n:Nat) (f:ND->ND)
theorem yh (i:Nat) (hi:i<T.ai.length):aJ (iK T n f) i=if n=i then(f T.ai[i]).parent else aJ T i:=by
 simp only[aJ,kg,zD];split <;>simp[hi]
theorem zI (i:Nat) (hi:i<T.ai.length):aG (iK T n f) i=if n=i then(f T.ai[i]).aP else aG T i:=by
 simp only[aG,kg,zD];split <;>simp[hi]
theorem wT (hf: ∀d,(f d).elem=d.elem) (i:Int):aY (iK T n f) i=aY T i:=by
 simp only[aY,aif (gU T n f),zD];split
 ·rename_i e;cases T.ai[i.toNat]? <;>simp[hf]
 ·rfl
theorem YX (hf: ∀d,(f d).elem=d.elem) (i:Int):dw (iK T n f) i=dw T i:=by simp only[dw,wT T n f hf]
end
theorem vU (T:aB) (n:Nat) (p:Int) (i:Nat) (hi:i<T.ai.length):aG (iK T n (fo p)) i=aG T i:=by
 rw[zI T n _ i hi];split
 ·simp[fo,aG,hi]
 ·rfl
theorem Bl (T:aB) (n:Nat) (l:List Int) (i:Nat) (hi:i<T.ai.length):aJ (iK T n (iC l)) i=aJ T i:=by
 rw[yh T n _ i hi];split
 ·simp[iC,aJ,hi]
 ·rfl
theorem Ou (T:aB) (n:Nat) (s:ae) (i:Nat) (hi:i<T.ai.length):aG (iK T n (iQ s)) i=aG T i:=by
 rw[zI T n _ i hi];split
 ·simp[iQ,aG,hi]
 ·rfl
theorem Kj (T:aB) (n:Nat) (s:ae) (i:Nat) (hi:i<T.ai.length):aJ (iK T n (iQ s)) i=aJ T i:=by
 rw[yh T n _ i hi];split
 ·simp[iQ,aJ,hi]
 ·rfl
theorem yj (T:aB) (n:Int):(iD T n).ai.length=T.ai.length:=by
 unfold iD;split
 ·exact gU _ _ _
 ·rfl
theorem gL (T:aB) (n:Int):(bG T n).ai.length=T.ai.length:=by rw[bG,gU,yj]
theorem XL (T:aB) (n:Int):(bG T n).gy=T.gy:=by
 rw[bG,acw,iD];split <;>rfl
section
variable {T:aB} {n:Nat}
theorem M8 (i:Nat) (hi:i<T.ai.length):aJ (iD T n) i=aJ T i:=by
 unfold iD;split
 ·rename_i h0;obtain⟨m,hm⟩:=bQ h0;rw[hm];exact Bl T m _ i hi
 ·rfl
theorem RS (hw:WF T) (hn:n<T.ai.length) (i:Nat) (hi:i<T.ai.length):aG (iD T n) i=if(i:Int)=aJ T n then(aG T i).filter (· !=(n:Int))else aG T i:=by
 have hp:=(hw.par n hn);unfold iD;split
 ·rename_i h0;obtain⟨m,hm⟩:=bQ h0;rw[hm];rw[zI T m _ i hi];by_cases he:m=i
  ·subst he;rw[au rfl,au rfl];rfl
  ·rw[aj he,aj (by omega)]
 ·rename_i h0;rw[aj (by omega)]
theorem RV (i:Int):aY (iD T n) i=aY T i:=by
 unfold iD;split
 ·rename_i h0;obtain⟨m,hm⟩:=bQ h0;rw[hm];exact wT T m (iC _) (λ_=>rfl) i
 ·rfl
theorem sW (i:Nat) (hi:i<T.ai.length):aJ (bG T n) i=if(i:Int)=(n:Int)then -1 else aJ T i:=by
 rw[bG,yh _ n _ i (by rw[yj];exact hi)];by_cases he:n=i
 ·rw[au he,au (by omega)];rfl
 ·rw[aj he,aj (by omega)];exact M8 i hi
theorem Ak (hw:WF T) (hn:n<T.ai.length) (i:Nat) (hi:i<T.ai.length):aG (bG T n) i=if(i:Int)=aJ T n then(aG T i).filter (· !=(n:Int))else aG T i:=by
 rw[bG,vU _ n _ i (by rw[yj];exact hi)];exact RS hw hn i hi
theorem XN (i:Int):aY (bG T n) i=aY T i:=by
 rw[bG,wT _ n (fo (-1)) (λ_=>rfl) i,RV]
theorem JQ (i:Int):dw (bG T n) i=dw T i:=by rw[dw,dw,XN]
theorem LM (hw:WF T) (hn:n<T.ai.length) (h1:1<=n):WF (bG T n):=by
 refine Ti.wf ?_;rw[gL];refine(hw.view.take (n:=(n:Int)) (by omega)).congr sW (Ak hw hn) λi _=>JQ i
end
theorem nN (T:aB) (a n:Int) (i:Nat):(eF T a i n).ai.length=T.ai.length:=by rw[eF,gU,gU]
theorem R6 (T:aB) (a n:Int) (i:Nat):(eF T a i n).gy=T.gy:=rfl
theorem xG (T:aB) (a n i:Nat) (j:Nat) (hj:j<T.ai.length):aJ (eF T a i n) j=if(j:Int)=(n:Int)then(a:Int)else aJ T j:=by
 rw[eF,yh _ n _ j (by rw[gU];exact hj)];by_cases he:n=j
 ·rw[au he,au (by omega)];rfl
 ·rw[aj he,aj (by omega)];exact Bl T a _ j hj
theorem AJ (T:aB) (a n i:Nat) (j:Nat) (hj:j<T.ai.length):aG (eF T a i n) j=if(j:Int)=(a:Int)then(aG T j).take i++(n:Int)::(aG T j).drop i else aG T j:=by
 rw[eF,vU _ n _ j (by rw[gU];exact hj),zI T a _ j hj];by_cases he:a=j
 ·subst he;rw[au rfl,au rfl];rfl
 ·rw[aj he,aj (by omega)]
theorem R7 (T:aB) (a n i:Nat) (j:Int):aY (eF T a i n) j=aY T j:=by
 rw[eF,wT _ n (fo a) (λ_=>rfl),wT _ a (iC _) (λ_=>rfl)]
theorem Ow (T:aB) (a n i:Nat) (j:Int):dw (eF T a i n) j=dw T j:=by rw[dw,dw,R7]
theorem E8 {T:aB} (hw:WF T) {a n i:Nat} (h1:1<=n) (hn:n<T.ai.length) (ha:a<T.ai.length) (hH:dw T a=true) (hp:aJ T n= -1) (hr: ¬Reach T n a):WF (eF T a i n):=by
 refine Ti.wf ?_;rw[nN]
 exact(hw.view.insert (n:=(n:Int)) (a:=(a:Int)) (i:=i) (by omega) (by omega) (by omega) (by omega) hH hp (λh=>hr (Ye.2 h))).congr
  (xG T a n i) (AJ T a n i) (λj _=>Ow T a n i j)
theorem jU {T:aB} (hp:0<T.ai.length) {a:Int} (h:dw T a=true):0<=a/\a<T.ai.length:=by
 simp only[dw,jD,cO,aY,cz,xF,mX]at h;omega
theorem Cn {T:aB} {a:Int} (h:xF T a=true):1<=a/\a<T.ai.length:=by
 simpa[xF] using h
theorem SV {T:aB} {n top:Int} (h:gM T n top=false): ¬Reach T top n:=by
 simpa[ky] using h
theorem Yd {T:aB} (hw:WF T) {n a:Nat} (ha:a<T.ai.length) (h:Reach (bG T n) n a):Reach T n a:=by
 rw[Ye]at h |-;refine UJ ?_
 --the views agree on all that can be reached
 have key: ∀m:Int,wm (aJ (bG T n)) n m->m<T.ai.length->wm (λi=>if i=(n:Int)then -1 else aJ T i) n m:=by
  intro m hm
  induction hm with
  |here=>exact λ_=> .here
  | @up m h0 _ ih =>
    intro hlt;obtain⟨k,rfl⟩:=bQ (by omega:0<=m);have e:=sW (T:=T) (n:=n) k (by omega);refine .up h0 ?_;rw[e]at ih;refine ih ?_;split
    ·omega
    ·exact(hw.par k (by omega)).2
 exact key a h (by omega)
theorem aah {T:aB} (hw:WF T) {a b n:Int} (h:nu T a b n=true):WF (kr T a b n):=by
 simp only[nu,cz,Af]at h;obtain⟨⟨⟨⟨h1,h2⟩,_⟩,_⟩,h5⟩:=h;have ha:=jU hw.pos h1;have hn:=Cn h2;obtain⟨a,rfl⟩:=bQ ha.1;obtain⟨n,rfl⟩:=bQ (by omega:0<=n);have hn':n<T.ai.length:=by omega
 refine E8 (LM hw hn' (by omega)) (by omega) (by rw[gL];exact hn') (by rw[gL];omega) (by rw[JQ];exact h1) ?_ λhh=>SV h5 (Yd hw (by omega) hh)
 rw[sW n hn',au rfl]
theorem qa (T:aB) (a b n:Int):(kr T a b n).ai.length=T.ai.length:=by rw[kr,nN,gL]
theorem IQ (T:aB) (a b n:Int):(kr T a b n).gy=T.gy:=by rw[kr,R6,XL]
theorem yw (T:aB) (d:ND) (i:Nat) (hi:i<T.ai.length):aJ (bL T d) i=aJ T i:=by simp[bL,aJ,vN hi]
theorem wU (T:aB) (d:ND) (i:Nat) (hi:i<T.ai.length):aG (bL T d) i=aG T i:=by simp[bL,aG,vN hi]
theorem DI (T:aB) (d:ND) (i:Nat) (hi:i<T.ai.length):aY (bL T d) i=aY T i:=by
 have h1:xF (bL T d) i=xF T i:=by
  simp only[xF,bL,fC,sS];congr 1;simp only[pJ];omega
 rw[aY,aY,h1];simp[bL,vN hi]
theorem Be (T:aB) (d:ND) (i:Nat) (hi:i<T.ai.length):dw (bL T d) i=dw T i:=by rw[dw,dw,DI T d i hi]
theorem Bd {T:aB} (hw:WF T) (d:ND) (hp:d.parent= -1) (hk:d.aP= []):WF (bL T d):=by
 refine Ti.wf ?_;have:(bL T d).ai.length=T.ai.length+1:=by simp[bL]
 rw[this];exact hw.view.add (yw T d) (wU T d) (Be T d) (by simp[bL,aJ,hp]) (by simp[bL,aG,hk])
theorem NW {T:aB} (hw:WF T) (k:Nat) (s:ae):WF (iK T k (iQ s)):=by
 refine Ti.wf ?_;rw[gU];exact hw.view.congr (Kj T k s) (Ou T k s) λi _=>YX T k (iQ s) (λ_=>rfl) i
theorem rQ {T:aB} (hw:WF T) (i:Nat) (hi:i<T.ai.length):(aG T i).length<=T.ai.length :=
 JV _ _ (hw.nodup i hi) λk hk=>by
  have:=hw.kid i hi k hk;omega
theorem aik: ∀(l:List Int) (x z:Int),0<=z-> -1<=xJ l x z
 | [],_,_,_=>by simp[xJ]
 |y::r,x,z,hz=>by
  unfold xJ;split
  ·omega
  ·exact aik r x (z+1) (by omega)
theorem aaO: ∀(l:List Int) (x z:Int),0<=z->xJ l x z<=z+l.length
 | [],_,_,_=>by simp only[xJ,kQ];omega
 |y::r,x,z,hz=>by
  unfold xJ;split
  ·simp only[dB];omega
  ·have:=aaO r x (z+1) (by omega);simp only[dB];omega
theorem xI: ∀(l:List Int) (x:Int) (z:Nat),x∈l-> ∃k:Nat,k<l.length/\xJ l x z=((z+k:Nat):Int)/\l[k]?=some x/\x∉l.take k
 | [],_,_,h=>by cases h
 |y::r,x,z,h=>by
  unfold xJ;by_cases he:y=x
  ·rw[au he];exact⟨0,by simp,by simp,by simp[he],by simp⟩
  ·rw[aj he];obtain⟨k,h1,h2,h3,h4⟩:=xI r x (z+1) ((dS.1 h).resolve_left λe=>he e.symm);refine⟨k+1,by simpa using h1,?_,by simpa using h3,?_⟩
   ·rw[show((z:Int)+1)=((z+1:Nat):Int)from by omega,h2];omega
   ·simp only[Lc,dS,not_or];exact⟨λe=>he e.symm,h4⟩
theorem Ji (l:List Int) (x:Int) (k:Nat) (hd:l.Nodup) (hk:l[k]?=some x):l.filter (· !=x)=l.take k++l.drop (k+1):=by
 obtain⟨hlt,he⟩:=En.1 hk
 have hsplit:l=l.take k++x::l.drop (k+1):=by
  rw[<-he,List.getElem_cons_drop hlt,nQ]
 have hd2:(l.take k++x::l.drop (k+1)).Nodup:=hsplit▸hd;rw[oK]at hd2;obtain⟨_,h2,h3⟩:=hd2;rw[mh]at h2
 conv=>lhs;rw[hsplit]
 rw[IA,Iy (by simp)];congr 1
 ·exact Eo.2 λa ha=>by simpa using h3 a ha x dR
 ·exact Eo.2 λa ha=>by
   have:a≠x:=λe=>h2.1 (e▸ha)
   simpa using this
end Go.Proofs.YtnlbcifhedjbfaaGreatDoor
namespace Go.Proofs.YtnlbcifhedjbfaaGreatDoor
open Go Go.RowKit Mem
theorem bX {P:Program} {id:Nat} {Q:Exit->Act->af->Prop} {a:Act} {w:af} {l:List Oper} (hm:P.follows .mixedOrders=true) (hB:Region.lexB .any l.toArray=true)
 (h:wpQuiet P l.toArray (λw'=>Hid (Below w.heap.size w w')) (λa'=> ∀w',Hid (Below w.heap.size w w')->Q .normal a' w') l a):(Code.region id l.toArray true).wp P Q a w :=
 wp_region_quiet (C:=λw'=>Hid (Below w.heap.size w w')) hm hB (hd' (aQ _ w).drew) (by simpa using h)
theorem Jq {P:Program} {ops:Array Oper} {o:Oper} {a:Act} {C:af->Prop} {K:Act->Prop} (hw:Region.wanted o (yielded ops a.tmps)=false) (h:K (a.put o.dst undef)) :
 if Region.wanted o (yielded ops a.tmps)then o.quiet P a C K else K (a.put o.dst undef):=by
 rw[aj (by rw[hw];decide)];exact h
theorem gK {P:Program} {ops:Array Oper} {o:Oper} {a:Act} {C:af->Prop} {K:Act->Prop} {v:ak} (hw:Region.wanted o (yielded ops a.tmps)=true) (h: ∀w,C w->o.quietAt P a C w v) (hk:K (a.put o.dst v)) :
 if Region.wanted o (yielded ops a.tmps)then o.quiet P a C K else K (a.put o.dst undef):=by
 rw[au hw];exact⟨v,h,hk⟩
end Go.Proofs.YtnlbcifhedjbfaaGreatDoor
end
section
namespace Go.Proofs.YtnlbcifhedjbfaaGreatDoor
open Go.RowKit Mem
def DJ (T:aB) (n:Int):List ax:=((T.ai[n.toNat]?).map λd=>d.aL.toList).getD []
section
variable {K K':Int->List Int} {X X':Int->List ax} {A B ks D D' D1 D2 L R l m:List Int} {s s' s1 s2 e:List ax} {n k t x:Int}
theorem Fh {l:List Int} (h:x∉l):l.filter (· !=x)=l:=Eo.2 λy hy=>jJ.2 λe=>h (e▸hy)
end
end Go.Proofs.YtnlbcifhedjbfaaGreatDoor
end
