/- oZ joined for a claim: FmA, FmB, awJ: plain laws and contracts. No conditions beyond those that each lemma types. -/
import Derived.Test.YtnlbcifhedjbfaaGreatDoorU04
import Derived.Deep.Cut
import Derived.Deep.CutRange
import Derived.Test.YtnlbcifhedjbfaaGreatDoorU01
import Derived.BigQuiet
import Derived.Deep.QuietTactic
import Derived.Deep.RegionWith
import Derived.Test.YtnlbcifhedjbfaaGreatDoorRows
set_option linter.unusedVariables false
set_option linter.unusedSimpArgs false
set_option maxRecDepth 100000
set_option maxHeartbeats 8000000
open Go.Proofs.Tryz
section
namespace Go.Proofs.YtnlbcifhedjbfaaGreatDoor
open Go.RowKit Mem
def vH (w:af) (lb tb sb:Nat) (ge:Option Nat) (l:List Int) (on:Bool):Prop :=
 ∃v,w.heap[lb]?=some (.cells #[.pointer (some ⟨tb,0,none⟩),.pointer (some ⟨sb,0,none⟩),v,.bool on] 90 (0,0))/\JC w v ge l/\ge≠some lb
section
variable {w w':af} {lb tb sb:Nat} {ge:Option Nat} {l:List Int} {on:Bool}
theorem vH.lt (h:vH w lb tb sb ge l on): ∀k,SB lb ge k->k<w.heap.size:=by
 obtain⟨v,h1,h2,_⟩:=h;rintro k (rfl|hk)
 ·exact fZ h1
 ·exact h2.lt k hk
theorem vH.kept {F:Nat->Prop} (h:vH w lb tb sb ge l on) (hk:az F w w') (hF: ∀k,SB lb ge k-> ¬F k):vH w' lb tb sb ge l on:=by
 have hlt:=h.lt;obtain⟨v,h1,h2,h3⟩:=h;exact⟨v,(hk.block lb (hlt lb (.inl rfl)) (hF lb (.inl rfl))).trans h1,h2.kept λk hk'=>hk.block k (hlt k (.inr hk')) (hF k (.inr hk')),h3⟩
theorem vH.below (h:vH w lb tb sb ge l on) (hb:Below w.heap.size w w'):vH w' lb tb sb ge l on:=h.kept (F:=λ_=>False) (az.bC hb) λ_ _ h=>h
theorem vH.cells (h:vH w lb tb sb ge l on): ∃a c,w.cell? ⟨lb,0,none⟩=some (.pointer (some ⟨tb,0,none⟩))/\w.cell? ⟨lb,1,none⟩=some (.pointer (some ⟨sb,0,none⟩))/\w.cell? ⟨lb,2,none⟩=some (.slice a l.length c)/\w.cell? ⟨lb,3,none⟩=some (.bool on) /\
 At w a (bB l)/\JC w (.slice a l.length c) ge l/\w.frozen? ⟨lb,2,none⟩=false/\w.frozen? ⟨lb,3,none⟩=false /\
 w.heap[lb]?=some (.cells #[.pointer (some ⟨tb,0,none⟩),.pointer (some ⟨sb,0,none⟩),.slice a l.length c,.bool on] 90 (0,0))/\(a=none->c=0)/\ge≠some lb:=by
 obtain⟨v,h1,h2,h3⟩:=h;obtain⟨a,c,rfl,hat,hn⟩:=oz h2.1;have hr:Row w lb [.pointer (some ⟨tb,0,none⟩),.pointer (some ⟨sb,0,none⟩),.slice a l.length c,.bool on]:=⟨_,_,_,_,h1,rfl,.inr rfl⟩;exact⟨a,c,hr.cell (j:=0) rfl,hr.cell (j:=1) rfl,hr.cell (j:=2) rfl,hr.cell (j:=3) rfl,hat,h2,hr.frozen (j:=2) (by simp),hr.frozen (j:=3) (by simp),h1,hn,h3⟩
end
section
variable (w:af) (lb tb sb:Nat) (ge:Option Nat) (l:List Int) (on:Bool)
theorem ah4:Calls prog 21 #[.pointer (some ⟨tb,0,none⟩),.pointer (some ⟨sb,0,none⟩)] w λe w'=>e= .returned (.pointer (some ⟨w.heap.size,0,none⟩))/\vH w' w.heap.size tb sb none [] false/\Below w.heap.size w w'/\w.heap.size<w'.heap.size:=by
 go_enter func21,ntmps21
 go_wp2
 go_ret;exact⟨rfl,⟨.slice none 0 0,eU _ _,JC.nil _,by simp⟩,(aQ _ _).alloc (ay _) _,by simp⟩
theorem aff (h:vH w lb tb sb ge l on) (n:Int) (hl:l.length<=1048576):Calls prog 201 #[.pointer (some ⟨lb,0,none⟩),.int .i64 n] w λe w'=>e= .returned (.int .i64 (aT l n))/\w=w':=by
 obtain⟨a,c,_,_,c1,_,hat,_⟩:=h.cells;have HA:=hd' hat;clear h hat;go_enter func201,ntmps201
 go_wp2_with fail
 go_loop [5] (λq=> ∃k:Nat,k<=l.length/\q= .int .i64 ((k:Int)-1)/\ ∀(j:Nat) (h:j<l.length),k<=j->l[j]≠n) (λq=>(intOf q+1).toNat)
 case atStart=>exact⟨l.length,ay _,rfl,λj h h'=>absurd h (by omega)⟩
 case round =>
  obtain⟨k,hk,rfl,hno⟩:=hrel;have HN:=hd' hno;clear hno;cases k with
  |zero =>
   have HR:Hid (aT l n= -1):=hd' (vk (by omega) (by omega) (λj h _=>HN.o' j h (by omega)) (λj h e=>absurd e (by omega)));go_wp2_with fail
   go_ret;exact⟨iN (by rw[HR.o'] <;>rfl),rfl⟩
  |succ k =>
   obtain⟨bb,o,rfl⟩:=HA.o'.tq (by intro h;have:=aW List.length h;rw[eu,kQ]at this;omega);have hx:=HA.o'.get (fw l k (by omega));have e1:((k+1:Nat):Int)-1=(k:Int):=by omega
   rw[e1];by_cases hq:l[k]=n
   ·have HR:Hid (aT l n=k):=hd' (vk (by omega) (by omega) (λj h hj=>HN.o' j h (by omega)) (λj h e=>(by obtain rfl:k=j:=(by omega);exact hq)));have q0:(l[k]==n)=true:=by rw[cO];exact hq
    have HQ:=hd' hq;clear hq;go_wp2_with fail
    go_ret;exact⟨iN (by rw[HR.o']),rfl⟩
   ·have q0:(l[k]==n)=false:=by rw[aV];exact hq
    have HQ:=hd' hq;clear hq;go_wp2_with fail
    go_round
    case rel=>exact⟨k,by omega,by go_num,λj h hj=>if h':k<j then HN.o' j h h' else(by obtain rfl:k=j:=(by omega);exact HQ.o')⟩
    case measure=>simp[intOf]
theorem afe (h:vH w lb tb sb ge l on) (hl:l.length<=1048576):Calls prog 171 #[.pointer (some ⟨lb,0,none⟩)] w λe w'=>e= .returned (.int .i64 (aT l (-1)+1))/\w=w':=by
 obtain⟨a,c,_,_,c1,_,hat,_⟩:=h.cells;have HA:=hd' hat;clear h hat;obtain⟨n,hn⟩: ∃n:Int,n= -1:=⟨_,rfl⟩;rw[<-hn];have HNN:=hd' hn;go_enter func171,ntmps171
 rw[<-hn];clear hn;go_wp2_with fail
 go_loop [3] (λq=> ∃k:Nat,k<=l.length/\q= .int .i64 ((k:Int)-1)/\ ∀(j:Nat) (h:j<l.length),k<=j->l[j]≠n) (λq=>(intOf q+1).toNat)
 case atStart=>exact⟨l.length,ay _,rfl,λj h h'=>absurd h (by omega)⟩
 case round =>
  obtain⟨k,hk,rfl,hno⟩:=hrel;have HN:=hd' hno;clear hno;cases k with
  |zero =>
   have HR:Hid (aT l n= -1):=hd' (vk (by omega) (by omega) (λj h _=>HN.o' j h (by omega)) (λj h e=>absurd e (by omega)));go_wp2_with fail
   go_ret;exact⟨iN (by rw[HR.o'] <;>rfl),rfl⟩
  |succ k =>
   obtain⟨bb,o,rfl⟩:=HA.o'.tq (by intro h;have:=aW List.length h;rw[eu,kQ]at this;omega);have hx:=HA.o'.get (fw l k (by omega));have e1:((k+1:Nat):Int)-1=(k:Int):=by omega
   rw[e1];by_cases hq:l[k]=n
   ·have HR:Hid (aT l n=k):=hd' (vk (by omega) (by omega) (λj h hj=>HN.o' j h (by omega)) (λj h e=>(by obtain rfl:k=j:=(by omega);exact hq)));have q0:(l[k]==n)=true:=by rw[cO];exact hq
    have HQ:=hd' hq;clear hq;go_wp2_with fail
    go_ret;exact⟨iN (by rw[HR.o']),rfl⟩
   ·have q0:(l[k]==n)=false:=by rw[aV];exact hq
    have HQ:=hd' hq;clear hq;go_wp2_with fail
    go_round
    case rel=>exact⟨k,by omega,by go_num,λj h hj=>if h':k<j then HN.o' j h h' else(by obtain rfl:k=j:=(by omega);exact HQ.o')⟩
    case measure=>simp[intOf]
theorem aaB (h:vH w lb tb sb ge l on) (hl:l.length<=1048576):Calls prog 215 #[.pointer (some ⟨lb,0,none⟩)] w λe w'=> ∃v,e= .returned v/\w'.ownsRow w.heap.size 3 1 v l.length (bB l)/\Below w.heap.size w w':=by
 have hlt:=h.lt lb (.inl rfl);obtain⟨a,c,_,_,c1,_,hat,hown,_,_,_,hc0,_⟩:=h.cells;have HK:=hd' (hat.below ((aQ _ _).alloc (ay _) (.cells #[] 3)));have HE:Hid ((w.alloc (.cells #[] 3)).ownsRow w.heap.size 3 1 (.slice (some ⟨w.heap.size,0,none⟩) 0 0) 0 []):=oI w #[] 0 (ay _) (bD _) rfl;have H3:=hd' hc0;obtain⟨i0,hi,hz0,hz1,hz2⟩:=lY CZ;have b0:0+l.length<=maxLen:=by unfold maxLen;omega
 have b1:(0+l.length)*8<=140737488355328:=by omega
 have W9:=hd' (show(bB l).length=l.length*1 by rw[eu,Eg]);have HZ:Hid (w.heap.size<=(w.alloc (.cells #[] 3)).heap.size):=by show _<=_;simp
 clear h hat hown hc0;go_enter func215,ntmps215
 go_wp2_with (at_builtin;refine kz _ rfl _ _ 65 rfl w.heap.size 3 i0 _ 1 8 oJ hi hz0 hz1 hz2 rfl (by decide) _ 0 [] rfl HE.o' a l.length c (bB l) rfl W9.o' H3.o' HK.o' (jl l) b0 b1 HZ.o' ?_;intro v2 w2 hown2 mU;simp only[iM,jZ]at hown2;have OJ:=hd' hown2;have HG2:=hd' mU;clear hown2 mU)
 go_ret;exact⟨_,rfl,OJ.o',((aQ _ _).alloc (ay _) _).grown HG2.o' HZ.o' (λb h=>(HE.o'.lt b h).1)⟩
end
section
variable {w:af} {base:Nat} {e:TypeId} {g n cap:Nat}
theorem lQ: ∀(vs:List ak) (o:Nat) (w:af) (xs:List ak),w.ownsRow base e 1 (.slice (some ⟨g,0,none⟩) n cap) n xs->o+vs.length<=n ->
 (w.setCells g o vs).ownsRow base e 1 (.slice (some ⟨g,0,none⟩) n cap) n (xs.take o++vs++xs.drop (o+vs.length))/\az (· =g) w (w.setCells g o vs)
 | [],o,w,xs,h,_=>by simpa[World.setCells] using ⟨h,az.refl _ _⟩
 |v::r,o,w,xs,h,hn=>by
  have hl:xs.length=n:=by have:=h.1;omega
  have h1:=(h.stored o v).1;simp only[dB]at hn;obtain⟨h2,h3⟩:=lQ r (o+1) _ _ h1 (by omega);refine⟨?_,((az.refl (· =g) w).set (p:=⟨g,o,none⟩) (.inl rfl) v).trans h3⟩;rw[World.setCells]
  have e1:(xs.set o v).take (o+1)=xs.take o++ [v]:=by
   rw[List.take_set,jL (by omega),Ei _ _ (by rw[fV];omega)];have:o-(List.take o xs).length=0:=by rw[fV];omega
   rw[this];rfl
  have e2:(xs.set o v).drop (o+1+r.length)=xs.drop (o+(r.length+1)):=by
   rw[List.drop_set_of_lt (by omega)];congr 1;omega
  rw[e1,e2]at h2;simpa using h2
end
theorem VB (F:Nat->Prop) (w:af) (q:Nat):az F w (w.drewN q):=az.bC (fM w q)
theorem own_drewN {w:af} {base:Nat} {e:TypeId} {size:Nat} {v:ak} {n:Nat} {xs:List ak} (h:w.ownsRow base e size v n xs) (q:Nat):(w.drewN q).ownsRow base e size v n xs:=gH h λ_ _=>rfl
theorem ab' {w:af} {base:Nat} {e:TypeId} {a:Option Addr} {n c k:Nat} {xs:List ak} (h:w.ownsRow base e 1 (.slice a n c) n xs) (hk:k<=n):w.ownsRow base e 1 (.slice a k c) k (xs.take k):=by
 rcases h.2 with⟨he,h0⟩|⟨g,cap,di,he,hbg,hg,hnc,hcm,hcs,htake⟩
 ·obtain rfl:k=0:=by omega
  have:=h.1;injection he with e1 e2 e3;subst e1 e3;exact⟨by simp,.inl ⟨rfl,rfl⟩⟩
 ·injection he with e1 _ e3;subst e1 e3;have hl:=h.1;refine⟨by rw[fV];omega,.inr ⟨g,c,di,rfl,hbg,hg,by omega,hcm,hcs,?_⟩⟩;rw[<-htake,QL,rE (by omega),Eg]
theorem aeK {w:af} {base:Nat} {g n c:Nat} {l:List Int} (h:w.ownsRow base 3 1 (.slice (some ⟨g,0,none⟩) n c) n (bB l)):l.length=n/\(∀j,j<l.length->w.cell? ⟨g,0+j,none⟩=some (.int .i64 (l.getD j 0)))/\ ∀j,w.frozen? ⟨g,j,none⟩=false:=by
 have hl:l.length=n:=by have:=h.1;rw[eu]at this;omega
 refine⟨hl,λj hj=> ?_,h.frozenAt⟩;have:=(jh h).cell (fw l j hj);rw[iM,this];simp[List.getD,mi hj]
theorem aa1 (w:af) (base g c i:Nat) (l:List Int) (h:w.ownsRow base 3 1 (.slice (some ⟨g,0,none⟩) l.length c) l.length (bB l)) (hi:i<l.length) :
 Calls prog 153 #[.slice (some ⟨g,0,none⟩) l.length c,.int .i64 i,.int .i64 (i+1)] w λe w' =>
  e= .returned (.slice (some ⟨g,0,none⟩) (l.length-1) c)/\w'.ownsRow base 3 1 (.slice (some ⟨g,0,none⟩) (l.length-1) c) (l.length-1) (bB (l.eraseIdx i))/\az (· =g) w w':=by
 obtain⟨_,hc,hf⟩:=aeK h;obtain⟨_,cc,hv,k1,k2,_⟩:=fJ h;injection hv with _ _ e3;subst e3;unfold maxLen at k2;refine(Any.slices_Delete_int_cells aft g 0 l.length c i (i+1) l w (ay _) k1 k2 (by omega) (by omega) hc (λj _=>by rw[iM];exact hf j)).mono ?_;rintro e w' ⟨he,q,rfl⟩;have h1:i+1-i=1:=by omega
 rw[h1]at he |-;rw[iH (ay _)];refine⟨he,?_,?_⟩
 ·have h2:=(lQ (((l.take i++l.drop (i+1))++List.replicate 1 0).map (Value.int .i64)) 0 (w.drewN q) _ (own_drewN h q) (by simp;omega)).1;have h3:=ab' h2 (k:=l.length-1) (by omega);have h4:(bB (l.eraseIdx i)).length=l.length-1:=by rw[eu,Iu];simp[hi]
  have e4:List.take (l.length-1) (List.take 0 (bB l)++List.map (Value.int IntKind.i64) ((l.take i++l.drop (i+1))++List.replicate 1 0)++List.drop (0+(List.map (Value.int IntKind.i64) ((l.take i++l.drop (i+1))++List.replicate 1 0)).length) (bB l))=bB (l.eraseIdx i):=by
   rw[List.eraseIdx_eq_take_drop_succ]at h4 |-;rw[List.take_zero,jZ,Lf,vP];exact Eh h4
  rw[e4]at h3;exact h3
 ·exact(VB _ w q).trans (lQ _ 0 (w.drewN q) _ (own_drewN h q) (by simp;omega)).2
theorem U1 {w:af} {base:Nat} {e:TypeId} {g n c:Nat} {xs:List ak} (h:w.ownsRow base e 1 (.slice (some ⟨g,0,none⟩) n c) n xs) (hc:n+1<=c): ∃y,w.ownsRow base e 1 (.slice (some ⟨g,0,none⟩) (n+1) c) (n+1) (xs++ [y]):=by
 rcases h.2 with⟨he,_⟩|⟨g',cap,di,he,hbg,hg,hnc,hcm,hcs,htake⟩
 ·cases he
 ·injection he with e1 _ e3;injection e1 with e1;injection e1 with e1;subst e1 e3;have hlt:n<di.toList.length:=by rw[IC];omega
  refine⟨di.toList[n],by simp[h.1],.inr ⟨g,c,di,rfl,hbg,hg,hc,hcm,hcs,?_⟩⟩;rw[Eg]at htake |-;rw[jL hlt,htake]
theorem aan (w:af) (base n:Nat) (e:TypeId) (A:Array ak) (hb:base<=w.heap.size) (hn:n<=A.size) (hm:A.size<=maxLen):(w.alloc (.cells A e)).ownsRow base e 1 (.slice (some ⟨w.heap.size,0,none⟩) n A.size) n (A.toList.take n) :=
 ⟨by rw[fV,IC];omega,.inr ⟨w.heap.size,A.size,A,rfl,hb,eU _ _,hn,hm,by omega,by rw[Eg]⟩⟩
def qd (l:List Int) (i:Nat) (x:Int):List Int:=l.take i++x::l.drop i
theorem Dr (l:List Int) (i:Nat) (x:Int) (h:i<=l.length):(qd l i x).length=l.length+1:=by simp[qd];omega
theorem YQ (l:List Int) (k:Nat):bB (l.take k)=(bB l).take k:=by simp[bB,List.map_take]
theorem YR (l:List Int) (k:Nat):bB (l.drop k)=(bB l).drop k:=by simp[bB,List.map_drop]
theorem aaL (w:af) (base:Nat) (a:Option Addr) (c i:Nat) (l:List Int) (x:Int) (vb:Nat) (h:w.ownsRow base 3 1 (.slice a l.length c) l.length (bB l)) (hi:i<=l.length) (hbase:base<=w.heap.size) (hl:l.length<=1048576)
 (hv:w.heap[vb]?=some (.cells #[.int .i64 x] 3 (0,0))) (hne: ∀k,(Value.slice a l.length c).ownBlock=some k->vb≠k) :
 Calls prog 229 #[.slice a l.length c,.int .i64 i,.slice (some ⟨vb,0,none⟩) 1 1] w λe w' =>
  ∃v',e= .returned v'/\w'.ownsRow base 3 1 v' (l.length+1) (bB (qd l i x))/\az (λk=>(Value.slice a l.length c).ownBlock=some k) w w'/\(∀k,v'.ownBlock=some k->(Value.slice a l.length c).ownBlock=some k\/w.heap.size<=k):=by
 have hvs: ∀j v,[Value.int .i64 x][j]?=some v->w.cell? ⟨vb,0+j,none⟩=some v:=by
  intro j v hj;rw[iM,lF w vb j _ _ _ hv];simpa using hj
 have h1v: ∀v∈ [Value.int .i64 x],v.oneCell'=true:=by simp[Value.oneCell']
 have hins:bB (qd l i x)=(bB l).take i++Value.int .i64 x::(bB l).drop i:=by
  rw[qd,jI,YQ];show _++(Value.int .i64 x::bB (l.drop i))=_;rw[YR]
 have hxl:(bB l).length=l.length:=eu l;rw[hins];have hm1:l.length+1<=maxLen:=by unfold maxLen;omega
 have hb1:(l.length+1)*8<=140737488355328:=by omega
 by_cases hin:i<l.length
 ·obtain⟨g,cap,he,_,hnc,hcm⟩:=qW h (by omega);injection he with e1 _ e3;subst e1;subst e3;have hcs: ∀j v,(bB l)[j]?=some v->w.cell? ⟨g,0+j,none⟩=some v:=λj v hj=>by rw[iM];exact(jh h).cell hj
  by_cases hroom:l.length+1<=c
  ·obtain⟨y,hy⟩:=U1 h hroom
   have hcells: ∀j,j<l.length+1->(w.cell? ⟨g,0+j,none⟩).isSome=true:=λj hj=>by
    have hjl:j<(bB l++ [y]).length:=by simp[hxl];omega
    rw[iM,(jh hy).cell (mi hjl)];rfl
   have hvb:vb≠g:=hne g rfl;rcases h.2 with⟨he,_⟩|⟨g',cap',di,he,_,hg,_,_,hcsz,_⟩
   ·cases he
   injection he with e1 _ e3;injection e1 with e1;injection e1 with e1;subst e1 e3;unfold maxLen at hcm
   have hr:=Any2.slices_Insert_int_shift Dp g 0 l.length c i vb 0 1 1 (bB l) [.int .i64 x] w hin (by omega) hroom hcm hvb hxl rfl hcs hcells (λj _=>by rw[iM];exact h.frozenAt j) hvs (jl l) h1v
    3 3 1 c (by simp[World.shape?,hv]) (by simp[World.shape?,hg,hcsz]) (by omega) (vK _ _ _ _ _ hv) (vK _ _ _ _ _ hv)
   refine hr.mono ?_;rintro e w' ⟨he,rfl⟩;obtain⟨h2,k2⟩:=lQ ((bB l).drop i) (0+(i+1)) w.drew _ (own_drewN hy 1) (by rw[dN,hxl];omega);obtain⟨h3,k3⟩:=lQ [.int .i64 x] (0+i) _ _ h2 (by simp;omega);refine⟨_,he,?_,(((az.refl (· =g) w).drew.trans k2).trans k3).mono (λk _ hk=>by rw[hk];rfl),λk hk=> .inl hk⟩
   have e1:(List.take (0+i) (List.take (0+(i+1)) (bB l++ [y])++(bB l).drop i++List.drop (0+(i+1)+((bB l).drop i).length) (bB l++ [y]))++ [Value.int .i64 x] ++
    List.drop (0+i+1) (List.take (0+(i+1)) (bB l++ [y])++(bB l).drop i++List.drop (0+(i+1)+((bB l).drop i).length) (bB l++ [y])))=(bB l).take i++Value.int .i64 x::(bB l).drop i:=by
    have t1:List.take (i+1) (bB l++ [y])=(bB l).take (i+1):=List.take_append_of_le_length (by omega);have t2:List.drop (i+1+((bB l).drop i).length) (bB l++ [y])= []:=iZ (by rw[dN,fC,hxl];simp;omega);simp only[iM];rw[t1,t2,kI];have t3:((bB l).take (i+1)).length=i+1:=by rw[fV,hxl];omega
    rw[List.take_append_of_le_length (by omega),QL,rE (by omega),List.drop_left' t3];simp
   rw[show(0+i+ [Value.int IntKind.i64 x].length)=0+i+1 from rfl,e1]at h3;exact h3
  ·have hr:=Any2.slices_Insert_int_grow Dp g 0 l.length c i vb 0 1 1 (bB l) [.int .i64 x] w hin (by omega) hnc (by omega) hb1 hxl rfl hcs hvs (jl l) h1v;refine hr.mono ?_;rintro e w' ⟨he,rfl⟩;have hge:=grownCap_ge w (l.length+1) c 3;have hle:=grownCap_le_maxLen w (l.length+1) c 3 hm1;have hz:(Value.int .i64 0).cells.size=1:=rfl;obtain⟨A,hA⟩: ∃A,A=((bB l).take i).toArray++Builtin.zeroCells (Value.int .i64 0).cells (l.length+1-i)++Builtin.zeroCells (Value.int .i64 0).cells (grownCap w (l.length+1) c 3-(l.length+1)):=⟨_,rfl⟩
   have hsz:A.size=grownCap w (l.length+1) c 3:=by
    rw[hA];simp only[Array.size_append,size_zeroCells,hz,List.size_toArray,fV,hxl];omega
   have hA':C9.t 3=3:=rfl;rw[hA']at he |-;rw[<-hA];rw[<-hsz]at he hge hle
   have hi0:(A.toList.take (l.length+1)).take i=(bB l).take i:=by
    rw[QL,rE (by omega),hA];simp only[IB,vP];exact Eh (by rw[fV,hxl];omega)
   obtain⟨h2,k2⟩:=lQ [.int .i64 x] i _ _ (own_drewN (aan w base (l.length+1) 3 A hbase hge hle) 1) (by simp;omega);obtain⟨h3,k3⟩:=lQ ((bB l).drop i) (i+1) _ _ (own_drewN h2 1) (by rw[dN,hxl];omega);refine⟨_,he,?_,?_,λk hk=> .inr (by simp only[Value.ownBlock,dQ]at hk;omega)⟩
   ·have hl2:(A.toList.take (l.length+1)).length=l.length+1:=by
     have:=IC (xs:=A);rw[fV];omega
    have e1:(List.take (i+1) (List.take i (A.toList.take (l.length+1))++ [Value.int .i64 x]++List.drop (i+1) (A.toList.take (l.length+1)))++(bB l).drop i ++
     List.drop (i+1+((bB l).drop i).length) (List.take i (A.toList.take (l.length+1))++ [Value.int .i64 x]++List.drop (i+1) (A.toList.take (l.length+1))))=(bB l).take i++Value.int .i64 x::(bB l).drop i:=by
     have t0:(List.take i (A.toList.take (l.length+1))++ [Value.int .i64 x]).length=i+1:=by rw[fC,fV,hl2];simp;omega
     have t1:(List.take i (A.toList.take (l.length+1))++ [Value.int .i64 x]++List.drop (i+1) (A.toList.take (l.length+1))).length=l.length+1:=by rw[fC,t0,dN,hl2];omega
     have t2:List.drop (i+1+((bB l).drop i).length) (List.take i (A.toList.take (l.length+1))++ [Value.int .i64 x]++List.drop (i+1) (A.toList.take (l.length+1)))= []:=iZ (by rw[t1,dN,hxl];omega);rw[t2,Eh t0,hi0,kI];simp
    rw[show i+ [Value.int IntKind.i64 x].length=i+1 from rfl,e1]at h3;exact h3
   ·have ka:az (λk=>(Value.slice (some ⟨g,0,none⟩) l.length c).ownBlock=some k\/k=w.heap.size) w (w.alloc (.cells A 3)):=(az.refl _ w).alloc _;have kk:=(ka.drew.trans (k2.mono λk _ hk=> .inr hk)).drew.trans (k3.mono λk _ hk=> .inr hk)
    exact kk.mono λk hk hh=>by
     rcases hh with hh|hh
     ·exact hh
     ·omega
 ·obtain rfl:i=l.length:=by omega
  have ht:(bB l).take l.length=bB l:=iH (by omega);have hd:(bB l).drop l.length= []:=iZ (by omega);rw[ht,hd];by_cases hroom:l.length+1<=c
  ·have hcm:c<=9223372036854775807:=by
    obtain⟨_,_,he,_,hcm,_⟩:=fJ h;injection he with _ _ e3;subst e3;exact hcm
   rcases h.2 with⟨he,_⟩|⟨g,cap',di,he,_,hg,_,_,hcsz,_⟩
   ·injection he with _ _ e3;omega
   injection he with e1 _ e3;subst e1 e3;obtain⟨y,hy⟩:=U1 h hroom
   have hcells: ∀j,j<1->(w.cell? ⟨g,0+l.length+j,none⟩).isSome=true:=λj hj=>by
    have hjl:l.length<(bB l++ [y]).length:=by simp[hxl]
    rw[show 0+l.length+j=l.length from by omega,(jh hy).cell (mi hjl)];rfl
   have hr:=Any2.slices_Insert_int_end_room Dp g 0 l.length c vb 0 1 1 [.int .i64 x] w (by omega) hroom hcm rfl hcells (λj _=>h.frozenAt _) hvs h1v;refine hr.mono ?_;rintro e w' ⟨he,rfl⟩;obtain⟨h2,k2⟩:=lQ [.int .i64 x] (0+l.length) w _ hy (by simp);refine⟨_,he,?_,k2.mono (λk _ hk=>by rw[hk];rfl),λk hk=> .inl hk⟩
   have e1:List.take (0+l.length) (bB l++ [y])++ [Value.int .i64 x]++List.drop (0+l.length+ [Value.int IntKind.i64 x].length) (bB l++ [y])=bB l++ [Value.int .i64 x]:=by
    rw[iM,Eh hxl,iZ (by simp[hxl]),kI]
   rw[e1]at h2;exact h2
  ·obtain⟨_,c',he,hnc,_,hnil,hat⟩:=fJ h;injection he with e1 _ e3;subst e1 e3
   have hr:=Any2.slices_Insert_int_end_grow Dp a l.length c vb 0 1 1 (bB l) [.int .i64 x] w (by omega) hnc (by omega) hb1 hxl rfl (λh=>by have:=hnil h;omega) (λad had=>by
    subst had
    exact hat.news) hvs h1v
   refine hr.mono ?_;rintro e w' ⟨he,rfl⟩;have hge:=grownCap_ge w (l.length+1) c 3;have hle:=grownCap_le_maxLen w (l.length+1) c 3 hm1;have hz:(Value.int .i64 0).cells.size=1:=rfl;obtain⟨A,hA⟩: ∃A,A=(bB l++ [Value.int .i64 x]).toArray++Builtin.zeroCells (Value.int .i64 0).cells (grownCap w (l.length+1) c 3-(l.length+1)):=⟨_,rfl⟩
   have hsz:A.size=grownCap w (l.length+1) c 3:=by
    rw[hA];simp only[Array.size_append,size_zeroCells,hz,List.size_toArray,fC,sS,hxl];omega
   have hA':C9.t 3=3:=rfl;rw[hA']at he |-;rw[<-hA];rw[<-hsz]at he hge hle;have ho:=aan w.drew base (l.length+1) 3 A hbase hge hle
   have e1:A.toList.take (l.length+1)=bB l++ [Value.int .i64 x]:=by
    rw[hA];simp only[IB];exact Eh (by simp[hxl])
   rw[e1]at ho;exact⟨_,he,ho,(az.refl _ w).drew.alloc _,λk hk=> .inr (by simp only[Value.ownBlock,dQ]at hk;omega)⟩
def iX (l:List Int) (i:Int):List Int:=if 0<=i then l.eraseIdx i.toNat else l
theorem oG (l:List Int) (i:Int):(iX l i).length<=l.length:=by
 unfold iX;split
 ·rw[Iu];split <;>omega
 ·exact ay _
def vg (l:List Int) (n:Int):List Int:=iX l (aT l n)
def oO (l:List Int) (o n:Int):List Int:=if 0<=aT l o then l.set (aT l o).toNat n else l
def Co (l:List Int) (b n:Int):List Int:=if 0<=aT l b then qd l ((aT l b).toNat+1) n else l
theorem ME {w:af} {base:Nat} {g n c:Nat} {l:List Int} (h:w.ownsRow base 3 1 (.slice (some ⟨g,0,none⟩) n c) n (bB l)) (j:Nat) (x:Int) :
 (w.setCell ⟨g,j,none⟩ (.int .i64 x)).ownsRow base 3 1 (.slice (some ⟨g,0,none⟩) n c) n (bB (l.set j x)):=by
 have:=(h.stored j (.int .i64 x)).1;rw[bB,List.map_set];exact this
theorem zB {w:af} {B:Nat} {e:TypeId} {s n:Nat} {v:ak} {xs:List ak} (h:w.ownsRow B e s v n xs):w.ownsRow 0 e s v n xs:=by
 refine⟨h.1,?_⟩;rcases h.2 with h'|⟨g,cap,di,h1,h2,h3⟩
 ·exact .inl h'
 ·exact .inr ⟨g,cap,di,h1,bD _,h3⟩
theorem AA {F G:Nat->Prop} {a b c:af} (h:az F a b) (k:az G b c) (hG: ∀i,G i->F i\/a.heap.size<=i):az F a c :=
 ⟨k.os.trans h.os,k.tape.trans h.tape,k.output.trans h.output,bY h.size k.size,λi hi hF=>(k.block i (fA hi h.size) λhGi=>by
  rcases hG i hGi with h'|h'
  ·exact hF h'
  ·omega).trans (h.block i hi hF)⟩
section
variable (w:af) (sb tb:Nat) (gs:Option Nat) (l:List Int)
theorem XU (h:qZ w sb tb gs l) (n:Int) (hl:l.length<=1048576):Calls prog 106 #[.pointer (some ⟨sb,0,none⟩),.int .i64 n] w λe w' =>
 e= .returned (.tuple #[])/\ ∃gs',qZ w' sb tb gs' (vg l n)/\(∀k,gs'=some k->gs=some k\/w.heap.size<=k)/\az (SB sb gs) w w':=by
 have HF:=hd' (FT w sb tb gs l h n hl);have HA:=hd' (Ri w sb tb gs l h hl);have HS:=hd' h;obtain⟨q1,q2,_,_⟩:=dC l n;have hlt:=h.lt sb (.inl rfl);clear h;by_cases h0:0<=aT l n
 ·have HR:Hid (vg l n=l.eraseIdx (aT l n).toNat):=hd' (by rw[vg,iX,au h0]);obtain⟨k,hk⟩:=bQ h0;rw[hk]at HF HR q2;have hkl:k<l.length:=by omega
  clear hk h0 q1 q2;go_enter func106,ntmps106
  go_wp2_with (first|(go_at_call 152;refine HF.o'.mono ?_;rintro e w1 ⟨rfl,rfl⟩)|(go_at_call 97;refine HA.o'.mono ?_;rintro e w1 ⟨v,rfl,ho,hb⟩;have HO:=hd' ho;have HB:=hd' hb;clear ho hb))
  obtain⟨g1,c1,rfl,hg1,hc1,_⟩:=qW HO.o' (by omega);have HD:=hd' (aa1 w1 w.heap.size g1 c1 k l HO.o' hkl);go_wp2_with (go_at_call 153;refine HD.o'.mono ?_;rintro e w2 ⟨rfl,ho2,hk2⟩;have hS1:=HS.o'.below HB.o';have hS2:=hS1.kept hk2 (λj hj e=>(by have:=HS.o'.lt j hj;omega));obtain⟨sa,sc,_,_,_,_,f2,hrow2,_,hne⟩:=hS2.cells;have c2:=lF w2 sb 1 _ _ _ hrow2;have OJ:=hd' ho2;have uP:=hd' hk2;have HR2:=hd' hrow2;clear ho2 hk2 hrow2 hS1 hS2)
  go_end0
  have hne1:g1≠sb:=by omega
  refine⟨rfl,some g1,⟨.slice (some ⟨g1,0,none⟩) (l.length-1) c1,mr (i:=1) HR2.o' _,⟨?_,rfl⟩,by simpa using hne1⟩,(λj hj=> .inr (by cases hj;exact hg1)),?_⟩
  ·rw[HR.o',show(l.eraseIdx (k:Int).toNat).length=l.length-1 from by rw[Iu];simp[hkl]];exact gH (zB OJ.o') λb hb=>eG _ _ _ _ (by simp only[Value.ownBlock,dQ]at hb;subst hb;exact hne1)
  ·exact(AA (az.bC HB.o') uP.o' (λi hi=> .inr (by omega))).set (p:=⟨sb,1,none⟩) (.inl (.inl rfl)) _
 ·have HR:Hid (vg l n=l):=hd' (by rw[vg,iX,aj h0]);have h1:aT l n= -1:=by omega
  rw[h1]at HF;clear h0 h1 q1 q2;go_enter func106,ntmps106
  go_wp2_with (go_at_call 152;refine HF.o'.mono ?_;rintro e w1 ⟨rfl,rfl⟩)
  go_end0
  exact⟨rfl,gs,by rw[HR.o'];exact HS.o',λk hk=> .inl hk,az.refl _ _⟩
theorem aeb (h:qZ w sb tb gs l) (o n:Int) (hl:l.length<=1048576):Calls prog 224 #[.pointer (some ⟨sb,0,none⟩),.int .i64 o,.int .i64 n] w λe w' =>
 e= .returned (.tuple #[])/\qZ w' sb tb gs (oO l o n)/\az (SB sb gs) w w':=by
 have HF:=hd' (FT w sb tb gs l h o hl);have HS:=hd' h;obtain⟨q1,q2,_,_⟩:=dC l o;by_cases h0:0<=aT l o
 ·obtain⟨k,hk⟩:=bQ h0;have HR:Hid (oO l o n=l.set k n):=hd' (by rw[oO,au h0,hk];rfl);rw[hk]at HF q2;have hkl:k<l.length:=by omega
  obtain⟨a,c,c0,c1,hat,hown,_,hrow,_,hne⟩:=h.cells;obtain⟨g1,c',he,_,_,_⟩:=qW hown.1 (by omega);injection he with e1 _ _;subst e1;have hx:=(jh hown.1).cell (fw l k hkl);have hx':w.cell? ⟨g1,0+k,none⟩=some (.int .i64 l[k]):=by rw[iM];exact hx
  have hf:w.frozen? ⟨g1,0+k,none⟩=false:=hown.1.frozenAt _;have hf':w.frozen? ⟨g1,k,none⟩=false:=hown.1.frozenAt _;have HO:=hd' hown;have HRW:=hd' hrow;have Kr:=hd' hne;clear hk h0 q1 q2 h hat hown hrow hne;go_enter func224,ntmps224
  go_wp2_with (go_at_call 152;refine HF.o'.mono ?_;rintro e w1 ⟨rfl,rfl⟩)
  go_end0
  have hgs:gs=some g1:=HO.o'.2.symm;have hne1:sb≠g1:=by rintro rfl;exact Kr.o' hgs
  refine⟨rfl,⟨.slice (some ⟨g1,0,none⟩) l.length c,(eG _ _ _ _ hne1).trans HRW.o',⟨?_,hgs.symm⟩,Kr.o'⟩,(az.refl _ _).set (p:=⟨g1,k,none⟩) (.inl (.inr hgs)) _⟩;rw[HR.o',nR];exact ME HO.o'.1 k n
 ·have HR:Hid (oO l o n=l):=hd' (by rw[oO,aj h0]);have h1:aT l o= -1:=by omega
  rw[h1]at HF;clear h0 h1 q1 q2 h;go_enter func224,ntmps224
  go_wp2_with (go_at_call 152;refine HF.o'.mono ?_;rintro e w1 ⟨rfl,rfl⟩)
  go_end0
  exact⟨rfl,by rw[HR.o'];exact HS.o',az.refl _ _⟩
theorem XV (h:qZ w sb tb gs l) (b n:Int) (hl:l.length<=1048576):Calls prog 230 #[.pointer (some ⟨sb,0,none⟩),.int .i64 b,.int .i64 n] w λe w' =>
 e= .returned (.tuple #[])/\ ∃gs',qZ w' sb tb gs' (Co l b n)/\(∀k,gs'=some k->gs=some k\/w.heap.size<=k)/\az (SB sb gs) w w':=by
 have HF:=hd' (FT w sb tb gs l h b hl);have HA:=hd' (Ri w sb tb gs l h hl);have HS:=hd' h;obtain⟨q1,q2,_,_⟩:=dC l b;have hlt:=h.lt sb (.inl rfl);clear h;by_cases h0:0<=aT l b
 ·obtain⟨k,hk⟩:=bQ h0;have HR:Hid (Co l b n=qd l (k+1) n):=hd' (by rw[Co,au h0,hk];rfl);rw[hk]at HF q2;have hkl:k+1<=l.length:=by omega
  clear hk h0 q1 q2;go_enter func230,ntmps230
  go_wp2_with (first|(go_at_call 152;refine HF.o'.mono ?_;rintro e w1 ⟨rfl,rfl⟩)|(go_at_call 97;refine HA.o'.mono ?_;rintro e w1 ⟨v,rfl,ho,hb⟩;obtain⟨va,vc,rfl,_,_⟩:=oz ho;have HO:=hd' ho;have HB:=hd' hb;clear ho hb))
  have ho1:=own_below HO.o' ((aQ w1.heap.size w1).alloc (ay _) (.cells #[.int .i64 n] 3));have hb1:=HB.o'.alloc HB.o'.size (.cells #[.int .i64 n] 3);have hvb:=eU w1 (.cells #[.int .i64 n] 3);have hsz:(w1.alloc (.cells #[.int .i64 n] 3)).heap.size=w1.heap.size+1:=by simp
  have hs1:=HB.o'.size;have HI:=hd' (aaL (w1.alloc (.cells #[.int .i64 n] 3)) w.heap.size va vc (k+1) l n w1.heap.size ho1 hkl (by omega) hl hvb (λj hj=>(by have:=(HO.o'.lt j hj).2;omega)));have HOB:=hd' (λj hj=>(HO.o'.lt j hj).1);have HB1:=hd' hb1;clear ho1 hb1 hvb;have hcast:((k+1:Nat):Int)=(k:Int)+1:=by omega
  rw[hcast]at HI;go_wp2_with (go_at_call 229;refine HI.o'.mono ?_;rintro e w2 ⟨v',rfl,ho2,hk2,hv2⟩;obtain⟨va2,vc2,hv',_,_⟩:=oz ho2;subst hv';have hS1:=HS.o'.below HB1.o';have hS2:=hS1.kept hk2 (λj hj e=>(by have:=HS.o'.lt j hj;have:=HOB.o' j e;omega));obtain⟨sa,sc,_,_,_,_,f2,hrow2,_,hne⟩:=hS2.cells;have c2:=lF w2 sb 1 _ _ _ hrow2;have OJ:=hd' ho2;have uP:=hd' hk2;have HR2:=hd' hrow2;have HV2:=hd' hv2;clear ho2 hk2 hrow2 hS1 hS2 hv2)
  go_end0
  have hnew: ∀j,(Value.slice va2 (l.length+1) vc2).ownBlock=some j->w.heap.size<=j:=λj hj=>by
   rcases HV2.o' j hj with h|h
   ·exact HOB.o' j h
   ·omega
  have hne1:(Value.slice va2 (l.length+1) vc2).ownBlock≠some sb:=λe=>by have:=hnew sb e;omega
  refine⟨rfl,(Value.slice va2 (l.length+1) vc2).ownBlock,⟨.slice va2 (l.length+1) vc2,mr (i:=1) HR2.o' _,⟨?_,rfl⟩,hne1⟩,(λj hj=> .inr (hnew j hj)),?_⟩
  ·rw[HR.o',Dr l (k+1) n hkl];exact gH (zB OJ.o') λb hb=>eG _ _ _ _ (λe=>hne1 (hb.trans (aW some e)))
  ·exact(AA (az.bC HB1.o') uP.o' (λi hi=> .inr (HOB.o' i hi))).set (p:=⟨sb,1,none⟩) (.inl (.inl rfl)) _
 ·have HR:Hid (Co l b n=l):=hd' (by rw[Co,aj h0]);have h1:aT l b= -1:=by omega
  rw[h1]at HF;clear h0 h1 q1 q2;go_enter func230,ntmps230
  go_wp2_with (go_at_call 152;refine HF.o'.mono ?_;rintro e w1 ⟨rfl,rfl⟩)
  go_end0
  exact⟨rfl,gs,by rw[HR.o'];exact HS.o',λk hk=> .inl hk,az.refl _ _⟩
end
section
variable (w:af) (lb tb sb:Nat) (ge:Option Nat) (l:List Int) (on:Bool)
theorem afg (h:vH w lb tb sb ge l on) (i:Int) (hi:i<l.length) (hl:l.length<=1048576):Calls prog 200 #[.pointer (some ⟨lb,0,none⟩),.int .i64 i] w λe w' =>
 e= .returned (.tuple #[])/\ ∃ge',vH w' lb tb sb ge' (iX l i) on/\(∀k,ge'=some k->ge=some k\/w.heap.size<=k)/\az (SB lb ge) w w':=by
 have HA:=hd' (aaB w lb tb sb ge l on h hl);have HS:=hd' h;have hlt:=h.lt lb (.inl rfl);clear h;by_cases h0:0<=i
 ·obtain⟨k,rfl⟩:=bQ h0;have HR:Hid (iX l k=l.eraseIdx k):=hd' (by rw[iX,au h0];rfl);have hkl:k<l.length:=by omega
  clear h0;go_enter func200,ntmps200
  go_wp2_with (go_at_call 215;refine HA.o'.mono ?_;rintro e w1 ⟨v,rfl,ho,hb⟩;have HO:=hd' ho;have HB:=hd' hb;clear ho hb)
  obtain⟨g1,c1,rfl,hg1,hc1,_⟩:=qW HO.o' (by omega);have HD:=hd' (aa1 w1 w.heap.size g1 c1 k l HO.o' hkl);go_wp2_with (go_at_call 153;refine HD.o'.mono ?_;rintro e w2 ⟨rfl,ho2,hk2⟩;have hS1:=HS.o'.below HB.o';have hS2:=hS1.kept hk2 (λj hj e=>(by have:=HS.o'.lt j hj;omega));obtain⟨sa,sc,_,_,_,_,_,_,f2,_,hrow2,_,hne⟩:=hS2.cells;have c2:=lF w2 lb 2 _ _ _ hrow2;have OJ:=hd' ho2;have uP:=hd' hk2;have HR2:=hd' hrow2;clear ho2 hk2 hrow2 hS1 hS2)
  go_end0
  have hne1:g1≠lb:=by omega
  refine⟨rfl,some g1,⟨.slice (some ⟨g1,0,none⟩) (l.length-1) c1,mr (i:=2) HR2.o' _,⟨?_,rfl⟩,by simpa using hne1⟩,(λj hj=> .inr (by cases hj;exact hg1)),?_⟩
  ·rw[HR.o',show(l.eraseIdx k).length=l.length-1 from by rw[Iu];simp[hkl]];exact gH (zB OJ.o') λb hb=>eG _ _ _ _ (by simp only[Value.ownBlock,dQ]at hb;subst hb;exact hne1)
  ·exact(AA (az.bC HB.o') uP.o' (λi hi=> .inr (by omega))).set (p:=⟨lb,2,none⟩) (.inl (.inl rfl)) _
 ·have HR:Hid (iX l i=l):=hd' (by rw[iX,aj h0]);go_enter func200,ntmps200
  go_wp2_with fail
  go_end0
  exact⟨rfl,ge,by rw[HR.o'];exact HS.o',λk hk=> .inl hk,az.refl _ _⟩
end
end Go.Proofs.YtnlbcifhedjbfaaGreatDoor
end
section
namespace Go.Proofs.YtnlbcifhedjbfaaGreatDoor
open Go.RowKit Mem
def LI (w0:af) (B tb sb lb:Nat) (ex:Nat->Prop) (T:aB) (l aF:List Int) (on:Bool) (w:af):Prop :=
 ∃ge,vH w lb tb sb ge aF on/\SI w0 B tb sb (λk=>ex k\/SB lb ge k) T l w/\(∀k,SB lb ge k->w0.heap.size<=k/\ ¬ex k)/\aF.length<=1000000
section
variable {w0 w w':af} {B B' tb sb lb:Nat} {ex:Nat->Prop} {T T':aB} {l l' aF ent':List Int} {on on':Bool}
theorem SI.Bu (h:SI w0 B tb sb ex T l w): ∀k,ex k->k<w.heap.size:=by
 obtain⟨g,gs,jV,h1,h2,h3,h4,h5⟩:=h;exact λk hk=>(h1.tree.vY k (h4 k hk)).1
theorem LI.wf (h:LI w0 B tb sb lb ex T l aF on w):WF T:=by
 obtain⟨ge,h1,h2,h3⟩:=h;exact h2.wf
theorem LI.len (h:LI w0 B tb sb lb ex T l aF on w):T.ai.length<=1000000:=by
 obtain⟨ge,h1,h2,h3⟩:=h;exact h2.len
theorem LI.below (h:LI w0 B tb sb lb ex T l aF on w):Below w0.heap.size w0 w:=by
 obtain⟨ge,h1,h2,h3⟩:=h;exact h2.below
theorem LI.short (h:LI w0 B tb sb lb ex T l aF on w):l.length<=1000000/\aF.length<=1000000:=by
 obtain⟨ge,h1,h2,h3,h4⟩:=h;exact⟨h2.short,h4⟩
theorem LI.world (h:LI w0 B tb sb lb ex T l aF on w) (hb:Below w.heap.size w w'):LI w0 B tb sb lb ex T l aF on w':=by
 obtain⟨ge,h1,h2,h3⟩:=h;exact⟨ge,h1.below hb,h2.world hb,h3⟩
theorem LI.Bu (h:LI w0 B tb sb lb ex T l aF on w): ∀k,ex k->k<w.heap.size:=by
 obtain⟨ge,h1,h2,h3⟩:=h;exact λk hk=>h2.Bu k (.inl hk)
theorem LI.qo {ge:Option Nat} (h1:vH w lb tb sb ge aF on) (h3: ∀k,SB lb ge k->w0.heap.size<=k/\ ¬ex k) (h4:aF.length<=1000000) (hs:SI w0 B' tb sb (λk=>ex k\/SB lb ge k) T' l' w') (hk:az (Own w0 λk=>ex k\/SB lb ge k) w w') :
 LI w0 B' tb sb lb ex T' l' aF on w'/\az (Own w0 ex) w w' :=
 ⟨⟨ge,h1.kept hk (λ_ hk' h=>h.2 (.inr hk')),hs,h3,h4⟩,hk.mono λ_ _ h=>⟨h.1,λhx=>h.2 (.inl hx)⟩⟩
theorem LI.xE {ge ge':Option Nat} (h1:SI w0 B tb sb (λk=>ex k\/SB lb ge k) T l w) (h3: ∀k,SB lb ge k->w0.heap.size<=k/\ ¬ex k) (h4:ent'.length<=1000000) (hl:vH w' lb tb sb ge' ent' on') (hk:az (SB lb ge) w w') (hg: ∀k,ge'=some k->ge=some k\/w.heap.size<=k) :
 LI w0 B tb sb lb ex T l ent' on' w'/\az (Own w0 ex) w w':=by
 have hlt:=hl.lt;refine⟨⟨ge',hl,h1.dE hk (λk hk'=>⟨.inr hk',(h3 k hk').1⟩) (λk hk'=> ?_),λk hk'=> ?_,h4⟩,hk.mono λk _ hk'=>h3 k hk'⟩
 ·rcases hk' with hk'|hk'|hk'
  ·exact⟨.inl (.inl hk'),fA (h1.Bu k (.inl hk')) hk.size⟩
  ·exact⟨.inl (.inr (.inl hk')),hlt k (.inl hk')⟩
  ·exact⟨(hg k hk').imp (λe=> .inr (.inr e)) id,hlt k (.inr hk')⟩
 ·rcases hk' with e|e
  ·exact h3 k (.inl e)
  ·rcases hg k e with e'|e'
   ·exact h3 k (.inr e')
   ·have:=h1.below.size;refine⟨by omega,λhx=> ?_⟩;have:=h1.Bu k (.inl hx);omega
theorem LI.dE {ex':Nat->Prop} (h:LI w0 B tb sb lb ex T l aF on w) {F:Nat->Prop} (hk:az F w w') (hF: ∀k,F k->ex k/\w0.heap.size<=k) (he: ∀k,ex' k->(ex k\/w.heap.size<=k)/\k<w'.heap.size):LI w0 B tb sb lb ex' T l aF on w':=by
 obtain⟨ge,h1,h2,h3,h4⟩:=h;have hlt:=h1.lt;have hs:=hk.size;refine⟨ge,h1.kept hk λk hk' hx=>(h3 k hk').2 (hF k hx).1,h2.dE hk (λk hk'=>⟨.inl (hF k hk').1,(hF k hk').2⟩) (λk hk'=> ?_),λk hk'=>⟨(h3 k hk').1,λhx=> ?_⟩,h4⟩
 ·rcases hk' with hk'|hk'
  ·exact⟨(he k hk').1.imp .inl id,(he k hk').2⟩
  ·exact⟨.inl (.inr hk'),fA (hlt k hk') hs⟩
 ·rcases(he k hx).1 with e|e
  ·exact(h3 k hk').2 e
  ·have:=hlt k hk';omega
theorem LI.cells (h:LI w0 B tb sb lb ex T l aF on w): ∃a c,w.cell? ⟨lb,0,none⟩=some (.pointer (some ⟨tb,0,none⟩))/\w.cell? ⟨lb,1,none⟩=some (.pointer (some ⟨sb,0,none⟩))/\w.cell? ⟨lb,2,none⟩=some (.slice a aF.length c)/\w.cell? ⟨lb,3,none⟩=some (.bool on)/\At w a (bB aF)/\c<=maxLen/\aF.length<=c:=by
 obtain⟨ge,h1,h2,h3⟩:=h;obtain⟨a,c,c0,c1,c2,c3,hA,ho,_⟩:=h1.cells;obtain⟨_,_,he,k1,k2,_⟩:=fJ ho.1;injection he with _ _ e3;subst e3;exact⟨a,c,c0,c1,c2,c3,hA,k2,k1⟩
theorem LI.Bz (h:LI w0 B tb sb lb ex T l aF on w): ∀i (h:i<T.ai.length),T.ai[i].aA.length<=1048576:=by
 obtain⟨ge,h1,⟨g,gs,jV,q1,_⟩,h3⟩:=h;exact q1.Zz
theorem LI.tree (h:LI w0 B tb sb lb ex T l aF on w): ∃g jV,eH w tb g (ja jV T):=by
 obtain⟨ge,h1,⟨g,gs,jV,q1,_⟩,h3⟩:=h;exact⟨g,jV,q1.tree⟩
def lq (T:aB) (n:Int):Int:=if xF T n then aJ T n else -1
theorem adw (h:LI w0 B tb sb lb ex T l aF on w) (n:Int):Calls prog 190 #[.pointer (some ⟨tb,0,none⟩),.int .i64 n] w λe w'=>e= .returned (.int .i64 (lq T n))/\w=w':=by
 obtain⟨g,jV,hT⟩:=h.tree;exact Yo (ja jV T) tb g w n hT
theorem anB (h:LI w0 B tb sb lb ex T l aF on w) (n:Int):Calls prog 210 #[.pointer (some ⟨tb,0,none⟩),.int .i64 n] w λe w'=>e= .returned (.bool (aY T n))/\w=w':=by
 obtain⟨g,jV,hT⟩:=h.tree;exact alc (ja jV T) tb g w n hT
theorem ajf (h:LI w0 B tb sb lb ex T l aF on w) (n:Int):Calls prog 25 #[.pointer (some ⟨tb,0,none⟩),.int .i64 n] w λe w'=> ∃v,e= .returned v/\w'.ownsRow w.heap.size 3 1 v (vD T n).length (bB (vD T n))/\Below w.heap.size w w':=by
 have hwf:=h.wf;have hlen:=h.len;obtain⟨g,jV,hT⟩:=h.tree
 exact Vz (ja jV T) tb g w n hT (λi hi=>by
  have hi':i<T.ai.length:=hi;have:=rQ hwf i hi';rw[lS T i hi']at this;show(T.ai[i]'hi').aP.length<=_
  omega)
theorem yx (h:LI w0 B tb sb lb ex T l aF on w) (n:Int) :
 Calls prog 41 #[.pointer (some ⟨tb,0,none⟩),.int .i64 n] w λe w'=> ∃v,e= .returned (.tuple #[.int .i64 (aX T n),.string (bq T n),v]) /\
  w'.ownsRow w.heap.size 128 2 v (bW T n).length (bz (bW T n))/\Below w.heap.size w w':=by
 obtain⟨ge,h1,h2,h3⟩:=h;exact aiX h2 n
theorem KH (h:LI w0 B tb sb lb ex T l aF on w):Calls prog 42 #[.pointer (some ⟨sb,0,none⟩)] w λe w'=>e= .returned (.int .i64 (l.getLast?.getD 0))/\ ∃q,w'=w.drewN q:=by
 obtain⟨ge,h1,h2,h3⟩:=h;exact Tj h2
theorem CO (h:LI w0 B tb sb lb ex T l aF on w) (n:Int):Calls prog 152 #[.pointer (some ⟨sb,0,none⟩),.int .i64 n] w λe w'=>e= .returned (.int .i64 (aT l n))/\w=w':=by
 obtain⟨ge,h1,h2,h3⟩:=h;exact ajn h2 n
theorem KI (h:LI w0 B tb sb lb ex T l aF on w):Calls prog 97 #[.pointer (some ⟨sb,0,none⟩)] w λe w'=> ∃v,e= .returned v/\w'.ownsRow w.heap.size 3 1 v l.length (bB l)/\Below w.heap.size w w':=by
 obtain⟨ge,h1,h2,h3⟩:=h;exact alJ h2
theorem ZI (h:LI w0 B tb sb lb ex T l aF on w) (m:Int):Calls prog 212 #[.pointer (some ⟨sb,0,none⟩),.int .i64 m] w λe w'=>e= .returned (.bool (vG T l m))/\Below w.heap.size w w':=by
 obtain⟨ge,h1,h2,h3⟩:=h;exact ZH h2 m
theorem Tk (h:LI w0 B tb sb lb ex T l aF on w):Calls prog 56 #[.pointer (some ⟨sb,0,none⟩)] w λe w'=>e= .returned (.int .i64 (l.getLast?.getD 0))/\LI w0 B tb sb lb ex T l.dropLast aF on w'/\az (Own w0 ex) w w':=by
 obtain⟨ge,h1,h2,h3,h4⟩:=h;exact(Tm h2).mono λe w' ⟨he,hs,hk⟩=>⟨he,LI.qo h1 h3 h4 hs hk⟩
theorem WS (h:LI w0 B tb sb lb ex T l aF on w) (n:Int) (hl:l.length<1000000):Calls prog 105 #[.pointer (some ⟨sb,0,none⟩),.int .i64 n] w λe w'=>e= .returned (.tuple #[])/\LI w0 B tb sb lb ex T (l++ [n]) aF on w'/\az (Own w0 ex) w w':=by
 obtain⟨ge,h1,h2,h3,h4⟩:=h;exact(ai3 h2 n hl).mono λe w' ⟨he,hs,hk⟩=>⟨he,LI.qo h1 h3 h4 hs hk⟩
theorem ajs (h:LI w0 B tb sb lb ex T l aF on w) (sp:Int) (nm:ae) (at':List dD) (n:Nat) (a:Option Addr) (c:Nat) (hnl:n=at'.length) (hc:a=none->c=0) (hlen:at'.length<=1048576) (ha:At w a (bz at')) :
 Calls prog 146 #[.pointer (some ⟨tb,0,none⟩),.int .i64 sp,.string nm,.slice a n c] w λe w' =>
  e= .returned (.tuple #[.int .i64 (qz T (fQ sp nm at')).2.1,.int .i64 (qz T (fQ sp nm at')).2.2])/\LI w0 B tb sb lb ex (qz T (fQ sp nm at')).1 l aF on w'/\az (Own w0 ex) w w':=by
 obtain⟨ge,h1,h2,h3,h4⟩:=h;exact(ajr h2 sp nm at' n a c hnl hc hlen ha).mono λe w' ⟨he,hs,hk⟩=>⟨he,LI.qo h1 h3 h4 hs hk⟩
theorem N7 (h:LI w0 B tb sb lb ex T l aF on w) (a b n:Int):Calls prog 147 #[.pointer (some ⟨tb,0,none⟩),.int .i64 a,.int .i64 b,.int .i64 n] w λe w' =>
 e= .returned (.int .i64 (fe T a b n).2)/\LI w0 B tb sb lb ex (fe T a b n).1 l aF on w'/\az (Own w0 ex) w w':=by
 obtain⟨ge,h1,h2,h3,h4⟩:=h;exact(ak9 h2 a b n).mono λe w' ⟨he,hs,hk⟩=>⟨he,LI.qo h1 h3 h4 hs hk⟩
theorem abd (h:LI w0 B tb sb lb ex T l aF on w) (n:Int):Calls prog 223 #[.pointer (some ⟨tb,0,none⟩),.int .i64 n] w λe w' =>
 e= .returned (.tuple #[.int .i64 (dm T n).2.1,.int .i64 (dm T n).2.2])/\LI w0 B tb sb lb ex (dm T n).1 l aF on w'/\az (Own w0 ex) w w':=by
 obtain⟨ge,h1,h2,h3,h4⟩:=h;exact(ajc h2 n).mono λe w' ⟨he,hs,hk⟩=>⟨he,LI.qo h1 h3 h4 hs hk⟩
theorem ai9 (h:LI w0 B tb sb lb ex T l aF on w) (a b:Int):Calls prog 228 #[.pointer (some ⟨tb,0,none⟩),.int .i64 a,.int .i64 b] w λe w' =>
 e= .returned (.int .i64 (kD T a b).2)/\LI w0 B tb sb lb ex (kD T a b).1 l aF on w'/\az (Own w0 ex) w w':=by
 obtain⟨ge,h1,h2,h3,h4⟩:=h;exact(ai8 h2 a b).mono λe w' ⟨he,hs,hk⟩=>⟨he,LI.qo h1 h3 h4 hs hk⟩
theorem agG (h:LI w0 B tb sb lb ex T l aF on w) (a b:Int) (s:ae) {B':Nat} (hB:B+s.size<=B') (hB':B'<=9223372036854775807):Calls prog 145 #[.pointer (some ⟨tb,0,none⟩),.int .i64 a,.int .i64 b,.string s] w λe w' =>
 e= .returned (.int .i64 (iG T a b s).2)/\LI w0 B' tb sb lb ex (iG T a b s).1 l aF on w'/\az (Own w0 ex) w w':=by
 obtain⟨ge,h1,h2,h3,h4⟩:=h;exact(aiZ h2 a b s hB hB').mono λe w' ⟨he,hs,hk⟩=>⟨he,LI.qo h1 h3 h4 hs hk⟩
theorem Bf (h:LI w0 B tb sb lb ex T l aF on w) (n:Int):Calls prog 106 #[.pointer (some ⟨sb,0,none⟩),.int .i64 n] w λe w'=>e= .returned (.tuple #[])/\LI w0 B tb sb lb ex T (vg l n) aF on w'/\az (Own w0 ex) w w':=by
 obtain⟨ge,h1,⟨g,gs,jV,q1,q2,q3,q4,q5⟩,h3,h4⟩:=h;refine(XU w sb tb gs l q2 n (by omega)).mono ?_;rintro e w' ⟨he,gs',hs,hg,hk⟩;obtain⟨r1,r2⟩:=SI.BS q1 q3 q4 (bY (oG _ _) q5) hk hs hg;exact⟨he,LI.qo h1 h3 h4 r1 r2⟩
theorem WR (h:LI w0 B tb sb lb ex T l aF on w) (o n:Int):Calls prog 224 #[.pointer (some ⟨sb,0,none⟩),.int .i64 o,.int .i64 n] w λe w'=>e= .returned (.tuple #[])/\LI w0 B tb sb lb ex T (oO l o n) aF on w'/\az (Own w0 ex) w w':=by
 obtain⟨ge,h1,⟨g,gs,jV,q1,q2,q3,q4,q5⟩,h3,h4⟩:=h;refine(aeb w sb tb gs l q2 o n (by omega)).mono ?_;rintro e w' ⟨he,hs,hk⟩
 obtain⟨r1,r2⟩:=SI.BS q1 q3 q4 (by
  unfold oO;split
  ·rw[nR];exact q5
  ·exact q5) hk hs (λk hk=> .inl hk)
 exact⟨he,LI.qo h1 h3 h4 r1 r2⟩
theorem ZE (h:LI w0 B tb sb lb ex T l aF on w) (b n:Int) (hl:l.length<1000000):Calls prog 230 #[.pointer (some ⟨sb,0,none⟩),.int .i64 b,.int .i64 n] w λe w'=>e= .returned (.tuple #[])/\LI w0 B tb sb lb ex T (Co l b n) aF on w'/\az (Own w0 ex) w w':=by
 obtain⟨ge,h1,⟨g,gs,jV,q1,q2,q3,q4,q5⟩,h3,h4⟩:=h;refine(XV w sb tb gs l q2 b n (by omega)).mono ?_;rintro e w' ⟨he,gs',hs,hg,hk⟩
 obtain⟨r1,r2⟩:=SI.BS q1 q3 q4 (by
  unfold Co;split
  ·have:=dC l b;rw[Dr _ _ _ (by omega)];omega
  ·omega) hk hs hg
 exact⟨he,LI.qo h1 h3 h4 r1 r2⟩
theorem KD (h:LI w0 B tb sb lb ex T l aF on w) (i:Int) (hi:i<aF.length):Calls prog 200 #[.pointer (some ⟨lb,0,none⟩),.int .i64 i] w λe w'=>e= .returned (.tuple #[])/\LI w0 B tb sb lb ex T l (iX aF i) on w'/\az (Own w0 ex) w w':=by
 obtain⟨ge,h1,h2,h3,h4⟩:=h;refine(afg w lb tb sb ge aF on h1 i hi (by omega)).mono ?_;rintro e w' ⟨he,ge',hs,hg,hk⟩;exact⟨he,LI.xE h2 h3 (bY (oG _ _) h4) hs hk hg⟩
theorem Sn (h:LI w0 B tb sb lb ex T l aF on w):Calls prog 171 #[.pointer (some ⟨lb,0,none⟩)] w λe w'=>e= .returned (.int .i64 (aT aF (-1)+1))/\w=w':=by
 obtain⟨ge,h1,h2,h3,h4⟩:=h;exact afe w lb tb sb ge aF on h1 (by omega)
theorem GJ (h:LI w0 B tb sb lb ex T l aF on w) (n:Int):Calls prog 201 #[.pointer (some ⟨lb,0,none⟩),.int .i64 n] w λe w'=>e= .returned (.int .i64 (aT aF n))/\w=w':=by
 obtain⟨ge,h1,h2,h3,h4⟩:=h;exact aff w lb tb sb ge aF on h1 n (by omega)
theorem aje (h:LI w0 B tb sb lb ex T l aF on w):Calls prog 215 #[.pointer (some ⟨lb,0,none⟩)] w λe w'=> ∃v,e= .returned v/\w'.ownsRow w.heap.size 3 1 v aF.length (bB aF)/\Below w.heap.size w w':=by
 obtain⟨ge,h1,h2,h3,h4⟩:=h;exact aaB w lb tb sb ge aF on h1 (by omega)
theorem akp (h:SI w0 B tb sb ex T l w):Calls prog 21 #[.pointer (some ⟨tb,0,none⟩),.pointer (some ⟨sb,0,none⟩)] w λe w'=> ∃lb,e= .returned (.pointer (some ⟨lb,0,none⟩))/\LI w0 B tb sb lb ex T l [] false w'/\Below w.heap.size w w':=by
 refine(ah4 w tb sb).mono ?_;rintro e w' ⟨he,hs,hb,hlt⟩;have hsz:=h.below.size;refine⟨w.heap.size,he,⟨none,hs,h.dE (F:=λ_=>False) (az.bC hb) (λ_ h=>h.elim) (λk hk=> ?_),λk hk=> ?_,bD _⟩,hb⟩
 ·rcases hk with hk|hk|hk
  ·exact⟨.inl hk,fA (h.Bu k hk) hb.size⟩
  ·exact⟨.inr (by omega),by omega⟩
  ·cases hk
 ·rcases hk with hk|hk
  ·refine⟨by omega,λhx=> ?_⟩;have:=h.Bu k hx;omega
  ·cases hk
end
def lH:List ae:= [⟨#[116,97,98,108,101]⟩]
def lC:List ae:= [⟨#[116,97,98,108,101]⟩,⟨#[116,98,111,100,121]⟩,⟨#[116,102,111,111,116]⟩,⟨#[116,104,101,97,100]⟩,⟨#[116,114]⟩]
def lW (T:aB) (first:Int):List Int->Int×Int
 | []=>(first,0)
 |x::r=>if aI T x lH then(if 0<=lq T x then(lq T x,x)else(r.head?.elim (0,0) λy=>(y,0)))else lW T first r
def aZ (T:aB) (l:List Int) (on:Bool) (target:Int):Int×Int :=
 if l= []then(0,0)else
 let t:=if target=0 then l.getLast?.getD 0 else target
 if on&&aI T t lC then lW T (l.head?.getD 0) l.reverse else(t,0)
theorem Y4 (T:aB) (first:Int) (l:List Int) (k:Nat) (h:k<l.length):lW T first (l.take (k+1)).reverse =
 if aI T l[k] lH then(if 0<=lq T l[k]then(lq T l[k],l[k])else if k=0 then(0,0)else(l.getD (k-1) 0,0))else lW T first (l.take k).reverse:=by
 rw[jL h,pO,xe,xc,lW];cases k with
 |zero=>rfl
 |succ k =>
  rw[jL (show k<l.length by omega),pO,xe,xc];simp only[Nat.add_sub_cancel,List.getD,mi (show k<l.length by omega),Option.getD_some];rfl
section
variable {w0 w w':af} {B B' tb sb lb:Nat} {ex:Nat->Prop} {T T':aB} {l l' aF ent':List Int} {on on':Bool}
theorem Vk (h:LI w0 B tb sb lb ex T l aF on w) (n:Int) (names:List ae) (a:Option Addr) (c:Nat) (ha:At w a (jo names)) (hl:names.length<=1048576) :
 Calls prog 189 #[.pointer (some ⟨lb,0,none⟩),.int .i64 n,.slice a names.length c] w λe w'=>e= .returned (.bool (aI T n names))/\Below w.heap.size w w':=by
 obtain⟨sa,sc,c0,_⟩:=h.cells;have HW:=hd' (yx h n);have HT:=hd' h;have HA:=hd' ha;have HN:Hid (aI T n names=(aY T n&&((aX T n==0)&&fU names (bq T n)))):=by show _=_;rfl
 clear h ha;cases he:aY T n <;>cases hs:(aX T n==0)
 all_goals
  rw[he,hs]at HN;go_enter func189,ntmps189
  go_wp2_with (first|(go_at_call 41;refine HW.o'.mono ?_;rintro e w1 ⟨v,rfl,_,hb⟩;have c0':=aM hb c0;have HE:=hd' (anB (HT.o'.world hb) n);rw[he]at HE;have HCo:=hd' (G5 names a c (bq T n) w1 (HA.o'.below hb) (by omega));have HB:=hd' hb;clear hb)|(go_at_call 210;refine HE.o'.mono ?_;rintro e w2 ⟨rfl,rfl⟩)|(go_at_call 204;refine HCo.o'.mono ?_;rintro e w2 ⟨rfl,rfl⟩))
  go_ret;exact⟨bJ (by rw[HN.o'];simp),HB.o'⟩
theorem IY (h:LI w0 B tb sb lb ex T l aF on w) (n:Int) (x:ae) :
 Calls prog 189 #[.pointer (some ⟨lb,0,none⟩),.int .i64 n,.slice (some ⟨w.heap.size,0,none⟩) 1 1] (w.alloc (.cells #[.string x] 9)) λe w'=>e= .returned (.bool (aI T n [x]))/\Below w.heap.size w w':=by
 have hb:=(aQ w.heap.size w).alloc (ay _) (.cells #[.string x] 9);exact(Vk (h.world hb) n [x] (some ⟨w.heap.size,0,none⟩) 1 (jy rfl rfl) (by simp)).mono λe w' ⟨he,hb'⟩=>⟨he,aK hb hb'⟩
theorem acn (h:LI w0 B tb sb lb ex T l aF on w) (n:Int) :
 Calls prog 189 #[.pointer (some ⟨lb,0,none⟩),.int .i64 n,.slice (some ⟨w.heap.size,0,none⟩) 1 1] (w.alloc (.cells #[.string (⟨#[116,97,98,108,101]⟩:ae)] 9)) λe w'=>e= .returned (.bool (aI T n lH))/\Below w.heap.size w w':=IY h n _
theorem aco (h:LI w0 B tb sb lb ex T l aF on w) (n:Int) :
 Calls prog 189 #[.pointer (some ⟨lb,0,none⟩),.int .i64 n,.slice (some ⟨w.heap.size,0,none⟩) 5 5] (w.alloc (.cells #[.string (⟨#[116,97,98,108,101]⟩:ae),.string (⟨#[116,98,111,100,121]⟩:ae),.string (⟨#[116,102,111,111,116]⟩:ae),.string (⟨#[116,104,101,97,100]⟩:ae),.string (⟨#[116,114]⟩:ae)] 9)) λe w'=>e= .returned (.bool (aI T n lC))/\Below w.heap.size w w':=by
 have hb:=(aQ w.heap.size w).alloc (ay _) (.cells #[.string (⟨#[116,97,98,108,101]⟩:ae),.string (⟨#[116,98,111,100,121]⟩:ae),.string (⟨#[116,102,111,111,116]⟩:ae),.string (⟨#[116,104,101,97,100]⟩:ae),.string (⟨#[116,114]⟩:ae)] 9);exact(Vk (h.world hb) n lC (some ⟨w.heap.size,0,none⟩) 5 (jy rfl rfl) (by simp[lC])).mono λe w' ⟨he,hb'⟩=>⟨he,aK hb hb'⟩
theorem N8 (h:LI w0 B tb sb lb ex T l aF on w) (target:Int) :
 Calls prog 144 #[.pointer (some ⟨lb,0,none⟩),.int .i64 target] w λe w'=>e= .returned (.tuple #[.int .i64 (aZ T l on target).1,.int .i64 (aZ T l on target).2])/\Below w.heap.size w w':=by
 obtain⟨sa,sc,c0,c1,_,c3,_⟩:=h.cells;have hsh:=h.short.1;have HL:=hd' h;have ze:=hd' (KI h);by_cases hnil:l= []
 ·have HP:Hid (aZ T l on target=(0,0)):=hd' (by rw[aZ,au hnil]);have hlen:l.length=0:=by rw[hnil];rfl
  clear h;subst hnil;go_enter func144,ntmps144
  go_wp2_with (go_at_call 97;refine ze.o'.mono ?_;rintro e w1 ⟨v,rfl,ho,hb⟩;obtain⟨va,vc,rfl,_,_⟩:=oz ho;have HB:=hd' hb;clear hb ho)
  go_ret2;exact⟨by rw[HP.o'];rfl,HB.o'⟩
 ·have hpos:0<l.length:=Em.2 hnil;have q0:((l.length:Int)==0)=false:=by rw[aV];omega
  obtain⟨t,ht⟩: ∃t,t=(if target=0 then l.getLast?.getD 0 else target):=⟨_,rfl⟩;have HP:Hid (aZ T l on target=if on&&aI T t lC then lW T (l.head?.getD 0) l.reverse else(t,0)):=hd' (by rw[aZ,aj hnil,ht]);clear h hnil;go_enter func144,ntmps144
  go_upto_if 18 with(go_at_call 97;refine ze.o'.mono ?_;rintro e w1 ⟨v,rfl,ho,hb⟩;obtain⟨va,vc,rfl,hat,_⟩:=oz ho;have HA:=hd' hat;have HB:=hd' hb;have H1:=hd' (HL.o'.world hb);have hvc:=(fJ ho);have d0:=aM hb c0;have d1:=aM hb c1;have d3:=aM hb c3;clear hb ho hat)
  go_cut [1]from 19 to 23 (λs1 wx=>s1= .int .i64 t/\ ∃q,wx=w1.drewN q)
  case first =>
   by_cases h0:target=0
   ·have adB:=hd' (KH H1.o');rw[au h0]at ht;subst h0;rw[<-ht]at adB;go_wp2_with (go_at_call 42;refine adB.o'.mono ?_;rintro e w2 ⟨rfl,hq⟩;have HQ:=hd' hq;clear hq)
    go_meet
    exact⟨aW _ ht.symm,HQ.o'⟩
   ·have q1:(target==0)=false:=by simpa using h0
    rw[aj h0]at ht;go_wp2_with fail
    go_meet
    exact⟨by rw[ht],0,rfl⟩
  case rest =>
  obtain⟨rfl,q,rfl⟩:=hcut;clear ht;have H2:=hd' (H1.o'.world (fM w1 q));have HB2:=hd' (aK HB.o' (fM w1 q));have HA2:=hd' (HA.o'.below (fM w1 q));have d0':(w1.drewN q).cell? ⟨lb,0,none⟩=some (.pointer (some ⟨tb,0,none⟩)):=d0;have d1':(w1.drewN q).cell? ⟨lb,1,none⟩=some (.pointer (some ⟨sb,0,none⟩)):=d1;have d3':(w1.drewN q).cell? ⟨lb,3,none⟩=some (.bool on):=d3;clear d0 d1 d3 H1 HB HA c0 c1 c3;generalize w1.drewN q=w2 at *;have HN5:=hd' (aco H2.o' t);cases on
  ·have HP2:Hid (aZ T l false target=(t,0)):=hd' (by rw[HP.o'];rfl);go_wp2_with fail
   go_ret2;exact⟨by rw[HP2.o'];rfl,HB2.o'⟩
  cases hn5:aI T t lC
  ·have HP2:Hid (aZ T l true target=(t,0)):=hd' (by rw[HP.o',hn5];rfl);rw[hn5]at HN5;go_wp2_with (go_at_call 189;refine HN5.o'.mono ?_;rintro e w3 ⟨rfl,hb⟩;have HB3:=hd' hb;clear hb)
   go_ret2;exact⟨by rw[HP2.o'];rfl,aK HB2.o' HB3.o'⟩
  have HP2:Hid (aZ T l true target=lW T (l.head?.getD 0) l.reverse):=hd' (by rw[HP.o',hn5];rfl);rw[hn5]at HN5
  have hvm:vc<=9223372036854775807/\l.length<=vc:=by
   obtain⟨_,_,he,k1,k2,_⟩:=hvc;injection he with _ _ e3;subst e3;exact⟨k2,k1⟩
  obtain⟨bb,o,hva⟩:=HA2.o'.tq (by intro h;have:=aW List.length h;rw[eu,kQ]at this;omega);subst hva;obtain⟨fst,akJ⟩: ∃fst,fst=l.head?.getD 0:=⟨_,rfl⟩;rw[<-akJ]at HP2;have hx0:=HA2.o'.get (fw l 0 hpos);have hf0:l[0]=fst:=by rw[akJ,List.head?_eq_getElem?,mi hpos];rfl
  rw[hf0]at hx0;clear hvc akJ hf0;go_wp2_with (go_at_call 189;refine HN5.o'.mono ?_;rintro e w3 ⟨rfl,hb⟩;have HB3:=hd' hb;clear hb)
  have H3:=hd' (H2.o'.world HB3.o');have HBT:=hd' (aK HB2.o' HB3.o');have e0':=aM HB3.o' d0';have e1':=aM HB3.o' d1';have ex0:=aM HB3.o' hx0;have HA3:=hd' (HA2.o'.below HB3.o');clear d0' d1' d3' hx0 HN5;go_loopw [7] (λi wr=> ∃k:Nat,k<=l.length/\i= .int .i64 ((k:Int)-1)/\Below w3.heap.size w3 wr/\lW T fst l.reverse=lW T fst (l.take k).reverse) (λi _=>(intOf i+1).toNat)
  case atStart=>exact⟨l.length,ay _,rfl,aQ _ _,by rw[iH (ay _)]⟩
  case round =>
   obtain⟨k,hk,rfl,hb,hv⟩:=hrel;have nJ:=hd' hb;have HV:=hd' hv;clear hv;cases k with
   |zero =>
    have f0:=aM hb ex0;rw[pM]at f0;clear hb;go_wp2_with fail
    go_ret2;exact⟨by rw[HP2.o',HV.o'];rfl,aK HBT.o' nJ.o'⟩
   |succ k =>
    have hlt:k<l.length:=by omega
    have hx:=aM hb (HA3.o'.get (fw l k hlt));have f0:=aM hb e0';have e1:((k+1:Nat):Int)-1=(k:Int):=by omega
    rw[e1];have HN:=hd' (acn (H3.o'.world hb) l[k]);have HST:=hd' (Y4 T fst l k hlt);obtain⟨x,Sb⟩: ∃x,x=l[k]:=⟨_,rfl⟩;rw[<-Sb]at hx HN HST;have Hr:=hd' (H3.o'.world hb);clear hb Sb;cases hnm:aI T x lH
    ·rw[hnm]at HN HST;go_wp2_with (go_at_call 189;refine HN.o'.mono ?_;rintro e w4 ⟨rfl,hb4⟩;have WX:=hd' hb4;clear hb4)
     go_round
     case rel=>exact⟨k,by omega,by go_num,aK nJ.o' WX.o',by rw[HV.o',HST.o'];rfl⟩
     case measure=>simp[intOf]
    ·rw[hnm,au rfl]at HST;rw[hnm]at HN;go_wp2_with (go_at_call 189;refine HN.o'.mono ?_;rintro e w4 ⟨rfl,hb4⟩;have WX:=hd' hb4;have z0:=aM hb4 f0;have zx:=aM hb4 hx;clear hb4)
     have H4:=hd' (Hr.o'.world WX.o');have aq9:Hid (∀u,LI w0 B tb sb lb ex T l aF true u->Calls prog 190 #[.pointer (some ⟨tb,0,none⟩),.int .i64 x] u λe w'=>e= .returned (.int .i64 (lq T x))/\u=w'):=hd' (λu hu=>adw hu x);have HBx:=hd' (aK (aK HBT.o' nJ.o') WX.o');generalize lq T x=pr at *;refine bX (by kernel_rfl) (by kernel_rfl) ?_
     repeat
      with_reducible refine jW (λK hK=> ?_)
      first
       |(with_reducible apply gK
         ·rfl
         ·intro wq hC;have zz0:=aM hC.o' z0;have zzx:=aM hC.o' zx;unfold Oper.quietAt;go_simp
          first|(go_at_call 190;refine(aq9.o' _ (H4.o'.world hC.o')).mono ?_;rintro e wx ⟨rfl,rfl⟩;exact⟨rfl,hC⟩)|with_reducible rfl
         simp only[Act.put,dV,dF,dK];refine hK _ ?_
         clear hK K)
     with_reducible refine jX ?_
     intro wq HQ;have zz0:=aM HQ.o' z0;have zzx:=aM HQ.o' zx;have HBy:=hd' (aK HBx.o' HQ.o');by_cases hp:0<=pr
     ·rw[au hp]at HST;go_wp2_with fail
      refine bX (by kernel_rfl) (by kernel_rfl) ?_
      repeat
       with_reducible refine jW (λK hK=> ?_)
       first
        |(with_reducible apply gK
          ·rfl
          ·intro wq hC;have ao':=aM hC.o' zzx;unfold Oper.quietAt;go_simp
           (with_reducible rfl)
          simp only[Act.put,dV,dF,dK];refine hK _ ?_
          clear hK K)
      with_reducible refine jX ?_
      intro wq HQ;have ao':=aM HQ.o' zzx;go_wp2_with fail
      go_ret2;exact⟨by rw[HP2.o',HV.o',HST.o'];rfl,aK HBy.o' HQ.o'⟩
     ·rw[aj hp]at HST;by_cases hk0:k=0
      ·subst hk0;rw[au rfl]at HST;go_wp2_with fail
       go_ret2;exact⟨by rw[HP2.o',HV.o',HST.o'];rfl,HBy.o'⟩
      ·obtain⟨j,rfl⟩: ∃j,k=j+1:=⟨k-1,by omega⟩;rw[aj hk0]at HST;have hjl:j<l.length:=by omega
       have hy:=aM (aK (aK nJ.o' WX.o') HQ.o') (HA3.o'.get (fw l j hjl));have ej:l.getD (j+1-1) 0=l[j]:=by simp[List.getD,mi hjl]
       rw[ej]at HST;generalize l[j]=y at *;clear hk0 ej;go_wp2_with fail
       go_ret2;exact⟨by rw[HP2.o',HV.o',HST.o'];rfl,HBy.o'⟩
end
noncomputable def aU (T:aB) (l:List Int) (on:Bool) (sp:Int) (nm:ae) (at':List dD):aB×List Int×Int×Int :=
 let m:=qz T (fQ sp nm at')
 if m.2.2=0 then((fe m.1 (aZ m.1 l on 0).1 (aZ m.1 l on 0).2 m.2.1).1,l++ [m.2.1],m.2.1,0)else(m.1,l,0,m.2.2)
section
variable {w0 w w':af} {B B' tb sb lb:Nat} {ex:Nat->Prop} {T T':aB} {l l' aF ent':List Int} {on on':Bool}
theorem JG (h:LI w0 B tb sb lb ex T l aF on w) (hl:l.length<1000000) (sp:Int) (nm:ae) (at':List dD) (n:Nat) (a:Option Addr) (c:Nat) (hnl:n=at'.length) (hc:a=none->c=0) (hlen:at'.length<=1048576) (ha:At w a (bz at')) :
 Calls prog 94 #[.pointer (some ⟨lb,0,none⟩),.int .i64 sp,.string nm,.slice a n c] w λe w' =>
  e= .returned (.tuple #[.int .i64 (aU T l on sp nm at').2.2.1,.int .i64 (aU T l on sp nm at').2.2.2])/\LI w0 B tb sb lb ex (aU T l on sp nm at').1 (aU T l on sp nm at').2.1 aF on w'/\az (Own w0 ex) w w':=by
 obtain⟨sa,sc,c0,c1,_⟩:=h.cells;have HE:=hd' (ajs h sp nm at' n a c hnl hc hlen ha);have HI:Hid (aU T l on sp nm at'=if(qz T (fQ sp nm at')).2.2=0 then((fe (qz T (fQ sp nm at')).1 (aZ (qz T (fQ sp nm at')).1 l on 0).1 (aZ (qz T (fQ sp nm at')).1 l on 0).2 (qz T (fQ sp nm at')).2.1).1,l++ [(qz T (fQ sp nm at')).2.1],(qz T (fQ sp nm at')).2.1,0)else((qz T (fQ sp nm at')).1,l,0,(qz T (fQ sp nm at')).2.2)):=hd' rfl;generalize qz T (fQ sp nm at')=m at *;obtain⟨U,x,er⟩:=m;simp only at HE HI;clear h hc ha hnl;by_cases he:er=0
 ·rw[au he]at HI;subst he;go_enter func94,ntmps94
  go_wp2_with (go_at_call 146;refine HE.o'.mono ?_;rintro e w1 ⟨rfl,h1,k1⟩;have HP:=hd' (N8 h1 0);have H1:=hd' h1;have K1:=hd' k1;clear h1 k1)
  refine HP.o'.mono ?_;rintro e w2 ⟨rfl,hb2⟩;have h2:=H1.o'.world hb2;obtain⟨sa2,sc2,d0,d1,_⟩:=h2.cells;have HB2:=hd' hb2;generalize aZ U l on 0=pl at *;obtain⟨p,b⟩:=pl;have aji:=hd' (N7 h2 p b x);clear h2 hb2;go_wp2_with (go_at_call 147;refine aji.o'.mono ?_;rintro e w3 ⟨rfl,h3,k3⟩;obtain⟨sa3,sc3,e0,e1,_⟩:=h3.cells;have anN:=hd' (WS h3 x hl);have K3:=hd' k3;clear h3 k3)
  refine anN.o'.mono ?_;rintro e w4 ⟨rfl,h4,k4⟩;have H4:=hd' h4;have K4:=hd' k4;clear h4 k4;go_wp2_with fail
  go_ret2;rw[HI.o'];exact⟨rfl,H4.o',((K1.o'.trans (az.bC HB2.o')).trans K3.o').trans K4.o'⟩
 ·rw[aj he]at HI;have he':(er==0)=false:=by simpa using he
  clear he;go_enter func94,ntmps94
  go_wp2_with (go_at_call 146;refine HE.o'.mono ?_;rintro e w1 ⟨rfl,h1,k1⟩;have H1:=hd' h1;have K1:=hd' k1;clear h1 k1)
  go_ret2;rw[HI.o'];exact⟨rfl,H1.o',K1.o'⟩
theorem ai0 (h:LI w0 B tb sb lb ex T l aF on w) (s:ae) {B':Nat} (hB:B+s.size<=B') (hB':B'<=9223372036854775807) :
 Calls prog 90 #[.pointer (some ⟨lb,0,none⟩),.string s] w λe w' =>
  e= .returned (.int .i64 (iG T (aZ T l on 0).1 (aZ T l on 0).2 s).2)/\LI w0 B' tb sb lb ex (iG T (aZ T l on 0).1 (aZ T l on 0).2 s).1 l aF on w'/\az (Own w0 ex) w w':=by
 have HP:=hd' (N8 h 0);have HL:=hd' h;clear h;obtain⟨p,b,hpl⟩: ∃p b,aZ T l on 0=(p,b):=⟨_,_,rfl⟩;rw[hpl]at HP |-;clear hpl;go_enter func90,ntmps90
 go_wp2_with fail
 refine HP.o'.mono ?_;rintro e w2 ⟨rfl,hb2⟩;have h2:=HL.o'.world hb2;obtain⟨sa2,sc2,d0,d1,_⟩:=h2.cells;have HB2:=hd' hb2;have HT:=hd' (agG h2 p b s hB hB');clear h2 hb2;go_wp2_with (go_at_call 145;refine HT.o'.mono ?_;rintro e w3 ⟨rfl,h3,k3⟩;have H3:=hd' h3;have K3:=hd' k3;clear h3 k3)
 go_ret;exact⟨rfl,H3.o',(az.bC HB2.o').trans K3.o'⟩
theorem adG (h:LI w0 B tb sb lb ex T l aF on w) (b:Bool) :
 Calls prog 91 #[.pointer (some ⟨lb,0,none⟩),.bool b] w λe w'=>e= .returned (.tuple #[])/\LI w0 B tb sb lb ex T l aF b w'/\az (Own w0 ex) w w':=by
 obtain⟨ge,h1,h2,h3,h4⟩:=h;obtain⟨a,c,c0,c1,c2,c3,hA,ho,f2,f3,hrow,hn,hne⟩:=h1.cells;have HO:=hd' ho;have HR:=hd' hrow;have H2:=hd' h2;have H3:=hd' h3;have H4:=hd' h4;have Kr:=hd' hne;clear hA ho hrow h1 h2 h3 h4 hne;go_enter func91,ntmps91
 go_wp2_with fail
 go_end0
 have hk:az (SB lb ge) w (w.setCell ⟨lb,3,none⟩ (.bool b)):=(az.refl _ _).set (p:=⟨lb,3,none⟩) (.inl (.inl rfl)) _
 have hl:vH (w.setCell ⟨lb,3,none⟩ (.bool b)) lb tb sb ge aF b:=⟨.slice a aF.length c,mr (i:=3) HR.o' _,HO.o'.kept (λk hk=>eG _ _ _ _ (λe=>Kr.o' (hk.trans (aW some e)))),Kr.o'⟩;exact⟨rfl,LI.xE H2.o' H3.o' H4.o' hl hk (λk hk=> .inl hk)⟩
theorem ai' (h:LI w0 B tb sb lb ex T l aF on w) (hle:aF.length<1000000) :
 Calls prog 112 #[.pointer (some ⟨lb,0,none⟩)] w λe w'=>e= .returned (.tuple #[])/\LI w0 B tb sb lb ex T l (aF++ [-1]) on w'/\az (Own w0 ex) w w':=by
 obtain⟨ge,h1,h2,h3,h4⟩:=h;obtain⟨n,hn1⟩: ∃n:Int,n= -1:=⟨_,rfl⟩;rw[<-hn1];have HM:=hd' hn1;have hlt:=h1.lt lb (.inl rfl);have hgl:=λk hk=>h1.lt k (.inr hk)
 obtain⟨a,c,c0,c1,c2,c3,hA,ho,f2,f3,hrow,hn,hne⟩:=h1.cells;have d1:(w.alloc (.cells #[.int .i64 n] 3)).heap[lb]?=w.heap[lb]?:=gu w _ hlt;have HQ:=hd' (ho.1.alloc (.cells #[.int .i64 n] 3));have HB0:Hid ((Value.slice a aF.length c).ownBlock=ge):=ho.2;have HN:=hd' (show At (w.alloc (.cells #[.int .i64 n] 3)) (some ⟨w.heap.size,0,none⟩) (bB [n])from jy rfl rfl);obtain⟨i0,hi,hz0,hz1,hz2⟩:=lY CZ;have b0:aF.length+1<=maxLen:=by unfold maxLen;omega
 have b1:(aF.length+1)*8<=140737488355328:=by omega
 have hsz:lb<(w.alloc (.cells #[.int .i64 n] 3)).heap.size:=by simp;omega
 have HR:=hd' (d1.trans hrow);have Kr:Hid (some lb≠(Value.slice a aF.length c).ownBlock):=hd' (by rw[HB0.o'];exact hne.symm);have HL:=hd' hgl;have HGS:=hd' hne;have H2:=hd' h2;have H3:=hd' h3;clear hrow ho hne hA d1 h1 h2 h3 hgl;go_enter func112,ntmps112
 rw[<-hn1];clear hn1;go_wp2_with (at_builtin;refine Qz _ rfl _ _ 65 rfl 0 3 i0 _ 1 8 oJ hi hz0 hz1 hz2 rfl (by decide) _ aF.length (bB aF) rfl HQ.o' ⟨w.heap.size,0,none⟩ 1 1 (bB [n]) rfl rfl HN.o'.news (jl _) (by decide) b0 b1 (bD _) (w.heap.size+1) (by simp) ?_;intro g2 cap2 w2 hown2 mU lV hlt2;have hb2:=(mU.block lb hsz Kr.o').trans HR.o';have HRR:=hd' hb2;have s1:=Row.cell (xs:= [.pointer (some ⟨tb,0,none⟩),.pointer (some ⟨sb,0,none⟩),.slice a aF.length c,.bool on]) ⟨_,_,_,_,hb2,rfl,.inr rfl⟩ (j:=2) rfl;have f1:=Row.frozen (xs:= [.pointer (some ⟨tb,0,none⟩),.pointer (some ⟨sb,0,none⟩),.slice a aF.length c,.bool on]) ⟨_,_,_,_,hb2,rfl,.inr rfl⟩ (j:=2) (by simp);have OJ:=hd' hown2;have HG2:=hd' mU;have HA2:=hd' lV;clear hown2 mU hb2 lV)
 go_end0
 have hg2:ge=some g2\/w.heap.size+1=g2:=by
  rcases HA2.o' with h|h
  ·exact .inl (HB0.o'.symm.trans h)
  ·exact .inr h.symm
 have hne2:g2≠lb:=by
  rintro rfl;rcases hg2 with h|h
  ·exact HGS.o' h
  ·omega
 have hk:az (SB lb ge) w (w2.setCell ⟨lb,2,none⟩ (.slice (some ⟨g2,0,none⟩) (aF.length+1) cap2)):=(C8 ((az.refl _ _).alloc _) HG2.o' λk hk=> .inl (.inr (HB0.o'.symm.trans hk))).set (p:=⟨lb,2,none⟩) (.inl (.inl rfl)) _
 have hls:vH (w2.setCell ⟨lb,2,none⟩ (.slice (some ⟨g2,0,none⟩) (aF.length+1) cap2)) lb tb sb (some g2) (aF++ [n]) on:=by
  refine⟨.slice (some ⟨g2,0,none⟩) (aF.length+1) cap2,mr (i:=2) HRR.o' _,⟨?_,rfl⟩,by simpa using hne2⟩;have:=gH OJ.o' (w':=w2.setCell ⟨lb,2,none⟩ (.slice (some ⟨g2,0,none⟩) (aF.length+1) cap2)) λb hb=>eG _ _ _ _ (by simp only[Value.ownBlock,dQ]at hb;subst hb;exact hne2)
  rw[jI,fC];exact this
 exact⟨rfl,LI.xE H2.o' H3.o' (by rw[fC,sS];omega) hls hk (λk hk=>by cases hk;exact hg2.imp id (λh=>by omega))⟩
theorem JB (h:LI w0 B tb sb lb ex T l aF on w) (n:Int) :
 Calls prog 160 #[.pointer (some ⟨lb,0,none⟩),.int .i64 n] w λe w'=>e= .returned (.tuple #[])/\LI w0 B tb sb lb ex T l (vg aF n) on w'/\az (Own w0 ex) w w':=by
 have HF:=hd' (GJ h n);have HD:=hd' (KD h (aT aF n) (dC aF n).2.1);clear h;go_enter func160,ntmps160
 go_wp2_with (first|(go_at_call 201;refine HF.o'.mono ?_;rintro e w1 ⟨rfl,rfl⟩)|(go_at_call 200;refine HD.o'.mono ?_;rintro e w1 ⟨rfl,h1,k1⟩;have H1:=hd' h1;have K1:=hd' k1;clear h1 k1))
 go_end0
 exact⟨rfl,H1.o',K1.o'⟩
end
end Go.Proofs.YtnlbcifhedjbfaaGreatDoor
end
section
namespace Go.Proofs.YtnlbcifhedjbfaaGreatDoor
open Go.RowKit Mem
theorem aeI (p q:dD):(!((p.1.toList==q.1.toList)&&(p.2.toList==q.2.toList)))= !decide (p=q):=by
 rcases p with⟨p1,p2⟩;rcases q with⟨q1,q2⟩;congr 1;by_cases h1:p1=q1
 ·by_cases h2:p2=q2
  ·simp[h1,h2]
  ·have:p2.toList≠q2.toList:=λe=>h2 (toList_inj e)
   simp[h2,this]
 ·have:p1.toList≠q1.toList:=λe=>h1 (toList_inj e)
  simp[h1,this]
theorem Zv:prog.underlying 128=some (.struct (prog.fieldsOf 128)):=by kernel_rfl
theorem Zw:prog.stoodInHeld 128=false:=by kernel_rfl
theorem af' (p q:dD) (u:af):(binOp .eql 128 (.agg #[.string p.1,.string p.2]) (.agg #[.string q.1,.string q.2])).run prog u= .ok (.bool (decide (p=q))) u:=by
 rw[<-Bool.not_not (decide (p=q)),<-aeI,run_eql_struct,show(10000:Nat)=9999+1 from rfl,run_equalIn_agg _ _ _ _ _ Zv Zw];simp[go_sem,Op.eqFields];by_cases h1:p.1.toList=q.1.toList <;>by_cases h2:p.2.toList=q.2.toList <;>simp[h1,h2]
end Go.Proofs.YtnlbcifhedjbfaaGreatDoor
end
