/- oZ joined for a claim: awK, arF, atu, aw9, aw3, awZ: plain laws and contracts. No conditions beyond those that each lemma types. -/
import Derived.Test.YtnlbcifhedjbfaaGreatDoorU07
set_option linter.unusedVariables false
set_option linter.unusedSimpArgs false
open Go.Proofs.Tryz
namespace Go.Proofs.YtnlbcifhedjbfaaGreatDoor
open Go.RowKit Mem
section
def qh (p1 p2 s1 s2 k1 k2 k6 ann mg ma svg:Bool):Bool :=
 (s1||s2)&& !k6&& !(p1&&(k1||k2&& !mg&& !ma))&& !(p2&&(k1||k2))&& !(s2&&ann&&k2&&svg)
def iA (p aN:Int) (ah:ae) (aH:Int) (fP:ae):Bool :=
 qh (p==1) (p==2) (aN==1) (aN==2) (aH==1) (aH==2) (aH==6) (ah.toList==([97,110,110,111,116,97,116,105,111,110,45,120,109,108]:List ax)) (fP.toList==([109,103,108,121,112,104]:List ax)) (fP.toList==([109,97,108,105,103,110,109,97,114,107]:List ax)) (fP.toList==([115,118,103]:List ax))
section
variable (ah:ae) (aA:List dD) (a:Option Addr) (c:Nat) (fP:ae) (ma:Option Addr) (mn mc:Nat) (self:Bool) (aL:ae) (w:af)
theorem Sr (aN aH:Int) (h1:(aN==1)=false) (h2:(aN==2)=false) :
 Calls prog 37 #[.int .i64 aN,.string ah,.slice a aA.length c,nC aH fP ma mn mc self aL] w λe w'=>e= .returned (.bool (iA (gT aN ah aA) aN ah aH fP))/\Below w.heap.size w w':=by
 have h1':(aN !=1)=true:=by simpa using h1
 have h2':(aN !=2)=true:=by simpa using h2
 go_enter BJ,BG
 go_wp2_with fail
 go_ret;exact⟨bJ (by rw[iA];simp[qh,h1,h2]),(aQ _ _).alloc (ay _) _⟩
theorem VW (aN:Int) (hs:aN=1\/aN=2) :
 Calls prog 37 #[.int .i64 aN,.string ah,.slice a aA.length c,nC 6 fP ma mn mc self aL] w λe w'=>e= .returned (.bool (iA (gT aN ah aA) aN ah 6 fP))/\Below w.heap.size w w':=by
 rcases hs with rfl|rfl
 all_goals
  go_enter BJ,BG
  go_wp2_with fail
  go_ret;exact⟨bJ (by rw[iA];simp[qh]),(aQ _ _).alloc (ay _) _⟩
theorem Sq (aN p:Int) (hs:aN=1\/aN=2) (hp:p=0\/p=1\/p=2)
 (HC:Hid (∀u,Below w.heap.size w u->Calls prog 54 #[.int .i64 aN,.string ah,.slice a aA.length c] u λe w'=>e= .returned (.int .i64 p)/\Below u.heap.size u w')) :
 Calls prog 37 #[.int .i64 aN,.string ah,.slice a aA.length c,nC 1 fP ma mn mc self aL] w λe w'=>e= .returned (.bool (iA p aN ah 1 fP))/\Below w.heap.size w w':=by
 cases han:(ah.toList==([97,110,110,111,116,97,116,105,111,110,45,120,109,108]:List ax))
 all_goals
  rcases hs with rfl|rfl
  all_goals
   rcases hp with rfl|rfl|rfl
   all_goals
    go_enter BJ,BG
    go_wp2_with (go_at_call 54;refine(HC.o' _ ((aQ _ _).alloc (ay _) _)).mono ?_;rintro e w1 ⟨rfl,hb1⟩;have f0:w1.cell? ⟨w.heap.size,0,none⟩=_:=aM hb1 (um w _ _ 0);have f1:w1.cell? ⟨w.heap.size,1,none⟩=_:=aM hb1 (um w _ _ 1);have HB1:=hd' hb1;clear hb1)
    go_ret;exact⟨bJ (by rw[iA];simp[qh, *]),aK ((aQ _ _).alloc (ay _) _) HB1.o'⟩
theorem Oy (aN p aH:Int) (hs:aN=1\/aN=2) (hp:p=0\/p=1\/p=2) (hk1:(aH==1)=false) (hk2:(aH==2)=false) (hk6:(aH==6)=false)
 (HC:Hid (∀u,Below w.heap.size w u->Calls prog 54 #[.int .i64 aN,.string ah,.slice a aA.length c] u λe w'=>e= .returned (.int .i64 p)/\Below u.heap.size u w')) :
 Calls prog 37 #[.int .i64 aN,.string ah,.slice a aA.length c,nC aH fP ma mn mc self aL] w λe w'=>e= .returned (.bool (iA p aN ah aH fP))/\Below w.heap.size w w':=by
 cases han:(ah.toList==([97,110,110,111,116,97,116,105,111,110,45,120,109,108]:List ax))
 all_goals
  rcases hs with rfl|rfl
  all_goals
   rcases hp with rfl|rfl|rfl
   all_goals
    go_enter BJ,BG
    go_wp2_with (go_at_call 54;refine(HC.o' _ ((aQ _ _).alloc (ay _) _)).mono ?_;rintro e w1 ⟨rfl,hb1⟩;have f0:w1.cell? ⟨w.heap.size,0,none⟩=_:=aM hb1 (um w _ _ 0);have f1:w1.cell? ⟨w.heap.size,1,none⟩=_:=aM hb1 (um w _ _ 1);have HB1:=hd' hb1;clear hb1)
    go_ret;exact⟨bJ (by rw[iA];simp[qh, *]),aK ((aQ _ _).alloc (ay _) _) HB1.o'⟩
theorem DY (aN p:Int) (hs:aN=1\/aN=2) (hp:p=0\/p=2)
 (HC:Hid (∀u,Below w.heap.size w u->Calls prog 54 #[.int .i64 aN,.string ah,.slice a aA.length c] u λe w'=>e= .returned (.int .i64 p)/\Below u.heap.size u w')) :
 Calls prog 37 #[.int .i64 aN,.string ah,.slice a aA.length c,nC 2 fP ma mn mc self aL] w λe w'=>e= .returned (.bool (iA p aN ah 2 fP))/\Below w.heap.size w w':=by
 cases han:(ah.toList==([97,110,110,111,116,97,116,105,111,110,45,120,109,108]:List ax))
 all_goals
  cases hsv:(fP.toList==([115,118,103]:List ax))
  all_goals
   rcases hs with rfl|rfl
   all_goals
    rcases hp with rfl|rfl
    all_goals
     go_enter BJ,BG
     go_wp2_with (go_at_call 54;refine(HC.o' _ ((aQ _ _).alloc (ay _) _)).mono ?_;rintro e w1 ⟨rfl,hb1⟩;have f0:w1.cell? ⟨w.heap.size,0,none⟩=_:=aM hb1 (um w _ _ 0);have f1:w1.cell? ⟨w.heap.size,1,none⟩=_:=aM hb1 (um w _ _ 1);have HB1:=hd' hb1;clear hb1)
     go_ret;exact⟨bJ (by rw[iA];simp[qh, *]),aK ((aQ _ _).alloc (ay _) _) HB1.o'⟩
theorem Nn (aN:Int) (hs:aN=1\/aN=2)
 (HC:Hid (∀u,Below w.heap.size w u->Calls prog 54 #[.int .i64 aN,.string ah,.slice a aA.length c] u λe w'=>e= .returned (.int .i64 1)/\Below u.heap.size u w')) :
 Calls prog 37 #[.int .i64 aN,.string ah,.slice a aA.length c,nC 2 fP ma mn mc self aL] w λe w'=>e= .returned (.bool (iA 1 aN ah 2 fP))/\Below w.heap.size w w':=by
 by_cases hmg:fP.toList=([109,103,108,121,112,104]:List ax)
 ·cases han:(ah.toList==([97,110,110,111,116,97,116,105,111,110,45,120,109,108]:List ax))
  all_goals
   rcases hs with rfl|rfl
   all_goals
    go_enter BJ,BG
    go_wp2_with (go_at_call 54;refine(HC.o' _ ((aQ _ _).alloc (ay _) _)).mono ?_;rintro e w1 ⟨rfl,hb1⟩;have f0:w1.cell? ⟨w.heap.size,0,none⟩=_:=aM hb1 (um w _ _ 0);have f1:w1.cell? ⟨w.heap.size,1,none⟩=_:=aM hb1 (um w _ _ 1);have HB1:=hd' hb1;clear hb1)
    go_ret;exact⟨bJ (by rw[iA];simp[qh, *]),aK ((aQ _ _).alloc (ay _) _) HB1.o'⟩
 ·have apE:(fP.toList==([109,103,108,121,112,104]:List ax))=false:=by simpa using hmg
  by_cases hma:fP.toList=([109,97,108,105,103,110,109,97,114,107]:List ax)
  ·clear hmg apE;cases han:(ah.toList==([97,110,110,111,116,97,116,105,111,110,45,120,109,108]:List ax))
   all_goals
    rcases hs with rfl|rfl
    all_goals
     go_enter BJ,BG
     go_wp2_with (go_at_call 54;refine(HC.o' _ ((aQ _ _).alloc (ay _) _)).mono ?_;rintro e w1 ⟨rfl,hb1⟩;have f0:w1.cell? ⟨w.heap.size,0,none⟩=_:=aM hb1 (um w _ _ 0);have f1:w1.cell? ⟨w.heap.size,1,none⟩=_:=aM hb1 (um w _ _ 1);have HB1:=hd' hb1;clear hb1)
     go_ret;exact⟨bJ (by rw[iA];simp[qh, *]),aK ((aQ _ _).alloc (ay _) _) HB1.o'⟩
  ·have auS:(fP.toList==([109,97,108,105,103,110,109,97,114,107]:List ax))=false:=by simpa using hma
   clear hmg hma;rcases hs with rfl|rfl
   all_goals
    go_enter BJ,BG
    go_wp2_with (go_at_call 54;refine(HC.o' _ ((aQ _ _).alloc (ay _) _)).mono ?_;rintro e w1 ⟨rfl,hb1⟩;have f0:w1.cell? ⟨w.heap.size,0,none⟩=_:=aM hb1 (um w _ _ 0);have f1:w1.cell? ⟨w.heap.size,1,none⟩=_:=aM hb1 (um w _ _ 1);have HB1:=hd' hb1;clear hb1)
    go_ret;exact⟨bJ (by rw[iA];simp[qh, *]),aK ((aQ _ _).alloc (ay _) _) HB1.o'⟩
theorem Su (aN p aH:Int) (hp:p=0\/p=1\/p=2) (hpf:p=gT aN ah aA)
 (HC:Hid (∀u,Below w.heap.size w u->Calls prog 54 #[.int .i64 aN,.string ah,.slice a aA.length c] u λe w'=>e= .returned (.int .i64 p)/\Below u.heap.size u w')) :
 Calls prog 37 #[.int .i64 aN,.string ah,.slice a aA.length c,nC aH fP ma mn mc self aL] w λe w'=>e= .returned (.bool (iA p aN ah aH fP))/\Below w.heap.size w w':=by
 by_cases hs:aN=1\/aN=2
 ·by_cases h6:aH=6
  ·subst h6 hpf;exact VW ah aA a c fP ma mn mc self aL w aN hs
  ·by_cases h1:aH=1
   ·subst h1;exact Sq ah aA a c fP ma mn mc self aL w aN p hs hp HC
   ·by_cases h2:aH=2
    ·subst h2;rcases hp with h|h|h
     ·exact DY ah aA a c fP ma mn mc self aL w aN p hs (.inl h) HC
     ·subst h;exact Nn ah aA a c fP ma mn mc self aL w aN hs HC
     ·exact DY ah aA a c fP ma mn mc self aL w aN p hs (.inr h) HC
    ·exact Oy ah aA a c fP ma mn mc self aL w aN p aH hs hp (by simpa using h1) (by simpa using h2) (by simpa using h6) HC
 ·subst hpf;exact Sr ah aA a c fP ma mn mc self aL w aN aH (by simp;omega) (by simp;omega)
end
theorem RA (aN:Int) (ah:ae) (aA:List dD):gT aN ah aA=0\/gT aN ah aA=1\/gT aN ah aA=2:=by
 unfold gT;split
 ·split <;>simp
 ·split
  ·split
   ·simp
   ·split
    ·split <;>simp
    ·simp
  ·simp
theorem Cw (aN:Int) (ah:ae) (aA:List dD) (a:Option Addr) (c:Nat) (aH:Int) (fP:ae) (ma:Option Addr) (mn mc:Nat) (self:Bool) (aL:ae) (w:af)
 (hl:aA.length<=maxLen) (hs: ∀p∈aA,p.2.size<=maxLen) (ha:At w a (bz aA)) :
 Calls prog 37 #[.int .i64 aN,.string ah,.slice a aA.length c,nC aH fP ma mn mc self aL] w λe w'=>e= .returned (.bool (iA (gT aN ah aA) aN ah aH fP))/\Below w.heap.size w w':=by
 exact Su ah aA a c fP ma mn mc self aL w aN _ aH (RA aN ah aA) rfl (hd' λu hu=>Ps aN ah aA a c u hl (Fy aA _ hs) (ha.below hu))
end
structure aO where
 aH:Int
 ah:ae
 aA:List dD
 self:Bool
 aL:ae
structure aC where
 S:AS
 on:Bool
 aD:Int
 mV:Int
 head:Int
 iJ:ae
 skip:Bool
 raw:Int
 ah:ae
 dJ:Int
 /--how many bytes of aL were put (no part of the program's) -/
 used:Nat
def dh (names:List ae) (x:ae):Bool:=fU names x&& !x.toList.isEmpty
def cB (m:aO) (names:List ae):Bool:=(m.aH==2)&&dh names m.ah
def iO (m:aO) (names:List ae):Bool:=(m.aH==3)&&dh names m.ah
namespace aC
def fail (b:aC) (e:Int):aC:=if b.dJ=0 then {b with dJ:=e}else b
def keep (b:aC) (e:Int):aC:=if e=0 then b else b.fail e
def top (b:aC):Int:=b.S.l.getLast?.getD 0
def qm (b:aC):Int:=aX b.S.T b.top
def DK (b:aC):ae:=bq b.S.T b.top
def at' (b:aC) (names:List ae):Bool:=(b.qm==0)&&dh names b.DK
noncomputable def jv (b:aC) (sp:Int) (ah:ae) (aA:List dD):aC×Int :=
 let r:=aU b.S.T b.S.l b.on sp ah aA
 (({b with S:=⟨r.1,r.2.1,b.S.aF⟩}).keep r.2.2.2,r.2.2.1)
noncomputable def ins (b:aC) (ah:ae) (aA:List dD):aC:=(b.jv 0 ah aA).1
noncomputable def yX (b:aC) (ah:ae) (aA:List dD):Int:=(b.jv 0 ah aA).2
def iq (b:aC) (s:ae):aC :=
 let p:=aZ b.S.T b.S.l b.on 0
 let r:=iG b.S.T p.1 p.2 s
 ({b with S:=⟨r.1,b.S.l,b.S.aF⟩,used:=b.used+s.size}).keep r.2
def oP (b:aC) (l:List Int):aC:= {b with S:=⟨b.S.T,l,b.S.aF⟩}
def lst (b:aC) (aF:List Int):aC:= {b with S:=⟨b.S.T,b.S.l,aF⟩}
def pop (b:aC):aC:=b.oP b.S.l.dropLast
def push (b:aC) (n:Int):aC:=b.oP (b.S.l++ [n])
def ll (b:aC) (n:Int):aC:=b.oP (vg b.S.l n)
def mG (b:aC) (names:List ae):aC:=b.oP (fH b.S.T names b.S.l.reverse).reverse
def clear' (b:aC) (names:List ae):aC:=b.oP (lh b.S.T names b.S.l.reverse).reverse
def jw (b:aC) (but:ae):aC:=b.oP (jG b.S.T but b.S.l.reverse).reverse
def has (b:aC) (scope:Int) (names:List ae):Bool:=afY b.S.T b.S.l scope names
def vz (b:aC):aC:=b.lst (b.S.aF++ [-1])
def tK (b:aC):aC:=b.lst (SA b.S.aF)
def PS (b:aC) (n:Int):aC:=b.lst (Bj b.S.T b.S.aF n)
def Ay (b:aC) (n:Int):aC:=b.lst (vg b.S.aF n)
def find (b:aC) (ah:ae):Int:=findF b.S.T b.S.aF ah
noncomputable def dx (b:aC):aC:=({b with S:=(mP b.on b.S).1}).keep (mP b.on b.S).2
noncomputable def ow (b:aC) (ah:ae):aC:=({b with S:=(gW b.on ah b.S).1}).keep (gW b.on ah b.S).2.2
noncomputable def Tg (b:aC) (ah:ae):Bool:=(gW b.on ah b.S).2.1
def goto (b:aC) (aD:Int):aC:= {b with aD:=aD}
def Rn (b:aC) (v:Bool):aC:= {b with skip:=v}
end aC
def isSp (c:ax):Bool:=([9,10,12,13,32]:List ax).contains c
def Vq (l:List ax):ae:=⟨l.toArray⟩
def gz (s:ae):ae:=Vq (s.toList.takeWhile isSp)
def mQ (s:ae):ae:=Vq (s.toList.dropWhile isSp)
def agx:List ae:= [⟨#[97,100,100,114,101,115,115]⟩,⟨#[97,114,116,105,99,108,101]⟩,⟨#[97,115,105,100,101]⟩,⟨#[98,108,111,99,107,113,117,111,116,101]⟩,⟨#[99,101,110,116,101,114]⟩,⟨#[100,101,116,97,105,108,115]⟩,⟨#[100,105,97,108,111,103]⟩,⟨#[100,105,114]⟩,⟨#[100,105,118]⟩,⟨#[100,108]⟩,⟨#[102,105,101,108,100,115,101,116]⟩,⟨#[102,105,103,99,97,112,116,105,111,110]⟩,⟨#[102,105,103,117,114,101]⟩,⟨#[102,111,111,116,101,114]⟩,⟨#[102,111,114,109]⟩,⟨#[104,101,97,100,101,114]⟩,⟨#[104,103,114,111,117,112]⟩,⟨#[109,97,105,110]⟩,⟨#[109,101,110,117]⟩,⟨#[110,97,118]⟩,⟨#[111,108]⟩,⟨#[112]⟩,⟨#[115,101,99,116,105,111,110]⟩,⟨#[115,117,109,109,97,114,121]⟩,⟨#[117,108]⟩]
def kN:List ae:= [⟨#[104,49]⟩,⟨#[104,50]⟩,⟨#[104,51]⟩,⟨#[104,52]⟩,⟨#[104,53]⟩,⟨#[104,54]⟩]
def ajN:List ae:= [⟨#[98]⟩,⟨#[98,105,103]⟩,⟨#[99,111,100,101]⟩,⟨#[101,109]⟩,⟨#[102,111,110,116]⟩,⟨#[105]⟩,⟨#[115]⟩,⟨#[115,109,97,108,108]⟩,⟨#[115,116,114,105,107,101]⟩,⟨#[115,116,114,111,110,103]⟩,⟨#[116,116]⟩,⟨#[117]⟩]
def aal:List ae:= [⟨#[99,97,112,116,105,111,110]⟩,⟨#[99,111,108]⟩,⟨#[99,111,108,103,114,111,117,112]⟩,⟨#[116,98,111,100,121]⟩,⟨#[116,100]⟩,⟨#[116,102,111,111,116]⟩,⟨#[116,104]⟩,⟨#[116,104,101,97,100]⟩,⟨#[116,114]⟩]
def SL (x:ae):Bool:=dh agx x
def kY (x:ae):Bool:=dh kN x
def Kz (x:ae):Bool:=dh ajN x
def BZ (m:aO):Bool:=cB m aal
namespace aC
noncomputable def pE (b:aC) (m:aO) (aD:Int):aC :=
 let c:=b.ins m.ah m.aA
 {c with raw:=aD,ah:=m.ah,mV:=c.aD,aD:=5}
noncomputable def single (b:aC) (ah:ae) (aA:List dD):aC:=(b.ins ah aA).pop
noncomputable def gV (b:aC) (m:aO):aC×Bool :=
 if cB m [⟨#[98,97,115,101]⟩,⟨#[98,97,115,101,102,111,110,116]⟩,⟨#[98,103,115,111,117,110,100]⟩,⟨#[108,105,110,107]⟩,⟨#[109,101,116,97]⟩]then((b.ins m.ah m.aA).pop,true)
 else if cB m [⟨#[116,105,116,108,101]⟩]then(b.pE m 1,true)
 else if cB m [⟨#[115,116,121,108,101]⟩,⟨#[115,99,114,105,112,116]⟩,⟨#[110,111,102,114,97,109,101,115]⟩]then(b.pE m 2,true)
 else(b,false)
def eQ (b:aC) (m:aO):aC:=if m.aH==1 then(if(gz m.aL).toList.isEmpty then b else b.iq (gz m.aL))else b
def bR (m:aO):aO:=if m.aH==1 then {m with aL:=mQ m.aL}else m
def wh (m:aO):Bool:=(m.aH==1)&&(mQ m.aL).toList.isEmpty
noncomputable def oh (b:aC) (m0:aO):aC×aO×Bool :=
 let m:=bR m0
 if wh m0 then(b,m,false)
 else if(m.aH==3)&& !(iO m [⟨#[104,101,97,100]⟩,⟨#[98,111,100,121]⟩,⟨#[104,116,109,108]⟩,⟨#[98,114]⟩])then(b,m,false)
 else if cB m [⟨#[104,116,109,108]⟩]then((b.goto 1).ins (⟨#[104,116,109,108]⟩:ae) m.aA,m,false)
 else((b.goto 1).ins (⟨#[104,116,109,108]⟩:ae) [],m,true)
noncomputable def Cu (b:aC) (aA:List dD):aC:= {b.ins (⟨#[104,101,97,100]⟩:ae) aA with head:=b.yX (⟨#[104,101,97,100]⟩:ae) aA}
noncomputable def om (b:aC) (m0:aO):aC×aO×Bool :=
 let m:=bR m0
 if wh m0 then(b,m,false)
 else if cB m [⟨#[104,116,109,108]⟩]||(m.aH==3)&& !(iO m [⟨#[104,101,97,100]⟩,⟨#[98,111,100,121]⟩,⟨#[104,116,109,108]⟩,⟨#[98,114]⟩])then(b,m,false)
 else if cB m [⟨#[104,101,97,100]⟩]then((b.goto 2).Cu m.aA,m,false)
 else((b.goto 2).Cu [],m,true)
noncomputable def rU (b0:aC) (m0:aO):aC×aO×Bool :=
 let b:=b0.eQ m0
 let m:=bR m0
 if wh m0 then(b,m,false)
 else if(b.gV m).2 then((b.gV m).1,m,false)
 else if cB m [⟨#[104,116,109,108]⟩,⟨#[104,101,97,100]⟩]then(b,m,false)
 else if iO m [⟨#[104,101,97,100]⟩]then(b.pop.goto 3,m,false)
 else if(m.aH==3)&& !(iO m [⟨#[98,111,100,121]⟩,⟨#[104,116,109,108]⟩,⟨#[98,114]⟩])then(b,m,false)
 else(b.pop.goto 3,m,true)
noncomputable def kE (b0:aC) (m0:aO):aC×aO×Bool :=
 let b:=b0.eQ m0
 let m:=bR m0
 if wh m0 then(b,m,false)
 else if cB m [⟨#[104,116,109,108]⟩,⟨#[104,101,97,100]⟩,⟨#[102,114,97,109,101,115,101,116]⟩]then(b,m,false)
 else if cB m [⟨#[98,111,100,121]⟩]then((b.ins (⟨#[98,111,100,121]⟩:ae) m.aA).goto 4,m,false)
 else if cB m [⟨#[98,97,115,101]⟩,⟨#[98,97,115,101,102,111,110,116]⟩,⟨#[98,103,115,111,117,110,100]⟩,⟨#[108,105,110,107]⟩,⟨#[109,101,116,97]⟩,⟨#[116,105,116,108,101]⟩,⟨#[115,116,121,108,101]⟩,⟨#[115,99,114,105,112,116]⟩,⟨#[110,111,102,114,97,109,101,115]⟩]then((((b.push b.head).gV m).1).ll b.head,m,false)
 else if(m.aH==3)&& !(iO m [⟨#[98,111,100,121]⟩,⟨#[104,116,109,108]⟩,⟨#[98,114]⟩])then(b,m,false)
 else((b.ins (⟨#[98,111,100,121]⟩:ae) []).goto 4,m,true)
def qf (b:aC) (m:aO):aC×aO×Bool :=
 if m.aH==1 then(b.iq m.aL,m,false)else(b.pop.goto b.mV,m,m.aH !=3)
noncomputable def gB (b:aC):aC:=if b.has 2 [⟨#[112]⟩]then(b.jw (⟨#[112]⟩:ae)).mG [⟨#[112]⟩]else b
def tO (names:List ae) (b:aC):List Int->aC
 | []=>b
 |x::r =>
  if(aX b.S.T x==0)&&dh names (bq b.S.T x)then(b.jw (bq b.S.T x)).mG [bq b.S.T x]
  else if gJ (aX b.S.T x) (bq b.S.T x)&& !((aX b.S.T x==0)&&dh [⟨#[97,100,100,114,101,115,115]⟩,⟨#[100,105,118]⟩,⟨#[112]⟩] (bq b.S.T x))then b
  else tO names b r
def item (b:aC) (names:List ae):aC:=tO names b b.S.l.reverse
def ui (b:aC) (x:Int):aC:=b.oP (((b.S.l.reverse.dropWhile λy=>y !=x).drop 1).reverse)
def oL (want:ae) (b:aC):List Int->aC
 | []=>b
 |x::r =>
  if(aX b.S.T x==0)&&dh [want] (bq b.S.T x)then(b.jw want).ui x
  else if gJ (aX b.S.T x) (bq b.S.T x)then b
  else oL want b r
def other (b:aC) (want:ae):aC:=oL want b b.S.l.reverse
noncomputable def forms (b:aC) (m:aO):aC :=
 let c:=b.dx
 if c.yX m.ah m.aA=0 then c.ins m.ah m.aA else(c.ins m.ah m.aA).PS (c.yX m.ah m.aA)
noncomputable def ng (b:aC) (m:aO):aC :=
 if m.ah.toList==([116,101,120,116,97,114,101,97]:List ax)then(b.pE m 1).Rn true
 else if m.ah.toList==([120,109,112]:List ax)then(b.gB.dx).pE m 2
 else b.pE m 2
noncomputable def phrases (b:aC) (m:aO):aC :=
 let b1:=if m.ah.toList==([98,117,116,116,111,110]:List ax)then(if b.has 0 [⟨#[98,117,116,116,111,110]⟩]then(b.jw ⟨#[]⟩).mG [⟨#[98,117,116,116,111,110]⟩]else b)
  else if(m.ah.toList==([111,112,116,105,111,110]:List ax))||(m.ah.toList==([111,112,116,103,114,111,117,112]:List ax))then(if b.at' [⟨#[111,112,116,105,111,110]⟩]then b.pop else b)else b
 let b2:=b1.dx.ins m.ah m.aA
 if dh [⟨#[97,112,112,108,101,116]⟩,⟨#[109,97,114,113,117,101,101]⟩,⟨#[111,98,106,101,99,116]⟩] m.ah then b2.vz else b2
noncomputable def uk (b:aC) (m:aO) (sp:Int):aC :=
 let c:=(b.jv sp (oq sp m.ah) (jb sp m.aA)).1
 if m.self then c.pop else c
noncomputable def blocks (b:aC) (m:aO):aC :=
 let b1:=if m.ah.toList==([108,105]:List ax)then b.item [⟨#[108,105]⟩]else if(m.ah.toList==([100,100]:List ax))||(m.ah.toList==([100,116]:List ax))then b.item [⟨#[100,100]⟩,⟨#[100,116]⟩]else b
 let b2:=b1.gB
 let b3:=if kY m.ah&&b2.at' kN then b2.pop else b2
 if(!(kY m.ah&&b2.at' kN))&&(m.ah.toList==([104,114]:List ax))then b2.single (⟨#[104,114]⟩:ae) m.aA
 else
  let b4:=b3.ins m.ah m.aA
  if(m.ah.toList==([112,114,101]:List ax))||(m.ah.toList==([108,105,115,116,105,110,103]:List ax))then b4.Rn true
  else if m.ah.toList==([116,97,98,108,101]:List ax)then b4.goto 6 else b4
noncomputable def opens (b:aC) (m:aO):aC×aO :=
 if dh [⟨#[104,116,109,108]⟩,⟨#[98,111,100,121]⟩,⟨#[102,114,97,109,101,115,101,116]⟩,⟨#[102,114,97,109,101]⟩,⟨#[104,101,97,100]⟩,⟨#[99,97,112,116,105,111,110]⟩,⟨#[99,111,108]⟩,⟨#[99,111,108,103,114,111,117,112]⟩,⟨#[116,98,111,100,121]⟩,⟨#[116,100]⟩,⟨#[116,102,111,111,116]⟩,⟨#[116,104]⟩,⟨#[116,104,101,97,100]⟩,⟨#[116,114]⟩] m.ah then(b,m)
 else if(b.gV m).2 then((b.gV m).1,m)
 else if SL m.ah||kY m.ah||dh [⟨#[112,114,101]⟩,⟨#[108,105,115,116,105,110,103]⟩,⟨#[108,105]⟩,⟨#[100,100]⟩,⟨#[100,116]⟩,⟨#[116,97,98,108,101]⟩,⟨#[104,114]⟩] m.ah then(b.blocks m,m)
 else if m.ah.toList==([97]:List ax)then
  (let b1:=if b.find (⟨#[97]⟩:ae)=0 then b else((b.ow (⟨#[97]⟩:ae)).Ay (b.find (⟨#[97]⟩:ae))).ll (b.find (⟨#[97]⟩:ae))
   b1.forms m,m)
 else if Kz m.ah then(b.forms m,m)
 else if m.ah.toList==([110,111,98,114]:List ax)then
  (let b1:=b.dx
   let b2:=if b1.has 0 [⟨#[110,111,98,114]⟩]then b1.ow (⟨#[110,111,98,114]⟩:ae)else b1
   b2.forms m,m)
 else if dh [⟨#[112,97,114,97,109]⟩,⟨#[115,111,117,114,99,101]⟩,⟨#[116,114,97,99,107]⟩] m.ah then(b.single m.ah m.aA,m)
 else if dh [⟨#[97,114,101,97]⟩,⟨#[98,114]⟩,⟨#[101,109,98,101,100]⟩,⟨#[105,109,103]⟩,⟨#[105,109,97,103,101]⟩,⟨#[105,110,112,117,116]⟩,⟨#[107,101,121,103,101,110]⟩,⟨#[119,98,114]⟩] m.ah then
  (let m1:aO:=if m.ah.toList==([105,109,97,103,101]:List ax)then {m with ah:=(⟨#[105,109,103]⟩:ae)}else m
   (b.dx.single m1.ah m1.aA,m1))
 else if dh [⟨#[116,101,120,116,97,114,101,97]⟩,⟨#[120,109,112]⟩,⟨#[105,102,114,97,109,101]⟩,⟨#[110,111,101,109,98,101,100]⟩] m.ah then(b.ng m,m)
 else if dh [⟨#[115,118,103]⟩,⟨#[109,97,116,104]⟩] m.ah then(b.dx.uk m (if m.ah.toList==([115,118,103]:List ax)then 1 else 2),m)
 else(b.phrases m,m)
def gZ (b:aC) (scope:Int) (but:ae) (names:List ae):aC:=if b.has scope names then(b.jw but).mG names else b
noncomputable def closes (b:aC) (m:aO):aC×Bool :=
 if dh [⟨#[98,111,100,121]⟩,⟨#[104,116,109,108]⟩] m.ah then(if b.has 0 [⟨#[98,111,100,121]⟩]then(b.goto 12,m.ah.toList==([104,116,109,108]:List ax))else(b,false))
 else if m.ah.toList==([112]:List ax)then((if b.has 2 [⟨#[112]⟩]then b else b.ins (⟨#[112]⟩:ae) []).gB,false)
 else if SL m.ah||dh [⟨#[98,117,116,116,111,110]⟩,⟨#[108,105,115,116,105,110,103]⟩,⟨#[112,114,101]⟩] m.ah then(b.gZ 0 ⟨#[]⟩ [m.ah],false)
 else if m.ah.toList==([108,105]:List ax)then(b.gZ 1 (⟨#[108,105]⟩:ae) [⟨#[108,105]⟩],false)
 else if dh [⟨#[100,100]⟩,⟨#[100,116]⟩] m.ah then(b.gZ 0 m.ah [m.ah],false)
 else if kY m.ah then(b.gZ 0 ⟨#[]⟩ kN,false)
 else if(m.ah.toList==([97]:List ax))||(m.ah.toList==([110,111,98,114]:List ax))||Kz m.ah then
  (if !(b.Tg m.ah)&&((b.ow m.ah).dJ==0)then(b.ow m.ah).other m.ah else b.ow m.ah,false)
 else if dh [⟨#[97,112,112,108,101,116]⟩,⟨#[109,97,114,113,117,101,101]⟩,⟨#[111,98,106,101,99,116]⟩] m.ah then(if b.has 0 [m.ah]then(b.gZ 0 ⟨#[]⟩ [m.ah]).tK else b,false)
 else if m.ah.toList==([98,114]:List ax)then(b.dx.single (⟨#[98,114]⟩:ae) [],false)
 else(b.other m.ah,false)
noncomputable def eO (b:aC) (m:aO):aC×aO×Bool :=
 if m.aH==1 then(b.dx.iq m.aL,m,false)
 else if m.aH==2 then((b.opens m).1,(b.opens m).2,false)
 else if m.aH==3 then((b.closes m).1,m,(b.closes m).2)
 else(b,m,false)
noncomputable def lU (b0:aC) (m0:aO):aC×aO×Bool :=
 let b:=if(m0.aH==1)&& !(gz m0.aL).toList.isEmpty then(b0.eO ⟨1,⟨#[]⟩,[],false,gz m0.aL⟩).1 else b0
 let m:=bR m0
 if wh m0 then(b,m,false)
 else if cB m [⟨#[104,116,109,108]⟩]||iO m [⟨#[104,116,109,108]⟩]||(m.aH==6)then(b,m,false)
 else(b.goto 4,m,true)
noncomputable def uf (b:aC) (m:aO):aC×aO×Bool :=
 let r:=({b with on:=true}).eO m
 ({r.1 with on:=false},r.2.1,r.2.2)
noncomputable def flush (b:aC):aC :=
 let c:= {b with iJ:=⟨#[]⟩}
 if b.iJ.toList.isEmpty then c
 else if(mQ b.iJ).toList.isEmpty then c.iq b.iJ
 else(c.uf ⟨1,⟨#[]⟩,[],false,b.iJ⟩).1
def jO (T:aB):List Int->Int
 | []=>4
 |x::r =>
  if aX T x≠0 then jO T r
  else if((bq T x).toList==([116,100]:List ax))||((bq T x).toList==([116,104]:List ax))then 11
  else if((bq T x).toList==([116,114]:List ax))then 10
  else if((bq T x).toList==([116,98,111,100,121]:List ax))||((bq T x).toList==([116,104,101,97,100]:List ax))||((bq T x).toList==([116,102,111,111,116]:List ax))then 9
  else if((bq T x).toList==([99,97,112,116,105,111,110]:List ax))then 7
  else if((bq T x).toList==([99,111,108,103,114,111,117,112]:List ax))then 8
  else if((bq T x).toList==([116,97,98,108,101]:List ax))then 6
  else if((bq T x).toList==([98,111,100,121]:List ax))then 4
  else jO T r
def reset (b:aC):aC:=b.goto (jO b.S.T b.S.l.reverse)
noncomputable def iE (b:aC) (m:aO):aC×aO×Bool :=
 if(m.aH==1)&&b.at' [⟨#[116,97,98,108,101]⟩,⟨#[116,98,111,100,121]⟩,⟨#[116,102,111,111,116]⟩,⟨#[116,104,101,97,100]⟩,⟨#[116,114]⟩]then({b with iJ:=b.iJ++m.aL},m,false)
 else if cB m [⟨#[99,97,112,116,105,111,110]⟩]then((((b.clear' [⟨#[116,97,98,108,101]⟩,⟨#[104,116,109,108]⟩]).vz).ins (⟨#[99,97,112,116,105,111,110]⟩:ae) m.aA).goto 7,m,false)
 else if cB m [⟨#[99,111,108,103,114,111,117,112]⟩]then(((b.clear' [⟨#[116,97,98,108,101]⟩,⟨#[104,116,109,108]⟩]).ins (⟨#[99,111,108,103,114,111,117,112]⟩:ae) m.aA).goto 8,m,false)
 else if cB m [⟨#[99,111,108]⟩]then(((b.clear' [⟨#[116,97,98,108,101]⟩,⟨#[104,116,109,108]⟩]).ins (⟨#[99,111,108,103,114,111,117,112]⟩:ae) []).goto 8,m,true)
 else if cB m [⟨#[116,98,111,100,121]⟩,⟨#[116,102,111,111,116]⟩,⟨#[116,104,101,97,100]⟩]then(((b.clear' [⟨#[116,97,98,108,101]⟩,⟨#[104,116,109,108]⟩]).ins m.ah m.aA).goto 9,m,false)
 else if cB m [⟨#[116,100]⟩,⟨#[116,104]⟩,⟨#[116,114]⟩]then(((b.clear' [⟨#[116,97,98,108,101]⟩,⟨#[104,116,109,108]⟩]).ins (⟨#[116,98,111,100,121]⟩:ae) []).goto 9,m,true)
 else if cB m [⟨#[116,97,98,108,101]⟩]||iO m [⟨#[116,97,98,108,101]⟩]then(if b.has 3 [⟨#[116,97,98,108,101]⟩]then((b.mG [⟨#[116,97,98,108,101]⟩]).reset,m,m.aH==2)else(b,m,false))
 else if iO m [⟨#[98,111,100,121]⟩,⟨#[99,97,112,116,105,111,110]⟩,⟨#[99,111,108]⟩,⟨#[99,111,108,103,114,111,117,112]⟩,⟨#[104,116,109,108]⟩,⟨#[116,98,111,100,121]⟩,⟨#[116,100]⟩,⟨#[116,102,111,111,116]⟩,⟨#[116,104]⟩,⟨#[116,104,101,97,100]⟩,⟨#[116,114]⟩]then(b,m,false)
 else if cB m [⟨#[115,116,121,108,101]⟩,⟨#[115,99,114,105,112,116]⟩]&&(b.gV m).2 then((b.gV m).1,m,false)
 else if m.aH==6 then(b,m,false)
 else b.uf m
noncomputable def iW (b:aC) (m:aO):aC×aO×Bool :=
 if iO m [⟨#[99,97,112,116,105,111,110]⟩]||BZ m||iO m [⟨#[116,97,98,108,101]⟩]then
  (if b.has 3 [⟨#[99,97,112,116,105,111,110]⟩]then((((b.jw ⟨#[]⟩).mG [⟨#[99,97,112,116,105,111,110]⟩]).tK).goto 6,m,!(iO m [⟨#[99,97,112,116,105,111,110]⟩]))else(b,m,false))
 else if iO m [⟨#[98,111,100,121]⟩,⟨#[99,111,108]⟩,⟨#[99,111,108,103,114,111,117,112]⟩,⟨#[104,116,109,108]⟩,⟨#[116,98,111,100,121]⟩,⟨#[116,100]⟩,⟨#[116,102,111,111,116]⟩,⟨#[116,104]⟩,⟨#[116,104,101,97,100]⟩,⟨#[116,114]⟩]then(b,m,false)
 else b.eO m
noncomputable def iV (b0:aC) (m0:aO):aC×aO×Bool :=
 let b:=b0.eQ m0
 let m:=bR m0
 if wh m0 then(b,m,false)
 else if cB m [⟨#[104,116,109,108]⟩]||iO m [⟨#[99,111,108]⟩]||(m.aH==6)then(b,m,false)
 else if cB m [⟨#[99,111,108]⟩]then(b.single (⟨#[99,111,108]⟩:ae) m.aA,m,false)
 else if !(b.at' [⟨#[99,111,108,103,114,111,117,112]⟩])then(b,m,false)
 else(b.pop.goto 6,m,!(iO m [⟨#[99,111,108,103,114,111,117,112]⟩]))
noncomputable def oM (b:aC) (m:aO):aC×aO×Bool :=
 if cB m [⟨#[116,114]⟩,⟨#[116,104]⟩,⟨#[116,100]⟩]then
  (let c:=(b.clear' [⟨#[116,98,111,100,121]⟩,⟨#[116,102,111,111,116]⟩,⟨#[116,104,101,97,100]⟩,⟨#[104,116,109,108]⟩]).goto 10
   if m.ah.toList==([116,114]:List ax)then(c.ins (⟨#[116,114]⟩:ae) m.aA,m,false)else(c.ins (⟨#[116,114]⟩:ae) [],m,true))
 else if iO m [⟨#[116,98,111,100,121]⟩,⟨#[116,102,111,111,116]⟩,⟨#[116,104,101,97,100]⟩]then(if b.has 3 [m.ah]then((b.clear' [⟨#[116,98,111,100,121]⟩,⟨#[116,102,111,111,116]⟩,⟨#[116,104,101,97,100]⟩,⟨#[104,116,109,108]⟩]).pop.goto 6,m,false)else(b,m,false))
 else if cB m [⟨#[99,97,112,116,105,111,110]⟩,⟨#[99,111,108]⟩,⟨#[99,111,108,103,114,111,117,112]⟩,⟨#[116,98,111,100,121]⟩,⟨#[116,102,111,111,116]⟩,⟨#[116,104,101,97,100]⟩]||iO m [⟨#[116,97,98,108,101]⟩]then
  (if b.has 3 [⟨#[116,98,111,100,121]⟩,⟨#[116,102,111,111,116]⟩,⟨#[116,104,101,97,100]⟩]then((b.clear' [⟨#[116,98,111,100,121]⟩,⟨#[116,102,111,111,116]⟩,⟨#[116,104,101,97,100]⟩,⟨#[104,116,109,108]⟩]).pop.goto 6,m,true)else(b,m,false))
 else if iO m [⟨#[98,111,100,121]⟩,⟨#[99,97,112,116,105,111,110]⟩,⟨#[99,111,108]⟩,⟨#[99,111,108,103,114,111,117,112]⟩,⟨#[104,116,109,108]⟩,⟨#[116,100]⟩,⟨#[116,104]⟩,⟨#[116,114]⟩]then(b,m,false)
 else b.iE m
noncomputable def uj (b:aC) (m:aO):aC×aO×Bool :=
 if cB m [⟨#[116,104]⟩,⟨#[116,100]⟩]then((((b.clear' [⟨#[116,114]⟩,⟨#[104,116,109,108]⟩]).ins m.ah m.aA).goto 11).vz,m,false)
 else if iO m [⟨#[116,98,111,100,121]⟩,⟨#[116,102,111,111,116]⟩,⟨#[116,104,101,97,100]⟩]&& !(b.has 3 [m.ah])then(b,m,false)
 else if iO m [⟨#[116,114]⟩,⟨#[116,97,98,108,101]⟩,⟨#[116,98,111,100,121]⟩,⟨#[116,102,111,111,116]⟩,⟨#[116,104,101,97,100]⟩]||BZ m then
  (if b.has 3 [⟨#[116,114]⟩]then((b.clear' [⟨#[116,114]⟩,⟨#[104,116,109,108]⟩]).pop.goto 9,m,!(iO m [⟨#[116,114]⟩]))else(b,m,false))
 else if iO m [⟨#[98,111,100,121]⟩,⟨#[99,97,112,116,105,111,110]⟩,⟨#[99,111,108]⟩,⟨#[99,111,108,103,114,111,117,112]⟩,⟨#[104,116,109,108]⟩,⟨#[116,100]⟩,⟨#[116,104]⟩]then(b,m,false)
 else b.iE m
noncomputable def leave (b:aC) (names:List ae):aC:=(((b.jw ⟨#[]⟩).mG names).tK).goto 10
noncomputable def oN (b:aC) (m:aO):aC×aO×Bool :=
 if iO m [⟨#[116,100]⟩,⟨#[116,104]⟩]then(if b.has 3 [m.ah]then(b.leave [m.ah],m,false)else(b,m,false))
 else if BZ m then(if b.has 3 [⟨#[116,100]⟩,⟨#[116,104]⟩]then(b.leave [⟨#[116,100]⟩,⟨#[116,104]⟩],m,true)else(b,m,false))
 else if iO m [⟨#[98,111,100,121]⟩,⟨#[99,97,112,116,105,111,110]⟩,⟨#[99,111,108]⟩,⟨#[99,111,108,103,114,111,117,112]⟩,⟨#[104,116,109,108]⟩]then(b,m,false)
 else if iO m [⟨#[116,97,98,108,101]⟩,⟨#[116,98,111,100,121]⟩,⟨#[116,102,111,111,116]⟩,⟨#[116,104,101,97,100]⟩,⟨#[116,114]⟩]then(if b.has 3 [m.ah]then(b.leave [⟨#[116,100]⟩,⟨#[116,104]⟩],m,true)else(b,m,false))
 else b.eO m
noncomputable def fE (b:aC) (m:aO):aC×aO×Bool :=
 if b.aD=0 then b.oh m
 else if b.aD=1 then b.om m
 else if b.aD=2 then b.rU m
 else if b.aD=3 then b.kE m
 else if b.aD=4 then b.eO m
 else if b.aD=5 then b.qf m
 else if b.aD=6 then b.iE m
 else if b.aD=7 then b.iW m
 else if b.aD=8 then b.iV m
 else if b.aD=9 then b.oM m
 else if b.aD=10 then b.uj m
 else if b.aD=11 then b.oN m
 else b.lU m
def jQ (b:aC):List Int->aC
 | []=>b.oP []
 |x::r =>
  if(aX b.S.T x==0)||(gT (aX b.S.T x) (bq b.S.T x) (bW b.S.T x) !=0)then b.oP (x::r).reverse else jQ b r
def LY (s:ae):ae:=Vq (s.toList.map λc=>if 65<=c/\c<=90 then c+32 else c)
noncomputable def gX (m:aO) (b:aC):List Int->aC×aO×Bool
 | []=>(b,m,false)
 | [_]=>(b,m,false)
 |x::y::r =>
  if aX b.S.T x=0 then b.fE m
  else if(LY (bq b.S.T x)).toList=m.ah.toList then(b.ui x,m,false)
  else gX m b (y::r)
noncomputable def dE (b:aC) (m:aO) (sp:Int):aC×aO×Bool :=
 if m.aH==1 then(b.iq m.aL,m,false)
 else if kL m.aH m.ah m.aA then(b.jQ b.S.l.reverse).fE m
 else if m.aH==2 then(b.uk m sp,m,false)
 else if m.aH==3 then gX m b b.S.l.reverse
 else(b,m,false)
noncomputable def once (b:aC) (m:aO):aC×aO×Bool :=
 if iA (gT b.qm b.DK (bW b.S.T b.top)) b.qm b.DK m.aH m.ah then b.dE m b.qm else b.fE m
noncomputable def again:Nat->aC->aO->aC
 |0,b,_=>b
 |n+1,b,m=>if b.dJ=0 then(if(b.once m).2.2 then again n (b.once m).1 (b.once m).2.1 else(b.once m).1)else b
end aC
theorem GR {T:aB} {x:Int} (h:aY T x=true):0<=x/\x<T.ai.length:=by
 unfold aY xF at h;simp at h;omega
theorem Rm {n:Int} (hn:n≠ -1): ∀(e:List Int) (i:Nat),(e.set i n).count (-1)<=e.count (-1)
 | [],_=>ay _
 |x::r,0=>by
  rw[dF,Ls,Ls,aj (by simpa using hn)];omega
 |x::r,i+1=>by
  rw[dK,Ls,Ls];have:=Rm hn r i;omega
theorem CS (b:Int): ∀(r:List Int) (c:Nat) (S:TS),(eB b r c S).1.aF.count (-1)<=S.aF.count (-1)
 | [],_,_=>ay _
 |x::r,c,S=>by
  rw[eB];split
  ·split
   ·exact bY (CS b r (c+1) _) ((nG _ _).count_le _)
   ·split
    ·rename_i h0 _ he;obtain⟨hn, -⟩:=Dn he;exact bY (CS b r (c+1) ⟨(fe (dm S.T x).1 (dm S.T x).2.1 0 S.last).1,oO S.l x (dm S.T x).2.1,S.aF.set (aT S.aF x).toNat (dm S.T x).2.1,if S.last=b then aT S.aF x+1 else S.keep,(dm S.T x).2.1⟩) (Rm (by rw[hn];omega) _ _)
    ·exact ay _
  ·exact CS b r (c+1) _
theorem Zh {T:aB} {l aF:List Int} (f b keep:Int):(jE T l aF f b keep).2.2.1.count (-1)<=aF.count (-1):=by
 unfold jE;split
 ·rename_i he;obtain⟨hn, -⟩:=Dn he;refine bY (uu (Cq _ _ _ _)) ?_;rw[aj (by rw[hn];omega)];exact(nG _ _).count_le _
 ·exact ay _
theorem abx {T:aB} {l aF:List Int} (on:Bool) (f b:Int):(gN T l aF on f b).2.2.1.count (-1)<=aF.count (-1):=by
 have h1:=CS b (df l f b).reverse 1 ⟨T,l,aF,aT aF f,b⟩;unfold gN;simp only;split
 ·exact bY (Zh _ _ _) h1
 ·exact h1
theorem NV (on:Bool) (ah:ae): ∀(r t:Nat) (S:AS),(jF on ah r t S).1.aF.count (-1)<=S.aF.count (-1)
 |0,_,_=>ay _
 |r+1,t,S=>by
  rw[jF];split
  ·exact ay _
  ·split
   ·exact(nY _ _).count_le _
   ·split
    ·exact ay _
    ·split
     ·exact(nY _ _).count_le _
     ·have h1:=abx (T:=S.T) (l:=S.l) (aF:=S.aF) on (findF S.T S.aF ah) (ik S.T S.l (findF S.T S.aF ah));split
      ·exact bY (NV on ah r (t+1) ⟨_,_,_⟩) h1
      ·exact h1
theorem ZC (S:AS) (on:Bool) (ah:ae):(gW on ah S).1.aF.count (-1)<=S.aF.count (-1):=by
 unfold gW;split
 ·exact ay _
 ·exact NV on ah 8 0 S
theorem Ph (on:Bool): ∀(r i:Nat) (S:AS),(qU on r i S).1.aF.count (-1)<=S.aF.count (-1)
 |0,_,_=>ay _
 |r+1,i,S=>by
  rw[qU];split
  ·rename_i he;by_cases hmm:(S.T.ai.length:Int)-1<S.T.gy
   ·obtain⟨q1,q2,q3⟩:=nM hmm S.l on (aX S.T (S.aF.getD i 0)) (bq S.T (S.aF.getD i 0)) (bW S.T (S.aF.getD i 0));have hn:(aU S.T S.l on (aX S.T (S.aF.getD i 0)) (bq S.T (S.aF.getD i 0)) (bW S.T (S.aF.getD i 0))).2.2.1=S.T.ai.length:=aW Prod.fst q2;exact bY (Ph on r (i+1) ⟨(aU S.T S.l on (aX S.T (S.aF.getD i 0)) (bq S.T (S.aF.getD i 0)) (bW S.T (S.aF.getD i 0))).1,(aU S.T S.l on (aX S.T (S.aF.getD i 0)) (bq S.T (S.aF.getD i 0)) (bW S.T (S.aF.getD i 0))).2.1,S.aF.set i (aU S.T S.l on (aX S.T (S.aF.getD i 0)) (bq S.T (S.aF.getD i 0)) (bW S.T (S.aF.getD i 0))).2.2.1⟩) (Rm (by rw[hn];omega) _ _)
   ·rw[mK hmm]at he;cases he
  ·exact ay _
theorem abU (S:AS) (on:Bool):(mP on S).1.aF.count (-1)<=S.aF.count (-1):=Ph on _ _ S
theorem ab2 (T:aB) (aF:List Int) {n:Int} (hn:n≠ -1):(Bj T aF n).count (-1)<=aF.count (-1):=by
 unfold Bj;have h1:([n]:List Int).count (-1)=0:=Es.2 λh=>hn (dG.1 h).symm
 rw[Et,h1];split
 ·exact(nG _ _).count_le _
 ·exact ay _
theorem RO: ∀(n:Nat) (e:List Int),(∀x∈e,x= -1\/(0<=x/\x<n))->(∀x,x≠ -1->e.count x<=1)->e.length<=e.count (-1)+n
 |0,e,h,_=>by
  rw[List.count_eq_length.2 λx hx=>by rcases h x hx with h|h <;>omega]
  exact ay _
 |n+1,e,h,h1=>by
  have hf: ∀x,x≠(n:Int)->(e.filter λy=>y !=(n:Int)).count x=e.count x:=λx hx=>List.count_filter (by simpa using hx)
  have h0:(e.filter λy=>y !=(n:Int)).count (n:Int)=0:=Es.2 λhx=>by simpa using (qE.1 hx).2
  have:=RO n (e.filter λy=>y !=(n:Int)) (λx hx=>by
   obtain⟨hx1,hx2⟩:=qE.1 hx;have hne:x≠(n:Int):=by simpa using hx2
   rcases h x hx1 with h|h
   ·exact .inl h
   ·exact .inr (by omega)) (λx hx=>by
   by_cases hxn:x=(n:Int)
   ·rw[hxn,h0];omega
   ·rw[hf x hxn];exact h1 x hx)
  rw[hf (-1) (by omega)]at this;have hl:=List.length_eq_countP_add_countP (λy=>y !=(n:Int)) (l:=e);rw[<-List.countP_eq_length_filter]at this
  have hc:e.countP (λy=>decide ¬((y !=(n:Int))=true))=e.count (n:Int):=by
   rw[List.count];congr 1;funext y;cases h:(y==(n:Int)) <;>simp[bne,h]
  have:=h1 (n:Int) (by omega);rw[hc]at hl;omega
theorem FI.aiD {T:aB} {l aF:List Int} (h:FI T l aF):aF.length<=aF.count (-1)+T.ai.length :=
 RO _ _ (λx hx=>(h.eel x hx).imp id GR) h.one
theorem FI.amA {T:aB} {l aF:List Int} (h:FI T l aF):l.length<=T.ai.length:=by
 have:=RO T.ai.length l (λx hx=> .inr (GR (h.lel x hx))) (λx _=>h.lnd x);have h0:l.count (-1)=0:=Es.2 λhx=>by have:=GR (h.lel _ hx);omega
 omega
section
def Bq (P:ae->List dD->Prop) (T:aB):Prop:=P ⟨#[]⟩ []/\ ∀d∈T.ai,P d.ah d.aA
section
variable {P:ae->List dD->Prop} {T:aB}
theorem uN (h:Bq P T) (n:Int):P (bq T n) (bW T n):=by
 unfold bq bW;split
 ·cases e:T.ai[n.toNat]? with
  |none=>exact h.1
  |some d=>exact h.2 d (El e)
 ·exact h.1
theorem aa8 (h:Bq P T) {d:ND} (hd:P d.ah d.aA):Bq P (bL T d):=⟨h.1,λx hx=>by
 rcases fB.1 hx with hx|hx
 ·exact h.2 x hx
 ·rw[dG.1 hx];exact hd⟩
theorem Gn (h:Bq P T) (n:Int) {f:ND->ND} (hf: ∀d,(f d).ah=d.ah/\(f d).aA=d.aA):Bq P (iK T n f):=⟨h.1,λx hx=>by
 obtain⟨i,hi⟩:=List.mem_iff_getElem?.1 hx;simp only[iK,xg]at hi;cases e:T.ai[i]? with
 |none=>rw[e]at hi;cases hi
 |some d =>
  rw[e]at hi;have hd:=h.2 d (El e);simp only[Option.map_eq_map,sP,dQ]at hi;rw[<-hi];split
  ·rw[(hf d).1,(hf d).2];exact hd
  ·exact hd⟩
theorem YG (h:Bq P T) {d:ND} (hd:P d.ah d.aA):Bq P (qz T d).1:=by
 unfold qz;split
 ·exact aa8 h hd
 ·exact h
theorem Gz (h:Bq P T) (n:Int):Bq P (dm T n).1:=by
 unfold dm;split
 ·exact YG h (uN h n)
 ·exact h
theorem Na (h:Bq P T) (a:Int) (i:Nat) (n:Int):Bq P (eF T a i n):=Gn (f:=fo a) (Gn (f:=iC _) h _ λ_=>⟨rfl,rfl⟩) _ λ_=>⟨rfl,rfl⟩
theorem ad8 (h:Bq P T) (n:Int):Bq P (bG T n):=by
 refine Gn (f:=fo (-1)) ?_ _ λ_=>⟨rfl,rfl⟩
 unfold iD;split
 ·exact Gn (f:=iC _) h _ λ_=>⟨rfl,rfl⟩
 ·exact h
theorem F7 (h:Bq P T) (a b n:Int):Bq P (fe T a b n).1:=by
 unfold fe;split
 ·exact Na (ad8 h n) _ _ _
 ·exact h
theorem Vn (b:Int): ∀(l:List Int) (U:aB),Bq P U->Bq P (moveF U b l)
 | [],_,h=>h
 |_::r,_,h=>Vn b r _ (F7 h _ _ _)
theorem ae4 (h:Bq P T) (a b:Int):Bq P (kD T a b).1:=by
 unfold kD;split
 ·exact Vn _ _ _ h
 ·exact h
theorem ad6 (h:Bq P T) (a b:Int) (s:ae):Bq P (iG T a b s).1:=by
 unfold iG;split
 ·split
  ·exact h
  ·unfold vR;split
   ·exact Gn (f:=iQ s) h _ λ_=>⟨rfl,rfl⟩
   ·split
    ·exact Na (aa8 h h.1) _ _ _
    ·exact h
 ·exact h
theorem E5 (h:Bq P T) (l:List Int) (on:Bool) (sp:Int) (nm:ae) {at':List dD} (ha:P nm at'):Bq P (aU T l on sp nm at').1:=by
 unfold aU;simp only;split
 ·exact F7 (YG h ha) _ _ _
 ·exact YG h ha
theorem FL (b:Int): ∀(r:List Int) (c:Nat) (S:TS),Bq P S.T->Bq P (eB b r c S).1.T
 | [],_,_,h=>h
 |x::r,c,S,h=>by
  rw[eB];split
  ·split
   ·exact FL b r (c+1) _ h
   ·split
    ·exact FL b r (c+1) _ (F7 (Gz h x) _ _ _)
    ·exact Gz h x
  ·exact FL b r (c+1) _ h
theorem ac4 (h:Bq P T) (l aF:List Int) (f b keep:Int):Bq P (jE T l aF f b keep).1:=by
 unfold jE;split
 ·exact F7 (ae4 (Gz h f) _ _) _ _ _
 ·exact Gz h f
theorem adZ (h:Bq P T) (l aF:List Int) (on:Bool) (f b:Int):Bq P (gN T l aF on f b).1:=by
 have h1:=FL b (df l f b).reverse 1 ⟨T,l,aF,aT aF f,b⟩ h;unfold gN;simp only;split
 ·exact ac4 (F7 h1 _ _ _) _ _ _ _ _
 ·exact h1
theorem Qs (on:Bool) (ah:ae): ∀(r t:Nat) (S:AS),Bq P S.T->Bq P (jF on ah r t S).1.T
 |0,_,_,h=>h
 |r+1,t,S,h=>by
  rw[jF];split
  ·exact h
  ·split
   ·exact h
   ·split
    ·exact h
    ·split
     ·exact h
     ·have h1:=adZ h S.l S.aF on (findF S.T S.aF ah) (ik S.T S.l (findF S.T S.aF ah));split
      ·exact Qs on ah r (t+1) ⟨_,_,_⟩ h1
      ·exact h1
theorem adr {S:AS} (h:Bq P S.T) (on:Bool) (ah:ae):Bq P (gW on ah S).1.T:=by
 unfold gW;split
 ·exact h
 ·exact Qs on ah 8 0 S h
theorem UA (on:Bool): ∀(r i:Nat) (S:AS),Bq P S.T->Bq P (qU on r i S).1.T
 |0,_,_,h=>h
 |r+1,i,S,h=>by
  rw[qU];have h1:=E5 h S.l on (aX S.T (S.aF.getD i 0)) (bq S.T (S.aF.getD i 0)) (uN h (S.aF.getD i 0));split
  ·exact UA on r (i+1) ⟨_,_,_⟩ h1
  ·exact h1
theorem aep {S:AS} (h:Bq P S.T) (on:Bool):Bq P (mP on S).1.T:=UA on _ _ S h
end
def NZ:dD->Prop:=λp=>p.2.size<=maxLen
def Fits (nm:ae) (l:List dD):Prop:=nm.size<=maxLen/\ ∀p∈l,NZ p
theorem Du {nm:ae} (h:nm.size<=maxLen):Fits nm []:=⟨h,λ_ hp=>absurd hp (by simp)⟩
end
section
structure Ok (c:Nat) (s:Int) (b:aC):Prop where
 fi:FI b.S.T b.S.l b.S.aF
 n1:1<=b.S.T.ai.length
 lm:Lm 1000 b.S.T
 hard:b.S.aF.count (-1)<=c
 soft:b.dJ=0->(b.S.aF.count (-1):Int)<=b.S.T.ai.length+s
 at':Bq Fits b.S.T
namespace aC
theorem vW (b:aC) (e:Int):(b.keep e).S=b.S:=by
 unfold keep fail;split
 ·rfl
 ·split <;>rfl
theorem ou {b:aC} {e:Int} (h:(b.keep e).dJ=0):e=0/\b.dJ=0:=by
 unfold keep fail at h;split at h
 ·exact⟨‹_›,h⟩
 ·split at h
  ·exact absurd h ‹_›
  ·exact absurd h ‹_›
theorem wR (b:aC):b.keep 0=b:=by simp[keep]
theorem tL (b:aC) (e:Int):(b.keep e).on=b.on/\(b.keep e).aD=b.aD/\(b.keep e).mV=b.mV/\(b.keep e).head=b.head/\(b.keep e).iJ=b.iJ/\(b.keep e).skip=b.skip/\(b.keep e).raw=b.raw/\(b.keep e).ah=b.ah/\(b.keep e).used=b.used:=by
 unfold keep fail;split
 ·exact⟨rfl,rfl,rfl,rfl,rfl,rfl,rfl,rfl,rfl⟩
 ·split <;>exact⟨rfl,rfl,rfl,rfl,rfl,rfl,rfl,rfl,rfl⟩
end aC
section
variable {c:Nat} {s:Int} {b:aC}
theorem Ok.len (h:Ok c s b):b.S.l.length<=1001/\b.S.aF.length<=c+1001:=by
 have h1:=h.fi.amA;have h2:=h.fi.aiD;have h3:=h.lm.1;have h4:=h.hard;omega
theorem Ok.more {c':Nat} {s':Int} (h:Ok c s b) (hc:c<=c') (hs:s<=s'):Ok c' s' b :=
 ⟨h.fi,h.n1,h.lm,bY h.hard hc,λhe=>by have:=h.soft he;omega,h.at'⟩
theorem Ok.of {b':aC} (h:Ok c s b) (hS:b'.S=b.S) (he:b'.dJ=0->b.dJ=0):Ok c s b' :=
 ⟨hS▸h.fi,hS▸h.n1,hS▸h.lm,hS▸h.hard,λe=>hS▸h.soft (he e),hS▸h.at'⟩
theorem Ok.keep (h:Ok c s b) (e:Int):Ok c s (b.keep e):=h.of (b.vW e) λhe=>(aC.ou he).2
theorem Ok.fresh (h:Ok c 0 b) (he:b.dJ=0):Ok 1001 0 b:=by
 have h1:=h.soft he;have h2:=h.lm.1;exact⟨h.fi,h.n1,h.lm,by omega,h.soft,h.at'⟩
theorem Ok.jv (h:Ok c s b) (sp:Int) (ah:ae) {aA:List dD} (ha:Fits ah aA):Ok c (s-1) (b.jv sp ah aA).1:=by
 have e:(b.jv sp ah aA).1.S=⟨(aU b.S.T b.S.l b.on sp ah aA).1,(aU b.S.T b.S.l b.on sp ah aA).2.1,b.S.aF⟩:=aC.vW _ _;refine⟨?_,?_,?_,?_,λhe=> ?_,?_⟩
 ·rw[e];exact h.fi.insert h.n1 b.on sp ah aA
 ·rw[e];exact bY h.n1 (ym b.S.T b.S.l b.on sp ah aA).1
 ·rw[e];exact rR h.lm _ _ _ _ _
 ·rw[e];exact h.hard
 ·obtain⟨h1,h2⟩:=aC.ou he;rw[e];by_cases hm:(b.S.T.ai.length:Int)-1<b.S.T.gy
  ·have:=h.soft h2;have h3:=(nM hm b.S.l b.on sp ah aA).2.2;show(b.S.aF.count (-1):Int)<=((aU b.S.T b.S.l b.on sp ah aA).1.ai.length:Int)+(s-1);rw[h3];omega
  ·rw[mK hm]at h1;exact absurd (show(43:Int)=0 from h1) (by decide)
 ·rw[e];exact E5 h.at' _ _ _ _ ha
theorem Ok.ins (h:Ok c s b) (ah:ae) {aA:List dD} (ha:Fits ah aA):Ok c (s-1) (b.ins ah aA):=h.jv 0 ah ha
theorem Ok.iq (h:Ok c s b) (t:ae):Ok c s (b.iq t):=by
 have hm:=abE b.S.T (aZ b.S.T b.S.l b.on 0).1 (aZ b.S.T b.S.l b.on 0).2 t;refine Ok.keep (b:= {b with S:=⟨(iG b.S.T (aZ b.S.T b.S.l b.on 0).1 (aZ b.S.T b.S.l b.on 0).2 t).1,b.S.l,b.S.aF⟩,used:=b.used+t.size}) ⟨h.fi.grow hm,bY h.n1 hm.1,Ui _ _ _ h.lm,h.hard,λhe=> ?_,ad6 h.at' _ _ _⟩ _;have:=h.soft he;have:=hm.1;show(b.S.aF.count (-1):Int)<=((iG b.S.T (aZ b.S.T b.S.l b.on 0).1 (aZ b.S.T b.S.l b.on 0).2 t).1.ai.length:Int)+s;omega
theorem Ok.oP (h:Ok c s b) {l:List Int} (hl:l.Sublist b.S.l):Ok c s (b.oP l) :=
 ⟨h.fi.sub hl (nV _),h.n1,h.lm,h.hard,h.soft,h.at'⟩
theorem Ok.lst (h:Ok c s b) {e:List Int} (hl:e.Sublist b.S.aF):Ok c s (b.lst e) :=
 ⟨h.fi.sub (nV _) hl,h.n1,h.lm,bY (hl.count_le _) h.hard,λhe=>by
  have:=h.soft he;have:=hl.count_le (-1);show(e.count (-1):Int)<=(b.S.T.ai.length:Int)+s
  omega,h.at'⟩
theorem Rq {l r:List Int} (h:r.Sublist l.reverse):r.reverse.Sublist l:=by
 have:=h.reverse
 rwa [vM]at this
theorem Ey (T:aB) (names:List ae): ∀l:List Int,(fH T names l).Sublist l
 | []=>nV _
 |x::r=>by
  rw[fH];split
  ·exact QP _ _
  ·exact(Ey T names r).trans (QP _ _)
theorem JU (T:aB) (names:List ae): ∀l:List Int,(lh T names l).Sublist l
 | []=>nV _
 |x::r=>by
  rw[lh];split
  ·exact nV _
  ·exact(JU T names r).trans (QP _ _)
theorem JS (T:aB) (but:ae): ∀l:List Int,(jG T but l).Sublist l
 | []=>nV _
 |x::r=>by
  rw[jG];split
  ·exact(JS T but r).trans (QP _ _)
  ·exact nV _
theorem Ok.pop (h:Ok c s b):Ok c s b.pop:=h.oP (List.dropLast_sublist _)
theorem Ok.ll (h:Ok c s b) (n:Int):Ok c s (b.ll n):=h.oP (nY _ _)
theorem Ok.mG (h:Ok c s b) (names:List ae):Ok c s (b.mG names):=h.oP (Rq (Ey _ _ _))
theorem Ok.clear' (h:Ok c s b) (names:List ae):Ok c s (b.clear' names):=h.oP (Rq (JU _ _ _))
theorem Ok.jw (h:Ok c s b) (but:ae):Ok c s (b.jw but):=h.oP (Rq (JS _ _ _))
theorem Ok.tK (h:Ok c s b):Ok c s b.tK:=h.lst (NF _)
theorem Ok.Ay (h:Ok c s b) (n:Int):Ok c s (b.Ay n):=h.lst (nY _ _)
theorem Ok.vz (h:Ok c s b):Ok (c+1) (s+1) b.vz:=by
 have hc:(b.S.aF++ [-1]).count (-1)=b.S.aF.count (-1)+1:=by simp
 refine⟨h.fi.mark,h.n1,h.lm,?_,λhe=> ?_,h.at'⟩
 ·show(b.S.aF++ [-1]).count (-1)<=_;rw[hc];exact KZ h.hard
 ·have:=h.soft he;show((b.S.aF++ [-1]).count (-1):Int)<=(b.S.T.ai.length:Int)+(s+1);rw[hc];omega
theorem Ok.dx (h:Ok c s b):Ok c s b.dx:=by
 obtain⟨h1,h2⟩:=aeo h.fi h.n1 b.on;have h3:=abU b.S b.on;refine Ok.keep (b:= {b with S:=(mP b.on b.S).1}) ⟨h1,bY h.n1 h2.1,UB h.lm _,bY h3 h.hard,λhe=> ?_,aep h.at' _⟩ _;have:=h.soft he;have:=h2.1;show(((mP b.on b.S).1.aF).count (-1):Int)<=((mP b.on b.S).1.T.ai.length:Int)+s;omega
theorem Ok.ow (h:Ok c s b) (ah:ae):Ok c s (b.ow ah):=by
 obtain⟨h1,h2⟩:=adq h.fi b.on ah;have h3:=ZC b.S b.on ah;refine Ok.keep (b:= {b with S:=(gW b.on ah b.S).1}) ⟨h1,bY h.n1 h2.1,Qt h.lm _ _,bY h3 h.hard,λhe=> ?_,adr h.at' _ _⟩ _;have:=h.soft he;have:=h2.1;show(((gW b.on ah b.S).1.aF).count (-1):Int)<=((gW b.on ah b.S).1.T.ai.length:Int)+s;omega
theorem Ok.PS (h:Ok c s b) {n:Int} (hel:aY b.S.T n=true) (hn: ¬n∈b.S.aF):Ok c s (b.PS n):=by
 have h3:=ab2 b.S.T b.S.aF (n:=n) (by have:=GR hel;omega);refine⟨h.fi.anp hel hn,h.n1,h.lm,bY h3 h.hard,λhe=> ?_,h.at'⟩;have:=h.soft he;show((Bj b.S.T b.S.aF n).count (-1):Int)<=(b.S.T.ai.length:Int)+s;omega
theorem Ok.yX (h:Ok c s b) (ah:ae) (aA:List dD):b.yX ah aA=0\/aY (b.ins ah aA).S.T (b.yX ah aA)=true/\ ¬b.yX ah aA∈(b.ins ah aA).S.aF/\ ¬b.yX ah aA∈b.S.l:=by
 have e:(b.ins ah aA).S=⟨(aU b.S.T b.S.l b.on 0 ah aA).1,(aU b.S.T b.S.l b.on 0 ah aA).2.1,b.S.aF⟩:=aC.vW _ _;by_cases hm:(b.S.T.ai.length:Int)-1<b.S.T.gy
 ·have h2:=(nM hm b.S.l b.on 0 ah aA).2.1;have e2:b.yX ah aA=b.S.T.ai.length:=aW Prod.fst h2;refine .inr ⟨?_,?_,?_⟩
  ·rw[e,e2];exact yl h.n1 hm
  ·rw[e,e2];exact(h.fi.fresh rfl).2
  ·rw[e2];exact(h.fi.fresh rfl).1
 ·left;show(aU b.S.T b.S.l b.on 0 ah aA).2.2.1=0;rw[mK hm]
end
end
section
def uw (b:aC):Nat:=b.used+b.iJ.size
section
variable {b:aC} {m:aO}
theorem FB (b:aC) (e:Int):uw (b.keep e)=uw b:=by
 obtain⟨-, -, -, -,h1, -, -, -,h2⟩:=b.tL e;unfold uw;rw[h1,h2]
theorem TV (b:aC) (sp:Int) (nm:ae) (l:List dD):uw (b.jv sp nm l).1=uw b:=FB _ _
theorem mF (b:aC) (nm:ae) (l:List dD):uw (b.ins nm l)=uw b:=FB _ _
theorem LB (b:aC) (t:ae):uw (b.iq t)=uw b+t.size:=by
 refine(FB _ _).trans ?_;show b.used+t.size+b.iJ.size=b.used+b.iJ.size+t.size;omega
theorem mE (b:aC):uw b.dx=uw b:=FB _ _
theorem FE (b:aC) (nm:ae):uw (b.ow nm)=uw b:=FB _ _
theorem Fz (b:aC) (m:aO) (k:Int):uw (b.pE m k)=uw b:=mF b m.ah m.aA
theorem zk (b:aC) (nm:ae) (l:List dD):uw (b.single nm l)=uw b:=mF b nm l
theorem OQ (b:aC) (l:List dD):uw (b.Cu l)=uw b:=mF b _ l
theorem FC (b:aC) (m:aO):uw (b.gV m).1=uw b:=by
 unfold aC.gV;split
 ·exact mF b m.ah m.aA
 ·split
  ·exact Fz b m 1
  ·split
   ·exact Fz b m 2
   ·rfl
theorem Ah (b:aC):uw b.gB=uw b:=by unfold aC.gB;split <;>rfl
theorem TU (names:List ae) (b:aC): ∀l,uw (aC.tO names b l)=uw b
 | []=>rfl
 |x::r=>by
  rw[aC.tO];split
  ·rfl
  ·split
   ·rfl
   ·exact TU names b r
theorem OP (want:ae) (b:aC): ∀l,uw (aC.oL want b l)=uw b
 | []=>rfl
 |x::r=>by
  rw[aC.oL];split
  ·rfl
  ·split
   ·rfl
   ·exact OP want b r
theorem OT (b:aC): ∀l,uw (aC.jQ b l)=uw b
 | []=>rfl
 |x::r=>by
  rw[aC.jQ];split
  ·rfl
  ·exact OT b r
theorem ZZ (b:aC) (names:List ae):uw (b.item names)=uw b:=TU _ _ _
theorem TT (b:aC) (want:ae):uw (b.other want)=uw b:=OP _ _ _
theorem LC (b:aC) (m:aO):uw (b.forms m)=uw b:=by
 unfold aC.forms;simp only;split
 ·exact(mF _ _ _).trans (mE b)
 ·exact(mF b.dx m.ah m.aA).trans (mE b)
theorem TR (b:aC) (m:aO):uw (b.ng m)=uw b:=by
 unfold aC.ng;split
 ·exact Fz b m 1
 ·split
  ·exact(Fz _ m 2).trans ((mE _).trans (Ah b))
  ·exact Fz b m 2
theorem Xr (b:aC) (m:aO):uw (b.phrases m)=uw b:=by
 have h1: ∀c:aC,uw c=uw b->uw (if dh [⟨#[97,112,112,108,101,116]⟩,⟨#[109,97,114,113,117,101,101]⟩,⟨#[111,98,106,101,99,116]⟩] m.ah then(c.dx.ins m.ah m.aA).vz else c.dx.ins m.ah m.aA)=uw b:=λc hc=>by
  have h2:uw (c.dx.ins m.ah m.aA)=uw b:=(mF _ _ _).trans ((mE c).trans hc);split
  ·exact h2
  ·exact h2
 unfold aC.phrases;simp only;refine h1 _ ?_;split
 ·split <;>rfl
 ·split
  ·split <;>rfl
  ·rfl
theorem TY (b:aC) (m:aO) (sp:Int):uw (b.uk m sp)=uw b:=by
 unfold aC.uk;simp only;split
 ·exact TV b sp _ _
 ·exact TV b sp _ _
theorem abp (b:aC) (m:aO):uw (b.blocks m)=uw b:=by
 have h1: ∀c:aC,uw c=uw b->uw (c.ins m.ah m.aA)=uw b:=λc hc=>(mF _ _ _).trans hc
 have h2:uw (aC.gB (if m.ah.toList==([108,105]:List ax)then b.item [⟨#[108,105]⟩]else if(m.ah.toList==([100,100]:List ax))||(m.ah.toList==([100,116]:List ax))then b.item [⟨#[100,100]⟩,⟨#[100,116]⟩]else b))=uw b:=by
  refine(Ah _).trans ?_;split
  ·exact ZZ b _
  ·split
   ·exact ZZ b _
   ·rfl
 have h3: ∀c:aC,uw c=uw b->uw (if(m.ah.toList==([112,114,101]:List ax))||(m.ah.toList==([108,105,115,116,105,110,103]:List ax))then c.Rn true else if m.ah.toList==([116,97,98,108,101]:List ax)then c.goto 6 else c)=uw b:=λc hc=>by
  split
  ·exact hc
  ·split <;>exact hc
 unfold aC.blocks;simp only;generalize aC.gB (if m.ah.toList==([108,105]:List ax)then b.item [⟨#[108,105]⟩]else if(m.ah.toList==([100,100]:List ax))||(m.ah.toList==([100,116]:List ax))then b.item [⟨#[100,100]⟩,⟨#[100,116]⟩]else b)=b2 at h2 |-;have h4:uw (if kY m.ah&&b2.at' kN then b2.pop else b2)=uw b:=by split <;>exact h2
 generalize (if kY m.ah&&b2.at' kN then b2.pop else b2)=b3 at h4 |-;split
 ·exact(zk _ _ _).trans h2
 ·exact h3 _ (h1 _ h4)
theorem yR {p:Prop} [Decidable p] {r q:aC×aO} {n:Nat} (h1:uw r.1=n) (h2:uw q.1=n):uw (if p then r else q).1=n:=by
 by_cases h:p
 ·rw[au h];exact h1
 ·rw[aj h];exact h2
theorem Z0 {p:Prop} [Decidable p] {r q:aC} {n:Nat} (h1:uw r=n) (h2:uw q=n):uw (if p then r else q)=n:=by
 by_cases h:p
 ·rw[au h];exact h1
 ·rw[aj h];exact h2
theorem adS (b:aC) (m:aO):uw (b.opens m).1=uw b:=by
 rw[aC.opens.eq_1];refine yR rfl (yR (FC b m) (yR (abp b m) (yR ?_ (yR (LC b m) (yR ?_ (yR (zk b _ _) (yR ((zk _ _ _).trans (mE b)) (yR (TR b m) (yR ((TY _ _ _).trans (mE b)) (Xr b m))))))))))
 ·exact(LC _ _).trans (Z0 rfl (FE b _))
 ·exact(LC _ _).trans (Z0 ((FE _ _).trans (mE b)) (mE b))
theorem FD (b:aC) (sc:Int) (but:ae) (names:List ae):uw (b.gZ sc but names)=uw b:=by unfold aC.gZ;split <;>rfl
theorem abo (b:aC) (m:aO):uw (b.closes m).1=uw b:=by
 unfold aC.closes;split
 ·split <;>rfl
 ·split
  ·refine(Ah _).trans ?_;split
   ·rfl
   ·exact mF b _ _
  ·split
   ·exact FD b _ _ _
   ·split
    ·exact FD b _ _ _
    ·split
     ·exact FD b _ _ _
     ·split
      ·exact FD b _ _ _
      ·split
       ·show uw (if _ then _ else _)=uw b;split
        ·exact(TT _ _).trans (FE b _)
        ·exact FE b _
       ·split
        ·show uw (if _ then _ else _)=uw b;split
         ·exact FD b _ _ _
         ·rfl
        ·split
         ·exact(zk _ _ _).trans (mE b)
         ·exact TT b _
def UL (b:aC) (m:aO) (r:aC×aO×Bool):Prop:=uw r.1<=uw b+m.aL.size/\(r.2.2=true->uw r.1+r.2.1.aL.size<=uw b+m.aL.size)
theorem UL.same {r:aC×aO×Bool} (h1:uw r.1=uw b) (h2:r.2.1.aL=m.aL):UL b m r:=⟨by rw[h1];omega,λ_=>by rw[h1,h2];exact ay _⟩
theorem zo (b:aC) (m:aO):UL b m (b.eO m):=by
 unfold aC.eO;split
 ·refine⟨?_,λh=>by cases h⟩;show uw (b.dx.iq m.aL)<=_;rw[LB,mE];exact ay _
 ·split
  ·refine⟨?_,λh=>by cases h⟩;show uw (b.opens m).1<=_;rw[adS];omega
  ·split
   ·exact UL.same (abo b m) rfl
   ·exact UL.same rfl rfl
theorem aay (l:List ax):(Vq l).size=l.length:=by simp[Vq,ByteArray.size]
theorem Rl (s:ae):(gz s).size+(mQ s).size=s.size:=by
 unfold gz mQ;rw[aay,aay,<-fC,Io,aR]
theorem size_empty {s:ae} (h:s.toList.isEmpty=true):s.size=0:=by
 rw[<-aR];rw[Lh]at h;rw[h];rfl
theorem adT (b:aC) (m:aO):uw (b.eQ m)+(aC.bR m).aL.size=uw b+m.aL.size:=by
 have h:=Rl m.aL;unfold aC.eQ aC.bR;split
 ·show uw (if _ then _ else _)+(mQ m.aL).size=_;split
  ·rename_i h1;have:=size_empty h1;omega
  ·rw[LB];omega
 ·rfl
theorem NK (m:aO):(aC.bR m).aL.size<=m.aL.size:=by
 have h:=Rl m.aL;unfold aC.bR;split
 ·show(mQ m.aL).size<=_;omega
 ·exact ay _
theorem cK {p:Prop} [Decidable p] {r q:aC×aO×Bool} (h1:UL b m r) (h2:UL b m q):UL b m (if p then r else q):=by
 by_cases h:p
 ·rw[au h];exact h1
 ·rw[aj h];exact h2
theorem UL.blank {r:aC×aO×Bool} (h1:uw r.1=uw (b.eQ m)) (h2:r.2.1.aL=(aC.bR m).aL):UL b m r:=by
 have h:=adT b m;exact⟨by rw[h1];omega,λ_=>by rw[h1,h2];omega⟩
theorem UL.less {r:aC×aO×Bool} (h1:uw r.1=uw b) (h2:r.2.1.aL.size<=m.aL.size):UL b m r:=⟨by rw[h1];omega,λ_=>by rw[h1];omega⟩
theorem Xv (b:aC) (m:aO):UL b m (b.oh m):=by
 have ht:=NK m;unfold aC.oh;simp only;refine cK (.less rfl ht) (cK (.less rfl ht) (cK (.less (mF _ _ _) ht) (.less (mF _ _ _) ht)))
theorem Xw (b:aC) (m:aO):UL b m (b.om m):=by
 have ht:=NK m;unfold aC.om;simp only;refine cK (.less rfl ht) (cK (.less rfl ht) (cK (.less (OQ _ _) ht) (.less (OQ _ _) ht)))
theorem abt (b:aC) (m:aO):UL b m (b.rU m):=by
 unfold aC.rU;simp only;refine cK (.blank rfl rfl) (cK (.blank (FC _ _) rfl) (cK (.blank rfl rfl) (cK (.blank rfl rfl) (cK (.blank rfl rfl) (.blank rfl rfl)))))
theorem Ua (b:aC) (m:aO):UL b m (b.kE m):=by
 unfold aC.kE;simp only;refine cK (.blank rfl rfl) (cK (.blank rfl rfl) (cK (.blank (mF _ _ _) rfl) (cK (.blank ?_ rfl) (cK (.blank rfl rfl) (.blank (mF _ _ _) rfl)))));exact FC ((b.eQ m).push (b.eQ m).head) (aC.bR m)
theorem abq (b:aC) (m:aO):UL b m (b.qf m):=by
 unfold aC.qf;refine cK ⟨?_,λh=>by cases h⟩ (.same rfl rfl);show uw (b.iq m.aL)<=_;rw[LB];exact ay _
theorem OW (b:aC) (m:aO):UL b m (b.uf m):=zo {b with on:=true} m
theorem Ez (b:aC) (m:aO):UL b m (b.iE m):=by
 unfold aC.iE;refine cK ⟨?_,λh=>by cases h⟩ (cK (.same (mF _ _ _) rfl) (cK (.same (mF _ _ _) rfl) (cK (.same (mF _ _ _) rfl) (cK (.same (mF _ _ _) rfl) (cK (.same (mF _ _ _) rfl) (cK (cK (.same rfl rfl) (.same rfl rfl)) (cK (.same rfl rfl) (cK (.same (FC b m) rfl) (cK (.same rfl rfl) (OW b m))))))))));show b.used+(b.iJ++m.aL).size<=b.used+b.iJ.size+m.aL.size;rw[xk];omega
theorem Q9 (b:aC) (m:aO):UL b m (b.iW m):=by
 unfold aC.iW;exact cK (cK (.same rfl rfl) (.same rfl rfl)) (cK (.same rfl rfl) (zo b m))
theorem Q8 (b:aC) (m:aO):UL b m (b.iV m):=by
 unfold aC.iV;simp only;exact cK (.blank rfl rfl) (cK (.blank rfl rfl) (cK (.blank (zk _ _ _) rfl) (cK (.blank rfl rfl) (.blank rfl rfl))))
theorem abr (b:aC) (m:aO):UL b m (b.oM m):=by
 unfold aC.oM;simp only;exact cK (cK (.same (mF _ _ _) rfl) (.same (mF _ _ _) rfl)) (cK (cK (.same rfl rfl) (.same rfl rfl)) (cK (cK (.same rfl rfl) (.same rfl rfl)) (cK (.same rfl rfl) (Ez b m))))
theorem adU (b:aC) (m:aO):UL b m (b.uj m):=by
 unfold aC.uj;exact cK (.same (mF (b.clear' _) m.ah m.aA) rfl) (cK (.same rfl rfl) (cK (cK (.same rfl rfl) (.same rfl rfl)) (cK (.same rfl rfl) (Ez b m))))
theorem abu (b:aC) (m:aO):UL b m (b.oN m):=by
 unfold aC.oN;exact cK (cK (.same rfl rfl) (.same rfl rfl)) (cK (cK (.same rfl rfl) (.same rfl rfl)) (cK (.same rfl rfl) (cK (cK (.same rfl rfl) (.same rfl rfl)) (zo b m))))
theorem Xx (b:aC) (m:aO):UL b m (b.lU m):=by
 have h:=Rl m.aL
 have hb:uw (if(m.aH==1)&& !(gz m.aL).toList.isEmpty then(b.eO ⟨1,⟨#[]⟩,[],false,gz m.aL⟩).1 else b)+(aC.bR m).aL.size<=uw b+m.aL.size:=by
  by_cases hk:m.aH==1
  ·have e:(aC.bR m).aL=mQ m.aL:=by unfold aC.bR;rw[au hk]
   rw[e];split
   ·have:=(zo b ⟨1,⟨#[]⟩,[],false,gz m.aL⟩).1;have h2:(⟨1,⟨#[]⟩,[],false,gz m.aL⟩:aO).aL.size=(gz m.aL).size:=rfl;omega
   ·omega
  ·have e:(aC.bR m)=m:=by unfold aC.bR;rw[aj hk]
   rw[e,aj (by simp[hk])];exact ay _
 unfold aC.lU;simp only;generalize (if(m.aH==1)&& !(gz m.aL).toList.isEmpty then(b.eO ⟨1,⟨#[]⟩,[],false,gz m.aL⟩).1 else b)=c at hb |-;have hr: ∀(k:Bool) (d:aC),uw d=uw c->UL b m (d,aC.bR m,k):=λk d hd=>⟨by show uw d<=_;omega,λ_=>by show uw d+(aC.bR m).aL.size<=_;omega⟩
 exact cK (hr _ _ rfl) (cK (hr _ _ rfl) (hr _ _ rfl))
theorem LG (b:aC) (m:aO):UL b m (b.fE m):=by
 unfold aC.fE;exact cK (Xv b m) (cK (Xw b m) (cK (abt b m) (cK (Ua b m) (cK (zo b m) (cK (abq b m) (cK (Ez b m) (cK (Q9 b m) (cK (Q8 b m) (cK (abr b m) (cK (adU b m) (cK (abu b m) (Xx b m))))))))))))
theorem OV (m:aO) (b:aC): ∀l,UL b m (aC.gX m b l)
 | []=> .same rfl rfl
 | [_]=> .same rfl rfl
 |x::y::r=>by
  rw[aC.gX];exact cK (LG b m) (cK (.same rfl rfl) (OV m b (y::r)))
theorem Xy (b:aC) (m:aO) (sp:Int):UL b m (b.dE m sp):=by
 unfold aC.dE;refine cK ⟨?_,λh=>by cases h⟩ (cK ?_ (cK (.same (TY b m sp) rfl) (cK (OV m b _) (.same rfl rfl))))
 ·show uw (b.iq m.aL)<=_;rw[LB];exact ay _
 ·have h:=LG (aC.jQ b b.S.l.reverse) m;unfold UL at h |-;rw[OT]at h;exact h
theorem Z4 (b:aC) (m:aO):UL b m (b.once m):=by
 unfold aC.once;exact cK (Xy b m _) (LG b m)
theorem TW (b:aC):uw b.flush<=uw b:=by
 have h1:uw ({b with iJ:=⟨#[]⟩}:aC)+b.iJ.size=uw b:=by
  show b.used+0+b.iJ.size=b.used+b.iJ.size;omega
 unfold aC.flush;simp only;split
 ·omega
 ·split
  ·rw[LB];omega
  ·have:=(OW ({b with iJ:=⟨#[]⟩}:aC) ⟨1,⟨#[]⟩,[],false,b.iJ⟩).1;have h2:(⟨1,⟨#[]⟩,[],false,b.iJ⟩:aO).aL.size=b.iJ.size:=rfl;omega
end
end
end Go.Proofs.YtnlbcifhedjbfaaGreatDoor
