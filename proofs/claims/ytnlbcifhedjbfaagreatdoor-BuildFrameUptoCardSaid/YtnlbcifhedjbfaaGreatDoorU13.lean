/- oZ joined for a claim: CuH, CuI, CuJ, CuK, CuL, CuN, CuM, CuP, CuO, CuR, aw6: plain laws and contracts. No conditions beyond those that each lemma types. -/
import Derived.Test.YtnlbcifhedjbfaaGreatDoorU12
import Derived.WideMake
set_option linter.unusedVariables false
set_option linter.unusedSimpArgs false
set_option maxRecDepth 100000
set_option maxHeartbeats 8000000
open Go.Proofs.Tryz
namespace Go.Proofs.YtnlbcifhedjbfaaGreatDoor
open Go.RowKit Mem
section
section
variable {E:BE} {ws w w':af} {c:Nat} {s:Int} {b b':aC} {m m':aO}
theorem Vi (h:SX E ws b m w) {di:Array ak} {e:TypeId} (hc:jo (ed di)=di.toList):rX (OM (E.lay w.heap.size)) (w.alloc (.cells di e)) (some ⟨w.heap.size,0,none⟩) (jo (ed di)) :=
 rX.yS (tH hc) λb' o' s' e' hx=>by
  have h1:=h.bm.row.lt;have h2:=h.mo.row.lt;cases e';rcases hx with hx|hx|hx
  ·exact hx.2 (.inr rfl)
  ·have:w.heap.size=E.bb:=hx;omega
  ·have:w.heap.size=E.mb:=hx;omega
theorem aaZ (h:SM E ws c s b m w) {g:Nat} {scope:Int} {but:ae} {di:Array ak} {e:TypeId} {n ca:Nat} (L:Lay g w di n) :
 Calls prog 166 #[.pointer (some ⟨E.bb,0,none⟩),.int .i64 scope,.string but,.slice (some ⟨g,0,none⟩) n ca] (w.alloc (.cells di e)) λr w'=>r= .returned (.bool (b.has scope (ed di)))/\SM E ws c s (b.gZ scope but (ed di)) m w':=by
 obtain⟨hg,hc,hn,hl⟩:=L;subst hg;have HL:=hd' (h.lay (.cells di e));have HN:=hd' (Vi (e:=e) h.sx hc);have HB:Hid (∀b' w',SM (E.lay w.heap.size) (w.alloc (.cells di e)) c s b' m w'->SM E ws c s b' m w'):=hd' λb' w' h'=>h.less h' rfl
 have HV:Hid (b.gZ scope but (ed di)=if b.has scope (ed di)then(b.jw but).mG (ed di)else b):=hd' rfl;have d1:(w.alloc (.cells di e)).cell? ⟨E.bb,1,none⟩=some (.pointer (some ⟨E.sb,0,none⟩)):=HL.o'.sx.bc.2.1;clear h hc;generalize ed di=names at *;generalize w.alloc (.cells di e)=wa at *;generalize hE:E.lay w.heap.size=E' at *;have HI:Hid (E'.bb=E.bb/\E'.sb=E.sb/\ ∀k,Own E'.w0 E'.ex k->OM E' k):=hd' ⟨by rw[<-hE];rfl,by rw[<-hE];rfl,λk hk=> .inl hk⟩;clear hE;generalize (some ⟨w.heap.size,0,none⟩:Option Addr)=ad at *;obtain⟨t,ht⟩: ∃t,t=b.has scope names:=⟨_,rfl⟩;have HT:=hd' (afX HL.o'.sx scope names ad n ca hn HN.o'.at hl);rw[HI.o'.2.1,<-ht]at HT;rw[<-ht]at HV |-;clear ht
 have HM:Hid (∀w1,SM E' wa c s b m w1->Calls prog 117 #[.pointer (some ⟨E.sb,0,none⟩),.string but] w1 λr w'=>r= .returned (.tuple #[])/\SM E' wa c s (b.jw but) m w'):=hd' λw1 h1=>by
  have:=xH h1 but;rw[HI.o'.2.1]at this;exact this
 have HU:Hid (∀w1,SM E' wa c s (b.jw but) m w1->Calls prog 114 #[.pointer (some ⟨E.sb,0,none⟩),.slice ad n ca] w1 λr w'=>r= .returned (.tuple #[])/\SM E' wa c s ((b.jw but).mG names) m w'):=hd' λw1 h1=>by
  have:=LF h1 names ad n ca hn ((HN.o'.kept h1.sx.keep).other λk _ hk=>HI.o'.2.2 k hk) hl;rw[HI.o'.2.1]at this;exact this
 have HC:Hid (∀w1,SM E' wa c s (b.jw but) m w1->w1.cell? ⟨E.bb,1,none⟩=some (.pointer (some ⟨E.sb,0,none⟩))):=hd' λw1 h1=>by
  have:=h1.sx.bc.2.1;rw[HI.o'.1,HI.o'.2.1]at this;exact this
 have HC0:Hid (∀w1,SM E' wa c s b m w1->w1.cell? ⟨E.bb,1,none⟩=some (.pointer (some ⟨E.sb,0,none⟩))):=hd' λw1 h1=>by
  have:=h1.sx.bc.2.1;rw[HI.o'.1,HI.o'.2.1]at this;exact this
 clear hn;cases t
 ·go_enter func166,ntmps166
  go_wp2_with (go_at_call 113;refine HT.o'.mono ?_;rintro e w1 ⟨rfl,hb⟩;have H1:=hd' (HL.o'.world hb);have e1:=HC0.o' _ H1.o';clear hb)
  go_ret;rw[HV.o'];simp only[gQ,dM];exact⟨rfl,HB.o' _ _ H1.o'⟩
 ·go_enter func166,ntmps166
  go_wp2_with (first
   |(go_at_call 113;refine HT.o'.mono ?_;rintro e w1 ⟨rfl,hb⟩;have H1:=hd' (HL.o'.world hb);have e1:=HC0.o' _ H1.o';clear hb)
   |(go_at_call 117;refine(HM.o' _ H1.o').mono ?_;rintro e w2 ⟨rfl,h2⟩;have g1:=HC.o' _ h2;have H2:=hd' h2;clear h2)
   |(go_at_call 114;refine(HU.o' _ H2.o').mono ?_;rintro e w3 ⟨rfl,h3⟩;have H3:=hd' h3;clear h3))
  go_ret;rw[HV.o'];simp only[dY];exact⟨rfl,HB.o' _ _ H3.o'⟩
theorem Vy (h:SM E ws c s b m w) {g:Nat} {di:Array ak} {e:TypeId} {n ca:Nat} (L:Lay g w di n) :
 Calls prog 120 #[.pointer (some ⟨E.bb,0,none⟩),.slice (some ⟨g,0,none⟩) n ca] (w.alloc (.cells di e)) λr w'=>r= .returned (.tuple #[])/\SM E ws c s (b.leave (ed di)) m w':=by
 obtain⟨hg,hc,hn,hl⟩:=L;subst hg;have HL:=hd' (h.lay (.cells di e));have HN:=hd' (Vi (e:=e) h.sx hc);have HB:Hid (∀b' w',SM (E.lay w.heap.size) (w.alloc (.cells di e)) c s b' m w'->SM E ws c s b' m w'):=hd' λb' w' h'=>h.less h' rfl
 have d1:(w.alloc (.cells di e)).cell? ⟨E.bb,1,none⟩=some (.pointer (some ⟨E.sb,0,none⟩)):=HL.o'.sx.bc.2.1;clear h hc;generalize ed di=names at *;generalize w.alloc (.cells di e)=wa at *;generalize hE:E.lay w.heap.size=E' at *;have HI:Hid (E'.bb=E.bb/\E'.sb=E.sb/\E'.lb=E.lb/\ ∀k,Own E'.w0 E'.ex k->OM E' k):=hd' ⟨by rw[<-hE];rfl,by rw[<-hE];rfl,by rw[<-hE];rfl,λk hk=> .inl hk⟩;clear hE;generalize (some ⟨w.heap.size,0,none⟩:Option Addr)=ad at *
 have HM:Hid (∀w1,SM E' wa c s b m w1->Calls prog 117 #[.pointer (some ⟨E.sb,0,none⟩),.string ⟨#[]⟩] w1 λr w'=>r= .returned (.tuple #[])/\SM E' wa c s (b.jw ⟨#[]⟩) m w'):=hd' λw1 h1=>by
  have:=xH h1 ⟨#[]⟩;rw[HI.o'.2.1]at this;exact this
 have HU:Hid (∀b1 w1,SM E' wa c s b1 m w1->Calls prog 114 #[.pointer (some ⟨E.sb,0,none⟩),.slice ad n ca] w1 λr w'=>r= .returned (.tuple #[])/\SM E' wa c s (b1.mG names) m w'):=hd' λb1 w1 h1=>by
  have:=LF h1 names ad n ca hn ((HN.o'.kept h1.sx.keep).other λk _ hk=>HI.o'.2.2.2 k hk) hl;rw[HI.o'.2.1]at this;exact this
 have HK:Hid (∀b1 w1,SM E' wa c s b1 m w1->Calls prog 118 #[.pointer (some ⟨E.lb,0,none⟩)] w1 λr w'=>r= .returned (.tuple #[])/\SM E' wa c s b1.tK m w'):=hd' λb1 w1 h1=>by
  have:=I7 h1;rw[HI.o'.2.2.1]at this;exact this
 have HC:Hid (∀b1 w1,SM E' wa c s b1 m w1->w1.cell? ⟨E.bb,1,none⟩=some (.pointer (some ⟨E.sb,0,none⟩))/\w1.cell? ⟨E.bb,2,none⟩=some (.pointer (some ⟨E.lb,0,none⟩))/\w1.cell? ⟨E.bb,3,none⟩=some (.int .i64 b1.aD)/\w1.frozen? ⟨E.bb,3,none⟩=false):=hd' λb1 w1 h1=>by
  obtain⟨-,q1,q2,q3, -⟩:=h1.sx.bc;have q4:=h1.sx.bf 3 (by omega);rw[HI.o'.1]at q1 q2 q3 q4;rw[HI.o'.2.1]at q1;rw[HI.o'.2.2.1]at q2;exact⟨q1,q2,q3,q4⟩
 have HE:Hid (∀b1 w1,SM E ws c s b1 m w1->SM E ws c s (b1.goto 10) m (w1.setCell ⟨E.bb,3,none⟩ (.int .i64 10))):=hd' λb1 w1 h1=>h1.aD 10
 clear hn;go_enter func120,ntmps120
 go_wp2_with (first
  |(go_at_call 117;refine(HM.o' _ HL.o').mono ?_;rintro e w2 ⟨rfl,h2⟩;obtain⟨g1, -⟩:=HC.o' _ _ h2;have H2:=hd' h2;clear h2)
  |(go_at_call 114;refine(HU.o' _ _ H2.o').mono ?_;rintro e w3 ⟨rfl,h3⟩;obtain⟨-,g2, -⟩:=HC.o' _ _ h3;have H3:=hd' h3;clear h3)
  |(go_at_call 118;refine(HK.o' _ _ H3.o').mono ?_;rintro e w4 ⟨rfl,h4⟩;obtain⟨-, -,g3,g4⟩:=HC.o' _ _ h4;have H4:=hd' h4;clear h4))
 go_end0
 exact⟨rfl,HE.o' _ _ (HB.o' _ _ H4.o')⟩
end
end
section
section
variable {E:BE} {ws w w':af} {c:Nat} {s:Int} {b b':aC} {m m':aO}
theorem acI (h:SM E ws c s b m w) (hu:b.used+m.aL.size<=9223372036854775807):Calls prog 64 #[.pointer (some ⟨E.bb,0,none⟩),.pointer (some ⟨E.mb,0,none⟩)] w λr w'=>r= .returned (.bool (b.qf m).2.2)/\SM E ws (c+1) s (b.qf m).1 (b.qf m).2.1 w':=by
 have H:=hd' h;obtain⟨c0, -, -, -,c4⟩:=H.o'.sx.mc;obtain⟨-,d1, -,d3,d4, -, -, -, -, -, -⟩:=H.o'.sx.bc;have f3:=H.o'.sx.bf 3 (by omega);have hne: ¬E.mb=E.bb:=λe=>H.o'.sx.mo.ne e.symm
 have hne2: ¬E.bb=E.mb:=H.o'.sx.mo.ne;clear h;go_enter func64,ntmps64
 go_wp2_with ((first
  |(go_at_call 52;refine' (FM ?h _ ?_).mono ?_)
  |(go_at_call 56;refine' (vS ?h).mono ?_));((case h=>with_reducible first|exact H.o'|exact H.o'.fP _ (by decide));any_goals first|(rintro e w1 ⟨rfl,h1⟩;(try simp only[bN,strOf,dX,fK,aC.gZ]at h1);clear c0 c4 d1 d3 d4 f3;replace H:=hd' h1;clear h1;obtain⟨c0, -, -, -,c4⟩:=H.o'.sx.mc;obtain⟨-,d1, -,d3,d4, -, -, -, -, -, -⟩:=H.o'.sx.bc;have f3:=H.o'.sx.bf 3 (by omega))|omega))
 all_goals try (exfalso;have q:=eq_of_beq (by assumption:(m.aH==1)=true);omega)
 all_goals try (exfalso;have q:=eq_of_beq (by assumption:(m.aH==2)=true);omega)
 all_goals try (exfalso;have q:=eq_of_beq (by assumption:(m.aH==3)=true);omega)
 all_goals try (exfalso;have q:=eq_of_beq (by assumption:(m.aH==6)=true);omega)
 all_goals
  try have e01:(m.aH==1)=true:=cO.2 (by assumption)
  try have e01:(m.aH==1)=false:=aV.2 (by assumption)
  try have V8:(m.aH==2)=true:=cO.2 (by assumption)
  try have V8:(m.aH==2)=false:=aV.2 (by assumption)
  try have V7:(m.aH==3)=true:=cO.2 (by assumption)
  try have V7:(m.aH==3)=false:=aV.2 (by assumption)
  try have V6:(m.aH==6)=true:=cO.2 (by assumption)
  try have V6:(m.aH==6)=false:=aV.2 (by assumption)
  go_ret;have hv:=aC.qf.eq_1 b m;simp only[*,bools,dY,dM,reduceIte,iL,Int.reduceBEq]at hv;rw[hv];refine⟨by(rfl),?_⟩;exact SM.more (by first|(with_reducible first|exact H.o'|exact(H.o'.head _))|exact H.o'.aD _) (by omega) (by omega)
theorem acK (h:SM E ws c s b m w) (hu:b.used+m.aL.size<=9223372036854775807):Calls prog 61 #[.pointer (some ⟨E.bb,0,none⟩),.pointer (some ⟨E.mb,0,none⟩)] w λr w'=>r= .returned (.bool (b.rU m).2.2)/\SM E ws (c+1) s (b.rU m).1 (b.rU m).2.1 w':=by
 have H:=hd' h;obtain⟨c0, -, -, -, -⟩:=H.o'.sx.mc;obtain⟨-,d1, -,d3, -, -, -, -, -, -, -⟩:=H.o'.sx.bc;have f3:=H.o'.sx.bf 3 (by omega);have hne: ¬E.mb=E.bb:=λe=>H.o'.sx.mo.ne e.symm
 have hne2: ¬E.bb=E.mb:=H.o'.sx.mo.ne;clear h;go_enter func61,ntmps61
 go_wp2_with ((first
  |(go_at_call 103;refine' tB (NL ?h hu) ?_)
  |(go_at_call 104;refine' tB (GI ?h) ?_)
  |(go_at_call 101;refine' tB (pX ?h ?_) ?_)
  |(go_at_call 100;refine' tB (uJ ?h ?_) ?_)
  |(go_at_call 56;refine' (vS ?h).mono ?_));((case h=>with_reducible first|exact H.o'|exact H.o'.fP _ (by decide));any_goals first|(rintro e w1 ⟨rfl,h1⟩;(try simp only[bN,strOf,dX,fK,aC.gZ]at h1);clear c0 d1 d3 f3;replace H:=hd' h1;clear h1;obtain⟨c0, -, -, -, -⟩:=H.o'.sx.mc;obtain⟨-,d1, -,d3, -, -, -, -, -, -, -⟩:=H.o'.sx.bc;have f3:=H.o'.sx.bf 3 (by omega))|(intro t ht w1 h1;(try simp only[bN,strOf,dX,fK,aC.gZ]at ht h1);cases t <;>((try simp only[ht,reduceIte,gQ]at h1);clear c0 d1 d3 f3;replace H:=hd' h1;clear h1;obtain⟨c0, -, -, -, -⟩:=H.o'.sx.mc;obtain⟨-,d1, -,d3, -, -, -, -, -, -, -⟩:=H.o'.sx.bc;have f3:=H.o'.sx.bf 3 (by omega)))|exact⟨by(with_reducible rfl),by rfl,by rfl,by(decide)⟩|fail))
 all_goals try (exfalso;have q:=eq_of_beq (by assumption:((aC.bR m).aH==1)=true);omega)
 all_goals try (exfalso;have q:=eq_of_beq (by assumption:((aC.bR m).aH==2)=true);omega)
 all_goals try (exfalso;have q:=eq_of_beq (by assumption:((aC.bR m).aH==3)=true);omega)
 all_goals try (exfalso;have q:=eq_of_beq (by assumption:((aC.bR m).aH==6)=true);omega)
 all_goals
  try have e01:((aC.bR m).aH==1)=true:=cO.2 (by assumption)
  try have e01:((aC.bR m).aH==1)=false:=aV.2 (by assumption)
  try have V8:((aC.bR m).aH==2)=true:=cO.2 (by assumption)
  try have V8:((aC.bR m).aH==2)=false:=aV.2 (by assumption)
  try have V7:((aC.bR m).aH==3)=true:=cO.2 (by assumption)
  try have V7:((aC.bR m).aH==3)=false:=aV.2 (by assumption)
  try have V6:((aC.bR m).aH==6)=true:=cO.2 (by assumption)
  try have V6:((aC.bR m).aH==6)=false:=aV.2 (by assumption)
  go_ret;have hv:=aC.rU.eq_1 b m;simp only[*,bools,dY,dM,reduceIte,iL,Int.reduceBEq]at hv;rw[hv];refine⟨by(rfl),?_⟩;exact SM.more (by first|(with_reducible first|exact H.o'|exact H.o'.aD _|exact(H.o'.head _))|exact H.o'.skip _) (by omega) (by omega)
end
end
section
section
variable {E:BE} {ws w w':af} {c:Nat} {s:Int} {b b':aC} {m m':aO}
theorem YT (h:SM E ws c s b m w):Calls prog 59 #[.pointer (some ⟨E.bb,0,none⟩),.pointer (some ⟨E.mb,0,none⟩)] w λr w'=>r= .returned (.bool (b.oh m).2.2)/\SM E ws (c+1) s (b.oh m).1 (b.oh m).2.1 w':=by
 have H:=hd' h;obtain⟨c0, -,c2, -,c4⟩:=H.o'.sx.mc;obtain⟨-, -, -,d3, -, -, -, -, -, -, -⟩:=H.o'.sx.bc;have q4:=H.o'.sx.mf.2;have f3:=H.o'.sx.bf 3 (by omega);have hne: ¬E.mb=E.bb:=λe=>H.o'.sx.mo.ne e.symm
 have hne2: ¬E.bb=E.mb:=H.o'.sx.mo.ne;clear h;go_enter func59,ntmps59
 go_wp2_with (first
  |((first
   |(go_at_call 101;refine' tB (pX ?h ?_) ?_)
   |(go_at_call 100;refine' tB (uJ ?h ?_) ?_)
   |(go_at_call 102;(first|with_reducible refine' (rT ?h _ ?n).mono ?_|with_reducible refine' (kX ?h _ ?n ?r).mono ?_)));((case h=>with_reducible first|exact H.o'|exact H.o'.aL _ (by assumption)|exact(H.o'.aL _ (by assumption)).aD _|exact H.o'.aD _|exact H.o'.fP _ (by decide));(try case n=>(decide));(try case r=>rfl);any_goals first|(rintro e w1 ⟨rfl,h1⟩;(try simp only[bN,strOf,dX,fK,aC.gZ]at h1);clear c0 c2 c4 q4 d3 f3;replace H:=hd' h1;clear h1;obtain⟨c0, -,c2, -,c4⟩:=H.o'.sx.mc;obtain⟨-, -, -,d3, -, -, -, -, -, -, -⟩:=H.o'.sx.bc;have q4:=H.o'.sx.mf.2;have f3:=H.o'.sx.bf 3 (by omega))|(intro t ht w1 h1;(try simp only[bN,strOf,dX,fK,aC.gZ]at ht h1);cases t <;>((try simp only[ht,reduceIte,gQ]at h1);clear c0 c2 c4 q4 d3 f3;replace H:=hd' h1;clear h1;obtain⟨c0, -,c2, -,c4⟩:=H.o'.sx.mc;obtain⟨-, -, -,d3, -, -, -, -, -, -, -⟩:=H.o'.sx.bc;have q4:=H.o'.sx.mf.2;have f3:=H.o'.sx.bf 3 (by omega)))|exact⟨by first|with_reducible rfl|simp[World.setCell],by rfl,by rfl,by(decide)⟩|fail))
  |(go_at_call 99;refine(rJ _ _ H.o'.sx.mo.Uf).mono ?_;rintro e w1 ⟨rfl,hb⟩;have h1:=H.o'.world hb;clear hb;have hz:=UC m.aL;generalize hr:mQ m.aL=rr at hz |-;generalize ha:gz m.aL=aa;clear c0 c2 c4 q4 d3 f3;replace H:=hd' h1;clear h1;obtain⟨c0, -,c2, -,c4⟩:=H.o'.sx.mc;obtain⟨-, -, -,d3, -, -, -, -, -, -, -⟩:=H.o'.sx.bc;have q4:=H.o'.sx.mf.2;have f3:=H.o'.sx.bf 3 (by omega)))
 all_goals try (exfalso;have q:=eq_of_beq (by assumption:(m.aH==1)=true);omega)
 all_goals try (exfalso;have q:=eq_of_beq (by assumption:(m.aH==2)=true);omega)
 all_goals try (exfalso;have q:=eq_of_beq (by assumption:(m.aH==3)=true);omega)
 all_goals try (exfalso;have q:=eq_of_beq (by assumption:(m.aH==6)=true);omega)
 all_goals
  try have e01:(m.aH==1)=true:=cO.2 (by assumption)
  try have e01:(m.aH==1)=false:=aV.2 (by assumption)
  try have V8:(m.aH==2)=true:=cO.2 (by assumption)
  try have V8:(m.aH==2)=false:=aV.2 (by assumption)
  try have V7:(m.aH==3)=true:=cO.2 (by assumption)
  try have V7:(m.aH==3)=false:=aV.2 (by assumption)
  try have V6:(m.aH==6)=true:=cO.2 (by assumption)
  try have V6:(m.aH==6)=false:=aV.2 (by assumption)
  go_ret;have hv:=aC.oh.eq_1 b m;simp only[*,aC.bR,aC.wh,bools,dY,dM,reduceIte,iL,Int.reduceBEq]at hv;rw[hv];refine⟨by(rfl),?_⟩;exact SM.more (by first|(with_reducible first|exact H.o'|exact H.o'.aL _ (by assumption)|exact(H.o'.head _))|exact H.o'.skip _) (by omega) (by omega)
theorem YU (h:SM E ws c s b m w):Calls prog 60 #[.pointer (some ⟨E.bb,0,none⟩),.pointer (some ⟨E.mb,0,none⟩)] w λr w'=>r= .returned (.bool (b.om m).2.2)/\SM E ws (c+1) s (b.om m).1 (b.om m).2.1 w':=by
 have H:=hd' h;obtain⟨c0, -,c2, -,c4⟩:=H.o'.sx.mc;obtain⟨-, -, -,d3, -,d5, -, -, -, -, -⟩:=H.o'.sx.bc;have q4:=H.o'.sx.mf.2;have f3:=H.o'.sx.bf 3 (by omega);have f5:=H.o'.sx.bf 5 (by omega);have hne: ¬E.mb=E.bb:=λe=>H.o'.sx.mo.ne e.symm
 have hne2: ¬E.bb=E.mb:=H.o'.sx.mo.ne;clear h;go_enter func60,ntmps60
 go_wp2_with (first
  |((first
   |(go_at_call 101;refine' tB (pX ?h ?_) ?_)
   |(go_at_call 100;refine' tB (uJ ?h ?_) ?_)
   |(go_at_call 102;(first|with_reducible refine' (rT ?h _ ?n).mono ?_|with_reducible refine' (kX ?h _ ?n ?r).mono ?_)));((case h=>with_reducible first|exact H.o'|exact H.o'.aL _ (by assumption)|exact H.o'.aD _|exact H.o'.fP _ (by decide));(try case n=>(decide));(try case r=>rfl);any_goals first|(rintro e w1 ⟨rfl,h1⟩;(try simp only[bN,strOf,dX,fK,aC.gZ]at h1);clear c0 c2 c4 q4 d3 f3 d5 f5;replace H:=hd' h1;clear h1;obtain⟨c0, -,c2, -,c4⟩:=H.o'.sx.mc;obtain⟨-, -, -,d3, -,d5, -, -, -, -, -⟩:=H.o'.sx.bc;have q4:=H.o'.sx.mf.2;have f3:=H.o'.sx.bf 3 (by omega);have f5:=H.o'.sx.bf 5 (by omega))|(intro t ht w1 h1;(try simp only[bN,strOf,dX,fK,aC.gZ]at ht h1);cases t <;>((try simp only[ht,reduceIte,gQ]at h1);clear c0 c2 c4 q4 d3 f3 d5 f5;replace H:=hd' h1;clear h1;obtain⟨c0, -,c2, -,c4⟩:=H.o'.sx.mc;obtain⟨-, -, -,d3, -,d5, -, -, -, -, -⟩:=H.o'.sx.bc;have q4:=H.o'.sx.mf.2;have f3:=H.o'.sx.bf 3 (by omega);have f5:=H.o'.sx.bf 5 (by omega)))|exact⟨by first|with_reducible rfl|simp[World.setCell],by rfl,by rfl,by(decide)⟩|fail))
  |(go_at_call 99;refine(rJ _ _ H.o'.sx.mo.Uf).mono ?_;rintro e w1 ⟨rfl,hb⟩;have h1:=H.o'.world hb;clear hb;have hz:=UC m.aL;generalize hr:mQ m.aL=rr at hz |-;generalize ha:gz m.aL=aa;clear c0 c2 c4 q4 d3 f3 d5 f5;replace H:=hd' h1;clear h1;obtain⟨c0, -,c2, -,c4⟩:=H.o'.sx.mc;obtain⟨-, -, -,d3, -,d5, -, -, -, -, -⟩:=H.o'.sx.bc;have q4:=H.o'.sx.mf.2;have f3:=H.o'.sx.bf 3 (by omega);have f5:=H.o'.sx.bf 5 (by omega)))
 all_goals try (exfalso;have q:=eq_of_beq (by assumption:(m.aH==1)=true);omega)
 all_goals try (exfalso;have q:=eq_of_beq (by assumption:(m.aH==2)=true);omega)
 all_goals try (exfalso;have q:=eq_of_beq (by assumption:(m.aH==3)=true);omega)
 all_goals try (exfalso;have q:=eq_of_beq (by assumption:(m.aH==6)=true);omega)
 all_goals
  try have e01:(m.aH==1)=true:=cO.2 (by assumption)
  try have e01:(m.aH==1)=false:=aV.2 (by assumption)
  try have V8:(m.aH==2)=true:=cO.2 (by assumption)
  try have V8:(m.aH==2)=false:=aV.2 (by assumption)
  try have V7:(m.aH==3)=true:=cO.2 (by assumption)
  try have V7:(m.aH==3)=false:=aV.2 (by assumption)
  try have V6:(m.aH==6)=true:=cO.2 (by assumption)
  try have V6:(m.aH==6)=false:=aV.2 (by assumption)
  go_ret;have hv:=aC.om.eq_1 b m;simp only[*,aC.bR,aC.wh,aC.Cu,bools,dY,dM,reduceIte,iL,Int.reduceBEq]at hv;rw[hv];refine⟨by(rfl),?_⟩;exact SM.more (by first|(with_reducible first|exact H.o'|exact H.o'.head _|exact H.o'.aL _ (by assumption)|exact(H.o'.head _))|exact H.o'.skip _) (by omega) (by omega)
end
end
section
section
variable {E:BE} {ws w w':af} {c:Nat} {s:Int} {b b':aC} {m m':aO}
theorem FY (l:List Int) (n:Int):vg (l++ [n]) n=l:=by
 unfold vg iX;rw[uB,au rfl,au (by omega),kg,Xg (ay _)];simp
theorem aem (l:List Int) (n x:Int):vg (l++ [n]++ [x]) n=l++ [x]:=by
 by_cases hx:x=n
 ·subst hx;rw[FY]
 ·unfold vg iX;rw[uB,aj hx,uB,au rfl,au (by omega),kg,vP,Xg (ay _)];simp
theorem Ok.S9 (h:Ok c s b) (n:Int) (ah:ae) {aA:List dD} (ha:Fits ah aA) (l':List Int)
 (h1:((b.S.T.ai.length:Int)-1<b.S.T.gy->l'.Sublist (b.S.l++ [(b.S.T.ai.length:Int)]))) (h2:(¬(b.S.T.ai.length:Int)-1<b.S.T.gy->l'.Sublist b.S.l)):Ok c (s-1) (((b.push n).ins ah aA).oP l'):=by
 have e:((b.push n).ins ah aA).S=⟨(aU b.S.T (b.S.l++ [n]) b.on 0 ah aA).1,(aU b.S.T (b.S.l++ [n]) b.on 0 ah aA).2.1,b.S.aF⟩:=aC.vW _ _
 have e2:(((b.push n).ins ah aA).oP l').S=⟨(aU b.S.T (b.S.l++ [n]) b.on 0 ah aA).1,l',b.S.aF⟩:=by
  show(⟨_,l',_⟩:AS)=_;rw[e]
 have akG:=ym b.S.T (b.S.l++ [n]) b.on 0 ah aA;refine⟨?_,?_,?_,?_,λhe=> ?_,?_⟩
 ·rw[e2];by_cases hm:(b.S.T.ai.length:Int)-1<b.S.T.gy
  ·have hf:=h.fi.ins (n:=(b.S.T.ai.length:Int)) rfl akG (yl (l:=b.S.l++ [n]) (on:=b.on) (sp:=0) (nm:=ah) (at':=aA) h.n1 hm) b.S.l.length;rw[<-Bb]at hf;exact hf.sub (h1 hm) (nV _)
  ·exact(h.fi.grow akG).sub (h2 hm) (nV _)
 ·rw[e2];exact bY h.n1 akG.1
 ·rw[e2];exact rR h.lm _ _ _ _ _
 ·rw[e2];exact h.hard
 ·obtain⟨q1,q2⟩:=aC.ou (b:= {b.push n with S:=⟨(aU b.S.T (b.S.l++ [n]) b.on 0 ah aA).1,(aU b.S.T (b.S.l++ [n]) b.on 0 ah aA).2.1,b.S.aF⟩}) (e:=(aU b.S.T (b.S.l++ [n]) b.on 0 ah aA).2.2.2) he;rw[e2];by_cases hm:(b.S.T.ai.length:Int)-1<b.S.T.gy
  ·have:=h.soft q2;have h3:=(nM hm (b.S.l++ [n]) b.on 0 ah aA).2.2;show(b.S.aF.count (-1):Int)<=((aU b.S.T (b.S.l++ [n]) b.on 0 ah aA).1.ai.length:Int)+(s-1);rw[h3];omega
  ·rw[mK hm]at q1;exact absurd (show(43:Int)=0 from q1) (by decide)
 ·rw[e2];exact E5 h.at' _ _ _ _ ha
theorem amB (b:aC) (n:Int) (ah:ae) (aA:List dD):((b.push n).ins ah aA).S.l=if(b.S.T.ai.length:Int)-1<b.S.T.gy then b.S.l++ [n]++ [(b.S.T.ai.length:Int)]else b.S.l++ [n]:=by
 have e:((b.push n).ins ah aA).S=⟨(aU b.S.T (b.S.l++ [n]) b.on 0 ah aA).1,(aU b.S.T (b.S.l++ [n]) b.on 0 ah aA).2.1,b.S.aF⟩:=aC.vW _ _;rw[e];by_cases hm:(b.S.T.ai.length:Int)-1<b.S.T.gy
 ·rw[au hm];exact(nM hm (b.S.l++ [n]) b.on 0 ah aA).1
 ·rw[aj hm,mK hm]
theorem Ok.behind (h:Ok c s b) (hm:Fits m.ah m.aA) (n:Int):Ok c s (((b.push n).gV m).1.ll n):=by
 have hl:=amB b n m.ah m.aA;unfold aC.gV;split
 ·refine((h.S9 n m.ah hm (vg (((b.push n).ins m.ah m.aA).S.l.dropLast) n) (λh1=> ?_) (λh1=> ?_)).of rfl id).more (ay _) (by omega)
  ·rw[hl,au h1,Lr,FY];exact List.sublist_append_left _ _
  ·rw[hl,aj h1,Lr];exact nY _ _
 ·split
  ·refine Ok.more (c:=c) (s:=s-1) ((h.S9 n m.ah hm (vg ((b.push n).ins m.ah m.aA).S.l n) (λh1=> ?_) (λh1=> ?_)).of rfl id) (ay _) (by omega)
   ·rw[hl,au h1,aem];exact nV _
   ·rw[hl,aj h1,FY];exact nV _
  ·split
   ·refine Ok.more (c:=c) (s:=s-1) ((h.S9 n m.ah hm (vg ((b.push n).ins m.ah m.aA).S.l n) (λh1=> ?_) (λh1=> ?_)).of rfl id) (ay _) (by omega)
    ·rw[hl,au h1,aem];exact nV _
    ·rw[hl,aj h1,FY];exact nV _
   ·have e:(vg (b.S.l++ [n]) n).Sublist b.S.l:=by rw[FY];exact nV _
    exact(h.oP e).of rfl id
theorem Y0 (b:aC) (m:aO):(b.gV m).1.head=b.head:=by
 have h1: ∀nm at',(b.ins nm at').head=b.head:=λnm at'=>(aC.tL _ _).2.2.2.1
 unfold aC.gV;split
 ·exact h1 _ _
 ·split
  ·exact h1 _ _
  ·split
   ·exact h1 _ _
   ·rfl
theorem VJ (h:SM E ws c s b m w) (hu:b.used+m.aL.size<=9223372036854775807):Calls prog 62 #[.pointer (some ⟨E.bb,0,none⟩),.pointer (some ⟨E.mb,0,none⟩)] w λr w'=>r= .returned (.bool (b.kE m).2.2)/\SM E ws (c+1) s (b.kE m).1 (b.kE m).2.1 w':=by
 have H:=hd' h;obtain⟨c0, -,c2, -, -⟩:=H.o'.sx.mc;obtain⟨-,d1, -,d3, -,d5, -, -, -, -, -⟩:=H.o'.sx.bc;have f3:=H.o'.sx.bf 3 (by omega);have hne: ¬E.mb=E.bb:=λe=>H.o'.sx.mo.ne e.symm
 have hne2: ¬E.bb=E.mb:=H.o'.sx.mo.ne;clear h;go_enter func62,ntmps62
 go_wp2_with ((first
  |(go_at_call 103;refine' tB (NL ?h hu) ?_)
  |(go_at_call 101;refine' tB (pX ?h ?_) ?_)
  |(go_at_call 100;refine' tB (uJ ?h ?_) ?_)
  |(go_at_call 102;(first|with_reducible refine' (rT ?h _ ?n).mono ?_|with_reducible refine' (kX ?h _ ?n ?r).mono ?_)));((case h=>with_reducible first|exact H.o'|exact H.o'.fP _ (by decide));(try case n=>(decide));(try case r=>rfl);any_goals first|(rintro e w1 ⟨rfl,h1⟩;(try simp only[bN,strOf,dX,fK,aC.gZ]at h1);clear c0 c2 d1 d3 d5 f3;replace H:=hd' h1;clear h1;obtain⟨c0, -,c2, -, -⟩:=H.o'.sx.mc;obtain⟨-,d1, -,d3, -,d5, -, -, -, -, -⟩:=H.o'.sx.bc;have f3:=H.o'.sx.bf 3 (by omega))|(intro t ht w1 h1;(try simp only[bN,strOf,dX,fK,aC.gZ]at ht h1);cases t <;>((try simp only[ht,reduceIte,gQ]at h1);clear c0 c2 d1 d3 d5 f3;replace H:=hd' h1;clear h1;obtain⟨c0, -,c2, -, -⟩:=H.o'.sx.mc;obtain⟨-,d1, -,d3, -,d5, -, -, -, -, -⟩:=H.o'.sx.bc;have f3:=H.o'.sx.bf 3 (by omega)))|exact⟨by(with_reducible rfl),by rfl,by rfl,by(decide)⟩|fail))
 all_goals try (
  try have e01:((aC.bR m).aH==1)=true:=cO.2 (by assumption)
  try have e01:((aC.bR m).aH==1)=false:=aV.2 (by assumption)
  try have V8:((aC.bR m).aH==2)=true:=cO.2 (by assumption)
  try have V8:((aC.bR m).aH==2)=false:=aV.2 (by assumption)
  try have V7:((aC.bR m).aH==3)=true:=cO.2 (by assumption)
  try have V7:((aC.bR m).aH==3)=false:=aV.2 (by assumption)
  try have V6:((aC.bR m).aH==6)=true:=cO.2 (by assumption)
  try have V6:((aC.bR m).aH==6)=false:=aV.2 (by assumption)
  go_ret;have hv:=aC.kE.eq_1 b m;simp only[*,bools,dY,dM,reduceIte,iL,Int.reduceBEq]at hv;rw[hv];refine⟨by(rfl),?_⟩
  exact SM.more (by first|(with_reducible first|exact H.o'|exact H.o'.aD _|exact(H.o'.head _))|exact H.o'.skip _) (by omega) (by omega))
 case _ =>
  have hl1:(b.eQ m).S.l.length<1000000:=by have:=H.o'.ok.len;omega
  have hl2:((b.eQ m).push (b.eQ m).head).S.l.length<1000000:=by show((b.eQ m).S.l++ [(b.eQ m).head]).length<1000000;rw[fC,sS];have:=H.o'.ok.len;omega
  have HO:=hd' (H.o'.ok.behind (m:=aC.bR m) H.o'.sx.mo.fits (b.eQ m).head);have HP:=hd' (ahT (H.o'.sx.world (aQ w1.heap.size w1).drew) hl1 (b.eQ m).head);have HHD:=hd' (Y0 ((b.eQ m).push (b.eQ m).head) (aC.bR m));clear c0 c2 d3 f3;have p1:=d1;have p5:=d5;clear d1 d5
  go_region_law (first
   |(go_simp;go_at_call 105;refine HP.o'.mono ?_
     rintro e w2 ⟨rfl,h2⟩;have H2:=hd' h2
     clear h2))
  all_goals
   try simp only[Act.put,jA,jC,jB,dV,dF,dK]
   go_wp2_with (go_at_call 104;refine(VO H2.o' hl2).mono ?_;rintro e w3 ⟨rfl,h3⟩;have H3:=hd' h3;clear h3)
   obtain⟨-,d1, -, -, -,d5, -⟩:=H3.o'.bc;rw[HHD.o']at d5;have d5':w3.cell? ⟨E.bb,5,none⟩=some (.int .i64 (b.eQ m).head):=d5;clear d5;have HQ:=hd' (LW (H3.o'.world (aQ w3.heap.size w3).drew) (b.eQ m).head)
   go_region_law (first
    |(go_simp;go_at_call 106;refine HQ.o'.mono ?_
      rintro e w4 ⟨rfl,h4⟩;have H4:=hd' h4
      clear h4))
   all_goals
    try simp only[Act.put,jA,jC,jB,dV,dF,dK]
    go_wp2_with fail
    go_ret;have hv:=aC.kE.eq_1 b m;simp only[*,bools,dY,dM,reduceIte,iL,Int.reduceBEq]at hv;rw[hv];exact⟨rfl,SM.more ⟨H4.o',HO.o'⟩ (by omega) (by omega)⟩
end
end
section
section
variable {E:BE} {ws w w':af} {c:Nat} {s:Int} {b b':aC} {m m':aO}
theorem SM.drew (h:SM E ws c s b m w):SM E ws c s b m w.drew:=h.world (aQ w.heap.size w).drew
theorem YP (names:List ae) (b:aC) (l:List Int) (k:Nat) (h:k<l.length):aC.tO names b (l.take (k+1)).reverse =
 if(aX b.S.T l[k]==0)&&dh names (bq b.S.T l[k])then(b.jw (bq b.S.T l[k])).mG [bq b.S.T l[k]]
 else if gJ (aX b.S.T l[k]) (bq b.S.T l[k])&& !((aX b.S.T l[k]==0)&&dh [⟨#[97,100,100,114,101,115,115]⟩,⟨#[100,105,118]⟩,⟨#[112]⟩] (bq b.S.T l[k]))then b
 else aC.tO names b (l.take k).reverse:=by
 rw[jL h,pO,xe,xc,aC.tO]
theorem aie (h:SM E ws c s b m w) {g:Nat} {di:Array ak} {e:TypeId} {n ca:Nat} (L:Lay g w di n) :
 Calls prog 198 #[.pointer (some ⟨E.bb,0,none⟩),.slice (some ⟨g,0,none⟩) n ca] (w.alloc (.cells di e)) λr w'=>r= .returned (.tuple #[])/\SM E ws c s (b.item (ed di)) m w':=by
 obtain⟨hg,hc,hn,hl⟩:=L;subst hg;have HN:=hd' (tH (w:=w) (e:=e) hc);have H:=hd' (h.alloc (.cells di e));generalize ed di=names at *;generalize w.alloc (.cells di e)=wa at *;generalize (some ⟨w.heap.size,0,none⟩:Option Addr)=ad at *;have hlen:=H.o'.ok.len.1;obtain⟨-,d1, -⟩:=H.o'.sx.bc;have ze:=hd' (Te H.o');obtain⟨l,hL⟩: ∃l,l=b.S.l:=⟨_,rfl⟩;have HV:Hid (b.item names=aC.tO names b (l.take l.length).reverse):=hd' (by rw[iH (ay _),hL];rfl);rw[<-hL]at hlen ze;clear h hc hL;subst hn;go_enter func198,ntmps198
 go_wp2_with (go_at_call 97;refine ze.o'.mono ?_;rintro e w1 ⟨v,rfl,ho,hb,h1⟩;obtain⟨va,vc,rfl,hv1,hv2,hv3,hat⟩:=fJ ho;have H1:=hd' h1;have HA:=hd' hat;have HN1:=hd' (HN.o'.below hb);clear ho hb h1 hat hv3)
 go_loopw [5] (λi wr=> ∃k:Nat,k<=l.length/\i= .int .i64 ((k:Int)-1)/\Hid (SM E ws c s b m wr)/\Hid (Below w1.heap.size w1 wr)/\Hid (b.item names=aC.tO names b (l.take k).reverse)) (λi _=>(intOf i+1).toNat)
 case atStart=>exact⟨l.length,ay _,rfl,H1,hd' (aQ _ _),HV⟩
 case round =>
  obtain⟨k,hk,rfl,HR,HB,KJ⟩:=hrel;cases k with
  |zero =>
   go_wp2_with fail
   go_end0
   rw[KJ.o'];exact⟨rfl,HR.o'⟩
  |succ k =>
   have hlt:k<l.length:=by omega
   obtain⟨bb,o,rfl⟩:=HA.o'.tq (by intro h;have:=aW List.length h;rw[eu,kQ]at this;omega);have hx:=aM HB.o' (HA.o'.get (fw l k hlt));have e1:((k+1:Nat):Int)-1=(k:Int):=by omega
   rw[e1];obtain⟨d0, -⟩:=HR.o'.sx.bc;have HST:=hd' (YP names b l k hlt);obtain⟨x,Sb⟩: ∃x,x=l[k]:=⟨_,rfl⟩;rw[<-Sb]at hx HST;have HW:=hd' (Ku (HR.o'.drew) x);clear Sb;go_wp2_with fail
   go_region_law (first
    |(go_simp;go_at_call 41;refine HW.o'.mono ?_
      rintro e w2 ⟨v,rfl, -,hb2,h2⟩;have H2:=hd' h2;have HB2:=hd' (HB.o'.drew.trans (hb2.mono HB.o'.drew.size))
      clear h2 hb2))
   all_goals
    try simp only[Act.put,jA,jC,jB,dV,dF,dK]
    clear HW;generalize aX b.S.T x=xs at *;generalize bq b.S.T x=xn at *;have HN2:=hd' (HN1.o'.below HB2.o');have HO:=hd' (uS xn names ad ca w2 (by unfold maxLen;omega) HN2.o');have HSp:Hid (∀u,Calls prog 203 #[.int .i64 xs,.string xn] u λe w'=>e= .returned (.bool (gJ xs xn))/\u=w'):=hd' λu=>sF xs xn u
    generalize gJ xs xn=t3 at *;generalize dh names xn=t at *;obtain⟨-,d1', -⟩:=H2.o'.sx.bc;by_cases hx0:xs=0
    ·subst hx0;have hst:=HST.o';simp only[iL,nW]at hst;clear HST;cases t
     ·cases t3
      ·go_wp2_with (first
        |(go_at_call 150;(with_reducible refine HO.o'.mono ?_;rintro e w3 ⟨rfl,rfl⟩))
        |(go_at_call 203;(with_reducible refine(HSp.o' _).mono ?_;rintro e w4 ⟨rfl,rfl⟩)))
       go_roundw
       case rel=>exact⟨k,by omega,by go_num,H2,HB2,hd' (by rw[KJ.o',hst];simp)⟩
       case measure=>simp[intOf]
      ·go_wp2_with (first
        |(go_at_call 150;(first
           |(with_reducible refine HO.o'.mono ?_;rintro e w3 ⟨rfl,rfl⟩)
           |(refine(uS xn [⟨#[97,100,100,114,101,115,115]⟩,⟨#[100,105,118]⟩,⟨#[112]⟩] _ _ _ (by decide) (jy rfl rfl)).mono ?_;rintro e w3 ⟨rfl,rfl⟩;generalize dh [⟨#[97,100,100,114,101,115,115]⟩,⟨#[100,105,118]⟩,⟨#[112]⟩] xn=t2 at *;cases t2)))
        |(go_at_call 203;(with_reducible refine(HSp.o' _).mono ?_;rintro e w4 ⟨rfl,rfl⟩)))
       ·first|go_end0|refine bU (oH rfl _ _ _) rfl ?_
        rw[KJ.o',hst];exact⟨by first|rfl|trivial,H2.o'.alloc _⟩
       ·go_roundw
        case rel=>exact⟨k,by omega,by go_num,hd' (H2.o'.alloc _),hd' (HB2.o'.alloc HB2.o'.size _),hd' (by rw[KJ.o',hst];simp)⟩
        case measure=>simp[intOf]
     ·go_wp2_with (first
       |(go_at_call 150;(with_reducible refine HO.o'.mono ?_;rintro e w3 ⟨rfl,rfl⟩))
       |(go_at_call 117;refine(xH H2.o' xn).mono ?_;rintro e w5 ⟨rfl,h5⟩;obtain⟨-,d5, -⟩:=h5.sx.bc;have H5:=hd' h5;clear h5)
       |(go_at_call 114;refine(zn H5.o' ⟨rfl,by rfl,by rfl,by simp[ed]⟩).mono ?_;rintro e w6 ⟨rfl,h6⟩;simp only[bN,strOf,dX,fK]at h6;have H6:=hd' h6;clear h6))
      first|go_end0|refine bU (oH rfl _ _ _) rfl ?_
      rw[KJ.o',hst,au trivial];exact⟨rfl,H6.o'⟩
    ·have hx1:(xs==0)=false:=aV.2 hx0;clear hx0;have hst:=HST.o';simp only[hx1,Ew,QZ,Bool.and_true,gQ,dM]at hst;clear HST;cases t3
     ·go_wp2_with (first
       |(go_at_call 203;(with_reducible refine(HSp.o' _).mono ?_;rintro e w4 ⟨rfl,rfl⟩)))
      go_roundw
      case rel=>exact⟨k,by omega,by go_num,H2,HB2,hd' (by rw[KJ.o',hst];simp)⟩
      case measure=>simp[intOf]
     ·go_wp2_with (first
       |(go_at_call 203;(with_reducible refine(HSp.o' _).mono ?_;rintro e w4 ⟨rfl,rfl⟩)))
      first|go_end0|refine bU (oH rfl _ _ _) rfl ?_
      rw[KJ.o',hst];exact⟨by first|rfl|trivial,H2.o'⟩
theorem YE (T:aB) (l:List Int) (k:Nat) (h:k<l.length):aC.jO T (l.take (k+1)).reverse=aC.jO T (l[k]::(l.take k).reverse):=by
 rw[jL h,pO,xe,xc]
theorem UD (h:SM E ws c s b m w):Calls prog 115 #[.pointer (some ⟨E.bb,0,none⟩)] w λr w'=>r= .returned (.tuple #[])/\SM E ws c s b.reset m w':=by
 have H:=hd' h;have hlen:=H.o'.ok.len.1;have auV:=H.o'.sx.bm.row.lt;obtain⟨-,d1, -⟩:=H.o'.sx.bc;have ze:=hd' (Te H.o');obtain⟨l,hL⟩: ∃l,l=b.S.l:=⟨_,rfl⟩;have HV:Hid (aC.jO b.S.T b.S.l.reverse=aC.jO b.S.T (l.take l.length).reverse):=hd' (by rw[iH (ay _),hL]);rw[<-hL]at hlen ze;clear h hL;go_enter func115,ntmps115
 go_wp2_with (go_at_call 97;refine ze.o'.mono ?_;rintro e w1 ⟨v,rfl,ho,hb,h1⟩;obtain⟨va,vc,rfl,hv1,hv2,hv3,hat⟩:=fJ ho;obtain⟨-, -, -,d3, -⟩:=h1.sx.bc;have f3:=h1.sx.bf 3 (by omega);have H1:=hd' (h1.aD 4);have HA:=hd' (rX.yS (F:=λk=>k=E.bb) hat (λb' o' s' e' (hx:b'=E.bb)=>by have:=(ho.lt b' (by rw[e'];rfl)).1;omega));have HK:=hd' (az.set (F:=λk=>k=E.bb) (az.refl _ w1) (p:=⟨E.bb,3,none⟩) (.inl rfl) (.int .i64 4));clear ho hb h1 hat hv3)
 go_loopw [3] (λi wr=> ∃k:Nat,k<=l.length/\i= .int .i64 ((k:Int)-1)/\Hid (SM E ws c s (b.goto 4) m wr)/\Hid (az (λk=>k=E.bb) w1 wr)/\Hid (aC.jO b.S.T b.S.l.reverse=aC.jO b.S.T (l.take k).reverse)) (λi _=>(intOf i+1).toNat)
 case atStart=>exact⟨l.length,ay _,rfl,H1,HK,HV⟩
 case round =>
  obtain⟨k,hk,rfl,HR,HB,KJ⟩:=hrel;cases k with
  |zero =>
   go_wp2_with fail
   go_end0
   unfold aC.reset;rw[KJ.o'];exact⟨rfl,HR.o'⟩
  |succ k =>
   have hlt:k<l.length:=by omega
   obtain⟨bb,o,rfl⟩:=HA.o'.at.tq (by intro h;have:=aW List.length h;rw[eu,kQ]at this;omega);have hx:=(HA.o'.kept HB.o').at.get (fw l k hlt);have e1:((k+1:Nat):Int)-1=(k:Int):=by omega
   rw[e1];obtain⟨d0, -⟩:=HR.o'.sx.bc;have hst:=YE b.S.T l k hlt;obtain⟨x,Sb⟩: ∃x,x=l[k]:=⟨_,rfl⟩;rw[<-Sb]at hx hst;rw[aC.jO]at hst;have HST:=hd' hst;have HW:=hd' (Ku (HR.o'.drew) x);clear Sb hst d3 f3;go_wp2_with fail
   go_region_law (first
    |(go_simp;go_at_call 41;refine HW.o'.mono ?_
      rintro e w2 ⟨v,rfl, -,hb2,h2⟩;have H2:=hd' h2;have HB2:=hd' (HB.o'.drew.trans (az.bC hb2))
      clear h2 hb2))
   all_goals
    try simp only[Act.put,jA,jC,jB,dV,dF,dK]
    clear HW;generalize hxs:aX (b.goto 4).S.T x=xs at *;generalize hxn:bq (b.goto 4).S.T x=xn at *;replace hxs:aX b.S.T x=xs:=hxs;replace hxn:bq b.S.T x=xn:=hxn;rw[hxs,hxn]at HST;clear hxs hxn;obtain⟨-, -, -,d3, -⟩:=H2.o'.sx.bc;have f3:=H2.o'.sx.bf 3 (by omega);by_cases hx0:xs=0
    ·subst hx0;go_wp2_with fail
     all_goals try (first|exact clash (x:=xn.toList) (l:=([116,100]:List ax)) (by assumption) (by assumption)|exact clash (x:=xn.toList) (l:=([116,104]:List ax)) (by assumption) (by assumption)|exact clash (x:=xn.toList) (l:=([116,114]:List ax)) (by assumption) (by assumption)|exact clash (x:=xn.toList) (l:=([116,98,111,100,121]:List ax)) (by assumption) (by assumption)|exact clash (x:=xn.toList) (l:=([116,104,101,97,100]:List ax)) (by assumption) (by assumption)|exact clash (x:=xn.toList) (l:=([116,102,111,111,116]:List ax)) (by assumption) (by assumption)|exact clash (x:=xn.toList) (l:=([99,97,112,116,105,111,110]:List ax)) (by assumption) (by assumption)|exact clash (x:=xn.toList) (l:=([99,111,108,103,114,111,117,112]:List ax)) (by assumption) (by assumption)|exact clash (x:=xn.toList) (l:=([116,97,98,108,101]:List ax)) (by assumption) (by assumption)|exact clash (x:=xn.toList) (l:=([98,111,100,121]:List ax)) (by assumption) (by assumption))
     all_goals
      have hst:=HST.o';simp only[*,ne_eq,not_true_eq_false,dM,dY,sU,Bool.true_or,Ad,Bool.or_self,gQ]at hst
      first
       |(first|go_end0|refine bU (oH rfl _ _ _) rfl ?_
         unfold aC.reset;rw[KJ.o',hst]
         first|exact⟨rfl,H2.o'.aD _⟩|exact⟨rfl,H2.o'⟩)
       |(go_roundw
         case rel=>exact⟨k,by omega,by go_num,H2,HB2,hd' (by rw[KJ.o',hst])⟩
         case measure=>simp[intOf])
    ·have hx1:(xs !=0)=true:=by simpa using hx0
     have hst:=HST.o';rw[au hx0]at hst;clear hx0;go_wp2_with fail
     go_roundw
     case rel=>exact⟨k,by omega,by go_num,H2,HB2,hd' (by rw[KJ.o',hst])⟩
     case measure=>simp[intOf]
end
end
section
def BE.wide (E:BE) (lo hi:Nat):BE:= {E with ex:=λk=>E.ex k\/(lo<=k/\k<hi)}
section
variable {E:BE} {ws w w':af} {c:Nat} {s:Int} {b b':aC} {m m':aO}
theorem OM.wide {lo hi:Nat}: ∀k,OM (E.wide lo hi) k->OM E k:=λ_ hx=>hx.imp (λh=>⟨h.1,λhe=>h.2 (.inl he)⟩) id
theorem SM.wide (h:SM E ws c s b m w) (hb:Below w.heap.size w w'):SM (E.wide w.heap.size w'.heap.size) w' c s b m w':=by
 have h':=h.world hb;obtain⟨⟨⟨h1,h2,h3,h4⟩,⟨k1,k2,k3,k4,k5,k6,k7,k8,k9,kA⟩,h5⟩,ho⟩:=h';refine⟨⟨⟨h.sx.bm.li.dE (F:=λ_=>False) (az.bC hb) (λ_ hx=>hx.elim) λk hx=> ?_,h2,.inl h3,h4⟩,⟨k1,.inl k2,k3,k4,k5.other λk _ hx=>OM.wide k hx,k6,k7,k8,k9,kA⟩,az.refl _ _⟩,ho⟩;rcases hx with hx|hx
 ·exact⟨.inl hx,fA (h.sx.bm.li.Bu k hx) hb.size⟩
 ·exact⟨.inr hx.1,hx.2⟩
theorem SM.Xt {c':Nat} {s':Int} {w1:af} (h0:SM E ws c s b' m' w) (hb:Below w.heap.size w w1) {lo hi:Nat} (h:SM (E.wide lo hi) w1 c' s' b m w') (hm:m.aA=m'.aA):SM E ws c' s' b m w':=by
 obtain⟨⟨⟨h1,h2,h3,h4⟩,⟨k1,k2,k3,k4,k5,k6,k7,k8,k9,kA⟩,h5⟩,ho⟩:=h;have hk:az (OM E) w w':=(az.bC hb).trans (h5.mono λk _ hx=>OM.wide k hx);refine⟨⟨⟨h1.less λk hx=> .inl hx,h2,h0.sx.bm.exb,h4⟩,⟨k1,h0.sx.mo.exm,k3,k4,?_,k6,k7,k8,k9,kA⟩,h0.sx.keep.trans hk⟩,ho⟩;rw[hm];exact h0.sx.mo.Bz.kept hk
theorem Uv (h:SM E ws c s b m w) (hb:Below w.heap.size w w') {e:TypeId} {sz n:Nat} {xs:List ak} {va:Option Addr} {vc:Nat} (ho:w'.ownsRow w.heap.size e sz (.slice va n vc) n xs) (hat:At w' va xs):rX (OM (E.wide w.heap.size w'.heap.size)) w' va xs:=λj u hj=>by
 obtain⟨g,o,rfl,hc⟩:=hat j u hj;refine⟨g,o,rfl,λhx=> ?_,hc⟩;have h1:=(ho.lt g rfl).1;have h2:g<w'.heap.size:=lt_of_cell hc;have h3:=h.sx.bm.row.lt;have h4:=h.sx.mo.row.lt;rcases hx with hx|hx|hx
 ·exact hx.2 (.inr ⟨h1,h2⟩)
 ·have:g=E.bb:=hx;omega
 ·have:g=E.mb:=hx;omega
theorem FV (T:aB) (but:ae) {x:Int} (hx:aI T x [but]=true): ∀l:List Int,x∈l->x∈jG T but l
 | [],h=>h
 |y::r,h=>by
  rw[jG];split
  ·rename_i hc;rcases dS.1 h with e|h
   ·subst e;rw[hx]at hc;simp at hc
   ·exact FV T but hx r h
  ·exact h
theorem U5 (want:ae) (b:aC) (l:List Int) (k:Nat) (h:k<l.length):aC.oL want b (l.take (k+1)).reverse =
 if(aX b.S.T l[k]==0)&&dh [want] (bq b.S.T l[k])then(b.jw want).ui l[k]
 else if gJ (aX b.S.T l[k]) (bq b.S.T l[k])then b
 else aC.oL want b (l.take k).reverse:=by
 rw[jL h,pO,xe,xc,aC.oL]
theorem Mt (b:aC) (L:List Int) (x:Int):aC.ui (b.oP (L++ [x])) x=b.oP L:=by
 unfold aC.ui;show b.oP ((((L++ [x]).reverse.dropWhile λy=>y !=x).drop 1).reverse)=b.oP L;rw[pO,xe,xc,List.dropWhile_cons_of_neg (by simp)];simp
theorem Ms (b:aC) (L:List Int) {x y:Int} (h:y≠x):aC.ui (b.oP (L++ [y])) x=aC.ui (b.oP L) x:=by
 unfold aC.ui;show b.oP ((((L++ [y]).reverse.dropWhile λz=>z !=x).drop 1).reverse)=b.oP (((L.reverse.dropWhile λz=>z !=x).drop 1).reverse);rw[pO,xe,xc,List.dropWhile_cons_of_pos (by simpa using h)]
theorem Vr {L:List Int} {x:Int} (h:x∈L): ∃L0 y,L=L0++ [y]:=by
 rcases yM L with e|⟨L0,y,e⟩
 ·rw[e]at h;cases h
 ·exact⟨L0,y,by rw[e,yO]⟩
theorem aeL (h:SM E ws c s b m w) (want:ae):Calls prog 167 #[.pointer (some ⟨E.bb,0,none⟩),.string want] w λr w'=>r= .returned (.tuple #[])/\SM E ws c s (b.other want) m w':=by
 have H:=hd' h;have hlen:=H.o'.ok.len.1;obtain⟨-,d1, -⟩:=H.o'.sx.bc;have ze:=hd' (Te H.o');obtain⟨l,hL⟩: ∃l,l=b.S.l:=⟨_,rfl⟩;have HV:Hid (b.other want=aC.oL want b (l.take l.length).reverse):=hd' (by rw[iH (ay _),hL];rfl);have HLB:=hd' hL;rw[<-hL]at hlen ze;clear h hL;go_enter func167,ntmps167
 go_wp2_with (go_at_call 97;refine ze.o'.mono ?_;rintro e w1 ⟨v,rfl,ho,hb,h1⟩;obtain⟨va,vc,rfl,hv1,hv2,hv3,hat⟩:=fJ ho;have H1:=hd' (H.o'.wide hb);have HA:=hd' (Uv H.o' hb ho hat);have HB:=hd' hb;clear ho hb h1 hat hv3)
 have HU:Hid (∀b1 u,SM (E.wide w.heap.size w1.heap.size) w1 c s b1 m u->SM E ws c s b1 m u):=hd' λb1 u hu=>H.o'.Xt HB.o' hu rfl
 have HC:Hid (∀b1 u,SM (E.wide w.heap.size w1.heap.size) w1 c s b1 m u->u.cell? ⟨E.bb,0,none⟩=some (.pointer (some ⟨E.tb,0,none⟩))/\u.cell? ⟨E.bb,1,none⟩=some (.pointer (some ⟨E.sb,0,none⟩))):=hd' λb1 u hu=>⟨hu.sx.bc.1,hu.sx.bc.2.1⟩
 have HWh:Hid (∀b1 u x,SM (E.wide w.heap.size w1.heap.size) w1 c s b1 m u->Calls prog 41 #[.pointer (some ⟨E.tb,0,none⟩),.int .i64 x] u λr w'=> ∃v,r= .returned (.tuple #[.int .i64 (aX b1.S.T x),.string (bq b1.S.T x),v])/\SM (E.wide w.heap.size w1.heap.size) w1 c s b1 m w'):=hd' λb1 u x hu=>(Ku hu x).mono λ_ _ ⟨v,hr,_,_,hs⟩=>⟨v,hr,hs⟩
 have HIm:Hid (∀b1 u,SM (E.wide w.heap.size w1.heap.size) w1 c s b1 m u->Calls prog 117 #[.pointer (some ⟨E.sb,0,none⟩),.string want] u λr w'=>r= .returned (.tuple #[])/\SM (E.wide w.heap.size w1.heap.size) w1 c s (b1.jw want) m w'):=hd' λb1 u hu=>xH hu want
 have HPo:Hid (∀b1 u,SM (E.wide w.heap.size w1.heap.size) w1 c s b1 m u->Calls prog 56 #[.pointer (some ⟨E.sb,0,none⟩)] u λr w'=>r= .returned (.int .i64 b1.top)/\SM (E.wide w.heap.size w1.heap.size) w1 c s b1.pop m w'):=hd' λb1 u hu=>vS hu
 have HAk:Hid (∀b1 u,SM (E.wide w.heap.size w1.heap.size) w1 c s b1 m u->rX (OM (E.wide w.heap.size w1.heap.size)) u va (bB l)):=hd' λb1 u hu=>HA.o'.kept hu.sx.keep
 have Xa:Hid (∀b1 u,SM (E.wide w.heap.size w1.heap.size) w1 c s b1 m u->SM (E.wide w.heap.size w1.heap.size) w1 c s b1 m u.drew):=hd' λb1 u hu=>hu.drew
 have HAl:Hid (∀b1 u o,SM (E.wide w.heap.size w1.heap.size) w1 c s b1 m u->SM (E.wide w.heap.size w1.heap.size) w1 c s b1 m (u.alloc o)):=hd' λb1 u o hu=>hu.alloc o
 generalize SM (E.wide w.heap.size w1.heap.size) w1 c s=SS at *;go_loopw [5] (λi wr=> ∃k:Nat,k<=l.length/\i= .int .i64 ((k:Int)-1)/\Hid (SS b m wr)/\Hid (b.other want=aC.oL want b (l.take k).reverse)) (λi _=>(intOf i+1).toNat)
 case atStart=>exact⟨l.length,ay _,rfl,H1,HV⟩
 case round =>
  obtain⟨k,hk,rfl,HR,KJ⟩:=hrel;cases k with
  |zero =>
   go_wp2_with fail
   go_end0
   rw[KJ.o'];exact⟨rfl,HU.o' _ _ HR.o'⟩
  |succ k =>
   have hlt:k<l.length:=by omega
   obtain⟨bb,o,rfl⟩:=HA.o'.at.tq (by intro h;have:=aW List.length h;rw[eu,kQ]at this;omega);have hx:=(HAk.o' _ _ HR.o').at.get (fw l k hlt);have e1:((k+1:Nat):Int)-1=(k:Int):=by omega
   rw[e1];obtain⟨d0, -⟩:=HC.o' _ _ HR.o';have HST:=hd' (U5 want b l k hlt);have HXl:=hd' (show l[k]∈l from kH hlt);obtain⟨x,Sb⟩: ∃x,x=l[k]:=⟨_,rfl⟩;rw[<-Sb]at hx HST HXl
   have HG:Hid (∀b1 u,SS b1 m u->u.cell? ⟨bb,o+k,none⟩=some (.int .i64 x)):=hd' λb1 u hu=>by
    rw[Sb];exact(HAk.o' _ _ hu).at.get (fw l k hlt)
   have Oc:Hid (aX b.S.T x=0->dh [want] (bq b.S.T x)=true->x∈(b.jw want).S.l):=hd' λh1 h2=>by
    have hel:=H.o'.ok.fi.lel x (HLB.o'▸HXl.o')
    have hn:aI b.S.T x [want]=true:=by
     unfold aI dh at *;rw[hel,h1];rw[cz]at h2;rw[h2.1];rfl
    show x∈(jG b.S.T want b.S.l.reverse).reverse;rw[jM];exact FV _ _ hn _ (jM.2 (HLB.o'▸HXl.o'))
   have HW:=hd' (HWh.o' b wr.drew x (Xa.o' _ _ HR.o'));clear Sb;go_wp2_with fail
   go_region_law (first
    |(go_simp;go_at_call 41;refine HW.o'.mono ?_
      rintro e w2 ⟨v,rfl,h2⟩;have H2:=hd' h2
      clear h2))
   all_goals
    try simp only[Act.put,jA,jC,jB,dV,dF,dK]
    clear HW;generalize aX b.S.T x=xs at *;generalize bq b.S.T x=xn at *;have HSp:Hid (∀u,Calls prog 203 #[.int .i64 xs,.string xn] u λe w'=>e= .returned (.bool (gJ xs xn))/\u=w'):=hd' λu=>sF xs xn u
    generalize gJ xs xn=t3 at *;have HO:Hid (∀u:af,Calls prog 150 #[.string xn,.slice (some ⟨u.heap.size,0,none⟩) 1 1] (u.alloc (.cells #[.string want] 9)) λe w'=>e= .returned (.bool (dh [want] xn))/\u.alloc (.cells #[.string want] 9)=w'):=hd' λu=>uS xn [want] _ _ _ (by unfold maxLen;simp) (jy rfl rfl)
    generalize dh [want] xn=t at *;obtain⟨-,d1'⟩:=HC.o' _ _ H2.o';by_cases hx0:xs=0
    ·subst hx0;have hst:=HST.o';simp only[iL,nW]at hst;clear HST;cases t
     ·cases t3
      ·go_wp2_with (first
        |(go_at_call 150;refine(HO.o' w2).mono ?_;rintro e w3 ⟨rfl,rfl⟩)
        |(go_at_call 203;(with_reducible refine(HSp.o' _).mono ?_;rintro e w4 ⟨rfl,rfl⟩)))
       go_roundw
       case rel=>exact⟨k,by omega,by go_num,hd' (HAl.o' _ _ _ H2.o'),hd' (by rw[KJ.o',hst];simp)⟩
       case measure=>simp[intOf]
      ·go_wp2_with (first
        |(go_at_call 150;refine(HO.o' w2).mono ?_;rintro e w3 ⟨rfl,rfl⟩)
        |(go_at_call 203;(with_reducible refine(HSp.o' _).mono ?_;rintro e w4 ⟨rfl,rfl⟩)))
       (refine bU (oH rfl _ _ _) rfl ?_)
       rw[KJ.o',hst];exact⟨by(rfl),HU.o' _ _ (HAl.o' _ _ _ H2.o')⟩
     ·have HX:=hd' (Oc.o' rfl rfl);have HVX:Hid (b.other want=(b.jw want).ui x):=hd' (by rw[KJ.o',hst];simp);clear hst;have g1:=(HC.o' _ _ (HAl.o' _ _ (.cells #[.string want] 9) H2.o')).2
      go_wp2_with (first
       |(go_at_call 150;refine(HO.o' w2).mono ?_;rintro e w3 ⟨rfl,rfl⟩)
       |(go_at_call 117;refine(HIm.o' _ _ (HAl.o' _ _ _ H2.o')).mono ?_;rintro e w5 ⟨rfl,h5⟩;have H5:=hd' h5;clear h5))
      go_loopg [] (b.jw want).S.l.length (λn w6=>Hid (∃L:List Int,L.length=n/\SS ((b.jw want).oP L) m w6/\x∈L/\(b.jw want).ui x=((b.jw want).oP L).ui x))
      case atStart=>exact hd' ⟨(b.jw want).S.l,rfl,H5.o',HX.o',rfl⟩
      case round =>
       obtain⟨L,hL1,hL2,hL3,hL4⟩:=hrel.o';obtain⟨L0,y,rfl⟩:=Vr hL3;have HLa:=hd' hL1;have HLb:=hd' hL2;have HLc:=hd' hL3;have HLd:=hd' hL4;clear hL1 hL2 hL3 hL4
       rename af=>wz
       have htop:aC.top ((b.jw want).oP (L0++ [y]))=y:=by show((L0++ [y]).getLast?.getD 0)=y;simp
       have VM:aC.pop ((b.jw want).oP (L0++ [y]))=(b.jw want).oP L0:=by unfold aC.pop;show(b.jw want).oP ((L0++ [y]).dropLast)=_;simp
       have HP:=hd' (HPo.o' _ _ (Xa.o' _ _ HLb.o'));rw[htop,VM]at HP;clear htop VM;have q1:=(HC.o' _ _ (Xa.o' _ _ HLb.o')).2;have q0:=HG.o' _ _ (Xa.o' _ _ HLb.o');by_cases hyx:y=x
       ·subst hyx;go_wp2_with fail
        go_region_held3 (λu=>u.cell? ⟨E.bb,1,none⟩=some (.pointer (some ⟨E.sb,0,none⟩))/\u.cell? ⟨bb,o+k,none⟩=some (.int .i64 y))
         (first|exact⟨q1,q0⟩|exact⟨p1,p0⟩)
         ((go_at_call 56;refine HP.o'.mono ?_;rintro e w7 ⟨rfl,h7⟩;have p1:=(HC.o' _ _ h7).2;have p0:=HG.o' _ _ h7;have H7:=hd' h7;clear h7))
        all_goals
         try simp only[Act.put,jA,jC,jB,dV,dF,dK]
         go_wp2_with fail
         (refine bU (oH rfl _ _ _) rfl ?_)
         rw[HVX.o',HLd.o',Mt];exact⟨by(rfl),HU.o' _ _ H7.o'⟩
       ·have hyb:(y !=x)=true:=by simpa using hyx
        have HM:=hd' (Ms (b.jw want) L0 hyx)
        have Ty:Hid (x∈L0):=hd' (by
         rcases fB.1 HLc.o' with h|h
         ·exact h
         ·exact absurd (dG.1 h).symm hyx)
        clear hyx;go_wp2_with fail
        go_region_held3 (λu=>u.cell? ⟨E.bb,1,none⟩=some (.pointer (some ⟨E.sb,0,none⟩))/\u.cell? ⟨bb,o+k,none⟩=some (.int .i64 x))
         (first|exact⟨q1,q0⟩|exact⟨p1,p0⟩)
         ((go_at_call 56;refine HP.o'.mono ?_;rintro e w7 ⟨rfl,h7⟩;have p1:=(HC.o' _ _ h7).2;have p0:=HG.o' _ _ h7;have H7:=hd' h7;clear h7))
        all_goals
         try simp only[Act.put,jA,jC,jB,dV,dF,dK]
         go_wp2_with fail
         go_roundg L0.length
         case measure=>have:=HLa.o';rw[fC,sS]at this;omega
         case rel=>exact hd' ⟨L0,rfl,H7.o',Ty.o',by rw[HLd.o',HM.o']⟩
    ·have hx1:(xs==0)=false:=aV.2 hx0;clear hx0;have hst:=HST.o';simp only[hx1,Ew,gQ,dM]at hst;clear HST;cases t3
     ·go_wp2_with (first
       |(go_at_call 203;(with_reducible refine(HSp.o' _).mono ?_;rintro e w4 ⟨rfl,rfl⟩)))
      go_roundw
      case rel=>exact⟨k,by omega,by go_num,H2,hd' (by rw[KJ.o',hst];simp)⟩
      case measure=>simp[intOf]
     ·go_wp2_with (first
       |(go_at_call 203;(with_reducible refine(HSp.o' _).mono ?_;rintro e w4 ⟨rfl,rfl⟩)))
      (refine bU (oH rfl _ _ _) rfl ?_)
      rw[KJ.o',hst];exact⟨by(rfl),HU.o' _ _ H2.o'⟩
end
end
section
section
variable {E:BE} {ws w w':af} {c:Nat} {s:Int} {b b':aC} {m m':aO}
theorem af4 (h:SM E ws c s b m w) (hc:c<=100000):Calls prog 161 #[.pointer (some ⟨E.bb,0,none⟩),.pointer (some ⟨E.mb,0,none⟩)] w λr w'=>r= .returned (.tuple #[])/\SM E ws c s (b.forms m) m w':=by
 have H:=hd' h;have hv:=aC.forms.eq_1 b m;have HV:=hd' hv;clear h hv;go_enter func161,ntmps161
 go_wp2_with (go_at_call 107;refine(uC H.o' hc).mono ?_;rintro e w1 ⟨rfl,h1⟩;replace H:=hd' h1;clear h1)
 generalize b.dx=br at *;obtain⟨-,c1,c2, -⟩:=H.o'.sx.mc;have HI:=hd' (kX H.o'.drew m.ah H.o'.sx.mo.Cf rfl);have HN:=hd' (H.o'.ok.yX m.ah m.aA);generalize br.yX m.ah m.aA=x at *;generalize br.ins m.ah m.aA=bi at *
 go_region_law (first
  |(go_simp;go_at_call 102;refine HI.o'.mono ?_
    rintro e w2 ⟨rfl,h2⟩;obtain⟨-, -,d2, -⟩:=h2.sx.bc;have H2:=hd' h2
    clear h2))
 all_goals
  try simp only[Act.put,jA,jC,jB,dV,dF,dK]
  by_cases hx:x=0
  ·subst hx;go_wp2_with fail
   go_end0
   rw[HV.o',au trivial];exact⟨rfl,H2.o'.more (ay _) (by omega)⟩
  ·have hx':(x !=0)=true:=by simpa using hx
   have hn:=HN.o'.resolve_left hx;rw[aj hx]at HV;clear hx;go_wp2_with (go_at_call 202;refine(afh H2.o' hc hn.1 hn.2.1).mono ?_;rintro e w3 ⟨rfl,h3⟩;have H3:=hd' h3;clear h3)
   go_end0
   rw[HV.o'];exact⟨rfl,H3.o'.more (ay _) (by omega)⟩
theorem TM (h:SM E ws c s b m w) (hc:c<=100000):Calls prog 163 #[.pointer (some ⟨E.bb,0,none⟩),.pointer (some ⟨E.mb,0,none⟩)] w λr w'=>r= .returned (.tuple #[])/\SM E ws c s (b.ng m) m w':=by
 have H:=hd' h;obtain⟨-,c1, -, -, -⟩:=H.o'.sx.mc;obtain⟨-, -, -, -, -, -, -,d7, -, -, -⟩:=H.o'.sx.bc;have f7:=H.o'.sx.bf 7 (by omega);have hne: ¬E.mb=E.bb:=λe=>H.o'.sx.mo.ne e.symm
 have hne2: ¬E.bb=E.mb:=H.o'.sx.mo.ne;clear h
 have hsp:((m.ah.toList==([116,101,120,116,97,114,101,97]:List ax))=true/\(m.ah.toList==([120,109,112]:List ax))=false)\/((m.ah.toList==([116,101,120,116,97,114,101,97]:List ax))=false/\(m.ah.toList==([120,109,112]:List ax))=true)\/((m.ah.toList==([116,101,120,116,97,114,101,97]:List ax))=false/\(m.ah.toList==([120,109,112]:List ax))=false):=by
  by_cases q0:m.ah.toList=([116,101,120,116,97,114,101,97]:List ax)
  ·refine .inl ?_;rw[q0];decide
  by_cases q1:m.ah.toList=([120,109,112]:List ax)
  ·refine .inr ?_;refine .inl ?_;rw[q1];decide
  refine .inr ?_;refine .inr ?_;exact⟨aV.2 q0,aV.2 q1⟩
 rcases hsp with⟨p0,p1⟩|⟨p0,p1⟩|⟨p0,p1⟩
 all_goals
  go_enter func163,ntmps163
  go_wp2_with ((first
   |(go_at_call 151;refine' (ahP ?h _).mono ?_)
   |(go_at_call 165;refine' (Ap ?h).mono ?_)
   |(go_at_call 107;refine' (uC ?h ?_).mono ?_));((case h=>with_reducible first|exact H.o'|exact H.o'.fP _ (by decide));any_goals first|(rintro e w1 ⟨rfl,h1⟩;(try simp only[bN,strOf,dX,fK,aC.gZ]at h1);clear c1 d7 f7;replace H:=hd' h1;clear h1;obtain⟨-,c1, -, -, -⟩:=H.o'.sx.mc;obtain⟨-, -, -, -, -, -, -,d7, -, -, -⟩:=H.o'.sx.bc;have f7:=H.o'.sx.bf 7 (by omega))|omega))
  all_goals try (
   (first|go_end0|refine bU (oH rfl _ _ _) rfl ?_)
   have hv:=aC.ng.eq_1 b m;simp only[*,bools,dY,dM,reduceIte,iL,Int.reduceBEq]at hv;rw[hv];refine⟨by(rfl),?_⟩
   exact SM.more (by first|(with_reducible first|exact H.o'|exact(H.o'.head _))|exact H.o'.skip _) (by omega) (by omega))
theorem Yk (h:SM E ws c s b m w) (hc:c<=100000):Calls prog 164 #[.pointer (some ⟨E.bb,0,none⟩),.pointer (some ⟨E.mb,0,none⟩)] w λr w'=>r= .returned (.tuple #[])/\SM E ws (c+1) s (b.phrases m) m w':=by
 have H:=hd' h;obtain⟨-,c1,c2, -, -⟩:=H.o'.sx.mc;obtain⟨-,d1,d2, -, -, -, -, -, -, -, -⟩:=H.o'.sx.bc;have hne: ¬E.mb=E.bb:=λe=>H.o'.sx.mo.ne e.symm
 have hne2: ¬E.bb=E.mb:=H.o'.sx.mo.ne;clear h
 have hsp:((m.ah.toList==([98,117,116,116,111,110]:List ax))=true/\(m.ah.toList==([111,112,116,105,111,110]:List ax))=false/\(m.ah.toList==([111,112,116,103,114,111,117,112]:List ax))=false)\/((m.ah.toList==([98,117,116,116,111,110]:List ax))=false/\(m.ah.toList==([111,112,116,105,111,110]:List ax))=true/\(m.ah.toList==([111,112,116,103,114,111,117,112]:List ax))=false)\/((m.ah.toList==([98,117,116,116,111,110]:List ax))=false/\(m.ah.toList==([111,112,116,105,111,110]:List ax))=false/\(m.ah.toList==([111,112,116,103,114,111,117,112]:List ax))=true)\/((m.ah.toList==([98,117,116,116,111,110]:List ax))=false/\(m.ah.toList==([111,112,116,105,111,110]:List ax))=false/\(m.ah.toList==([111,112,116,103,114,111,117,112]:List ax))=false):=by
  by_cases q0:m.ah.toList=([98,117,116,116,111,110]:List ax)
  ·refine .inl ?_;rw[q0];decide
  by_cases q1:m.ah.toList=([111,112,116,105,111,110]:List ax)
  ·refine .inr ?_;refine .inl ?_;rw[q1];decide
  by_cases q2:m.ah.toList=([111,112,116,103,114,111,117,112]:List ax)
  ·refine .inr ?_;refine .inr ?_;refine .inl ?_;rw[q2];decide
  refine .inr ?_;refine .inr ?_;refine .inr ?_;exact⟨aV.2 q0,aV.2 q1,aV.2 q2⟩
 rcases hsp with⟨p0,p1,p2⟩|⟨p0,p1,p2⟩|⟨p0,p1,p2⟩|⟨p0,p1,p2⟩
 all_goals
  go_enter func164,ntmps164
  go_wp2_with ((first
   |(go_at_call 113;refine' tB (uH ?h ?_) ?_)
   |(go_at_call 117;refine' (xH ?h _).mono ?_)
   |(go_at_call 114;refine' (zn ?h ?_).mono ?_)
   |(go_at_call 110;refine' tB (WG ?h ?_) ?_)
   |(go_at_call 56;refine' (vS ?h).mono ?_)
   |(go_at_call 107;refine' (uC ?h ?_).mono ?_));((case h=>with_reducible first|exact H.o'|exact H.o'.fP _ (by decide));any_goals first|(rintro e w1 ⟨rfl,h1⟩;(try simp only[bN,strOf,dX,fK,aC.gZ]at h1);clear c1 c2 d1 d2;replace H:=hd' h1;clear h1;obtain⟨-,c1,c2, -, -⟩:=H.o'.sx.mc;obtain⟨-,d1,d2, -, -, -, -, -, -, -, -⟩:=H.o'.sx.bc)|(intro t ht w1 h1;(try simp only[bN,strOf,dX,fK,aC.gZ]at ht h1);cases t <;>((try simp only[ht,reduceIte,gQ]at h1);clear c1 c2 d1 d2;replace H:=hd' h1;clear h1;obtain⟨-,c1,c2, -, -⟩:=H.o'.sx.mc;obtain⟨-,d1,d2, -, -, -, -, -, -, -, -⟩:=H.o'.sx.bc))|exact⟨by(with_reducible rfl),by rfl,by rfl,by(decide)⟩|omega))
  all_goals try (
   (first|go_end0|refine bU (oH rfl _ _ _) rfl ?_)
   have hv:=aC.phrases.eq_1 b m;simp only[*,bools,dY,dM,reduceIte,iL,Int.reduceBEq]at hv;rw[hv];refine⟨by first|rfl|(rw[ht];rfl),?_⟩
   exact SM.more (by first|(with_reducible first|exact H.o'|exact H.o'.aD _|exact H.o'.skip _|exact H.o'.head _|exact(H.o'.aD _).mV _|exact(H.o'.iJ _)|exact H.o'.drew.iJ _|exact(H.o'.iJ _).drew|exact H.o'.aL _ (by assumption)|exact(H.o'.aL _ (by assumption)).aD _|exact(H.o'.aD _).head _|exact(H.o'.head _))|exact H.o'|exact H.o'.aD _|exact H.o'.skip _) (by omega) (by omega))
  all_goals
   have HI:=hd' (kX H.o'.drew m.ah H.o'.sx.mo.Cf rfl)
   go_region_law (first
    |(go_simp;go_at_call 102;refine HI.o'.mono ?_
      rintro e w2 ⟨rfl,h1⟩
      (clear c1 c2 d1 d2;replace H:=hd' h1;clear h1;obtain⟨-,c1,c2, -, -⟩:=H.o'.sx.mc;obtain⟨-,d1,d2, -, -, -, -, -, -, -, -⟩:=H.o'.sx.bc)))
   all_goals
    clear HI
    try simp only[Act.put,jA,jC,jB,dV,dF,dK]
    go_wp2_with ((first
   |(go_at_call 150;refine' tB (Yt ?h ?_) ?_)
   |(go_at_call 112;refine' (Gx ?h ?_).mono ?_));((case h=>with_reducible first|exact H.o'|exact H.o'.fP _ (by decide));any_goals first|(rintro e w1 ⟨rfl,h1⟩;(try simp only[bN,strOf,dX,fK,aC.gZ]at h1);clear c1 c2 d1 d2;replace H:=hd' h1;clear h1;obtain⟨-,c1,c2, -, -⟩:=H.o'.sx.mc;obtain⟨-,d1,d2, -, -, -, -, -, -, -, -⟩:=H.o'.sx.bc)|(intro t ht w1 h1;(try simp only[bN,strOf,dX,fK,aC.gZ]at ht h1);cases t <;>((try simp only[ht,reduceIte,gQ]at h1);clear c1 c2 d1 d2;replace H:=hd' h1;clear h1;obtain⟨-,c1,c2, -, -⟩:=H.o'.sx.mc;obtain⟨-,d1,d2, -, -, -, -, -, -, -, -⟩:=H.o'.sx.bc))|exact⟨by(with_reducible rfl),by rfl,by rfl,by(decide)⟩|omega))
   all_goals
    ((go_end0))
    have hv:=aC.phrases.eq_1 b m;simp only[*,bools,dY,dM,reduceIte,iL,Int.reduceBEq]at hv;rw[hv];refine⟨by(rfl),?_⟩;exact SM.more (by first|(with_reducible first|exact H.o'|exact(H.o'.head _))|exact H.o'.skip _) (by omega) (by omega)
end
end
section
section
variable {E:BE} {ws w w':af} {c:Nat} {s:Int} {b b':aC} {m m':aO}
theorem adb (h:SM E ws c s b m w) (hc:c<=100000):Calls prog 157 #[.pointer (some ⟨E.bb,0,none⟩),.pointer (some ⟨E.mb,0,none⟩)] w λr w'=>r= .returned (.tuple #[])/\SM E ws c s (b.blocks m) m w':=by
 have H:=hd' h;obtain⟨-,c1,c2, -, -⟩:=H.o'.sx.mc;obtain⟨-,d1, -,d3, -, -, -,d7, -, -, -⟩:=H.o'.sx.bc;have f3:=H.o'.sx.bf 3 (by omega);have f7:=H.o'.sx.bf 7 (by omega);have hne: ¬E.mb=E.bb:=λe=>H.o'.sx.mo.ne e.symm
 have hne2: ¬E.bb=E.mb:=H.o'.sx.mo.ne;clear h
 have hsp:((m.ah.toList==([108,105]:List ax))=true/\(m.ah.toList==([100,100]:List ax))=false/\(m.ah.toList==([100,116]:List ax))=false/\(m.ah.toList==([104,114]:List ax))=false/\(m.ah.toList==([112,114,101]:List ax))=false/\(m.ah.toList==([108,105,115,116,105,110,103]:List ax))=false/\(m.ah.toList==([116,97,98,108,101]:List ax))=false)\/((m.ah.toList==([108,105]:List ax))=false/\(m.ah.toList==([100,100]:List ax))=true/\(m.ah.toList==([100,116]:List ax))=false/\(m.ah.toList==([104,114]:List ax))=false/\(m.ah.toList==([112,114,101]:List ax))=false/\(m.ah.toList==([108,105,115,116,105,110,103]:List ax))=false/\(m.ah.toList==([116,97,98,108,101]:List ax))=false)\/((m.ah.toList==([108,105]:List ax))=false/\(m.ah.toList==([100,100]:List ax))=false/\(m.ah.toList==([100,116]:List ax))=true/\(m.ah.toList==([104,114]:List ax))=false/\(m.ah.toList==([112,114,101]:List ax))=false/\(m.ah.toList==([108,105,115,116,105,110,103]:List ax))=false/\(m.ah.toList==([116,97,98,108,101]:List ax))=false)\/((m.ah.toList==([108,105]:List ax))=false/\(m.ah.toList==([100,100]:List ax))=false/\(m.ah.toList==([100,116]:List ax))=false/\(m.ah.toList==([104,114]:List ax))=true/\(m.ah.toList==([112,114,101]:List ax))=false/\(m.ah.toList==([108,105,115,116,105,110,103]:List ax))=false/\(m.ah.toList==([116,97,98,108,101]:List ax))=false)\/((m.ah.toList==([108,105]:List ax))=false/\(m.ah.toList==([100,100]:List ax))=false/\(m.ah.toList==([100,116]:List ax))=false/\(m.ah.toList==([104,114]:List ax))=false/\(m.ah.toList==([112,114,101]:List ax))=true/\(m.ah.toList==([108,105,115,116,105,110,103]:List ax))=false/\(m.ah.toList==([116,97,98,108,101]:List ax))=false)\/((m.ah.toList==([108,105]:List ax))=false/\(m.ah.toList==([100,100]:List ax))=false/\(m.ah.toList==([100,116]:List ax))=false/\(m.ah.toList==([104,114]:List ax))=false/\(m.ah.toList==([112,114,101]:List ax))=false/\(m.ah.toList==([108,105,115,116,105,110,103]:List ax))=true/\(m.ah.toList==([116,97,98,108,101]:List ax))=false)\/((m.ah.toList==([108,105]:List ax))=false/\(m.ah.toList==([100,100]:List ax))=false/\(m.ah.toList==([100,116]:List ax))=false/\(m.ah.toList==([104,114]:List ax))=false/\(m.ah.toList==([112,114,101]:List ax))=false/\(m.ah.toList==([108,105,115,116,105,110,103]:List ax))=false/\(m.ah.toList==([116,97,98,108,101]:List ax))=true)\/((m.ah.toList==([108,105]:List ax))=false/\(m.ah.toList==([100,100]:List ax))=false/\(m.ah.toList==([100,116]:List ax))=false/\(m.ah.toList==([104,114]:List ax))=false/\(m.ah.toList==([112,114,101]:List ax))=false/\(m.ah.toList==([108,105,115,116,105,110,103]:List ax))=false/\(m.ah.toList==([116,97,98,108,101]:List ax))=false):=by
  by_cases q0:m.ah.toList=([108,105]:List ax)
  ·refine .inl ?_;rw[q0];decide
  by_cases q1:m.ah.toList=([100,100]:List ax)
  ·refine .inr ?_;refine .inl ?_;rw[q1];decide
  by_cases q2:m.ah.toList=([100,116]:List ax)
  ·refine .inr ?_;refine .inr ?_;refine .inl ?_;rw[q2];decide
  by_cases q3:m.ah.toList=([104,114]:List ax)
  ·refine .inr ?_;refine .inr ?_;refine .inr ?_;refine .inl ?_;rw[q3];decide
  by_cases q4:m.ah.toList=([112,114,101]:List ax)
  ·refine .inr ?_;refine .inr ?_;refine .inr ?_;refine .inr ?_;refine .inl ?_;rw[q4];decide
  by_cases q5:m.ah.toList=([108,105,115,116,105,110,103]:List ax)
  ·refine .inr ?_;refine .inr ?_;refine .inr ?_;refine .inr ?_;refine .inr ?_;refine .inl ?_;rw[q5];decide
  by_cases q6:m.ah.toList=([116,97,98,108,101]:List ax)
  ·refine .inr ?_;refine .inr ?_;refine .inr ?_;refine .inr ?_;refine .inr ?_;refine .inr ?_;refine .inl ?_;rw[q6];decide
  refine .inr ?_;refine .inr ?_;refine .inr ?_;refine .inr ?_;refine .inr ?_;refine .inr ?_;refine .inr ?_;exact⟨aV.2 q0,aV.2 q1,aV.2 q2,aV.2 q3,aV.2 q4,aV.2 q5,aV.2 q6⟩
 rcases hsp with⟨p0,p1,p2,p3,p4,p5,p6⟩|⟨p0,p1,p2,p3,p4,p5,p6⟩|⟨p0,p1,p2,p3,p4,p5,p6⟩|⟨p0,p1,p2,p3,p4,p5,p6⟩|⟨p0,p1,p2,p3,p4,p5,p6⟩|⟨p0,p1,p2,p3,p4,p5,p6⟩|⟨p0,p1,p2,p3,p4,p5,p6⟩|⟨p0,p1,p2,p3,p4,p5,p6⟩
 all_goals
  go_enter func157,ntmps157
  go_wp2_with ((first
   |(go_at_call 198;refine' (aie ?h ?_).mono ?_)
   |(go_at_call 165;refine' (Ap ?h).mono ?_)
   |(go_at_call 156;refine' tB (Ff ?h _) ?_)
   |(go_at_call 110;refine' tB (WG ?h ?_) ?_)
   |(go_at_call 56;refine' (vS ?h).mono ?_)
   |(go_at_call 119;(with_reducible refine' (Al ?h _ ?n ?r).mono ?_)));((case h=>with_reducible first|exact H.o'|exact H.o'.fP _ (by decide));(try case n=>(decide));(try case r=>rfl);any_goals first|(rintro e w1 ⟨rfl,h1⟩;(try simp only[bN,strOf,dX,fK,aC.gZ]at h1);clear c1 c2 d1 d3 f3 d7 f7;replace H:=hd' h1;clear h1;obtain⟨-,c1,c2, -, -⟩:=H.o'.sx.mc;obtain⟨-,d1, -,d3, -, -, -,d7, -, -, -⟩:=H.o'.sx.bc;have f3:=H.o'.sx.bf 3 (by omega);have f7:=H.o'.sx.bf 7 (by omega))|(intro t ht w1 h1;(try simp only[bN,strOf,dX,fK,aC.gZ]at ht h1);cases t <;>((try simp only[ht,reduceIte,gQ]at h1);clear c1 c2 d1 d3 f3 d7 f7;replace H:=hd' h1;clear h1;obtain⟨-,c1,c2, -, -⟩:=H.o'.sx.mc;obtain⟨-,d1, -,d3, -, -, -,d7, -, -, -⟩:=H.o'.sx.bc;have f3:=H.o'.sx.bf 3 (by omega);have f7:=H.o'.sx.bf 7 (by omega)))|exact⟨by(with_reducible rfl),by rfl,by rfl,by(decide)⟩|fail))
  all_goals try (
   ((refine bU (oH rfl _ _ _) rfl ?_))
   have hv:=aC.blocks.eq_1 b m;simp only[*,kN,bools,dY,dM,reduceIte,iL,Int.reduceBEq]at hv;rw[hv];refine⟨by(rfl),?_⟩
   exact SM.more (by first|(with_reducible first|exact H.o'|exact(H.o'.head _))|exact H.o'.skip _) (by omega) (by omega))
  all_goals
   have HI:=hd' (kX H.o'.drew m.ah H.o'.sx.mo.Cf rfl)
   go_region_law (first
    |(go_simp;go_at_call 102;refine HI.o'.mono ?_
      rintro e w2 ⟨rfl,h1⟩
      (clear c1 c2 d1 d3 f3 d7 f7;replace H:=hd' h1;clear h1;obtain⟨-,c1,c2, -, -⟩:=H.o'.sx.mc;obtain⟨-,d1, -,d3, -, -, -,d7, -, -, -⟩:=H.o'.sx.bc;have f3:=H.o'.sx.bf 3 (by omega);have f7:=H.o'.sx.bf 7 (by omega))))
   all_goals
    clear HI
    try simp only[Act.put,jA,jC,jB,dV,dF,dK]
    go_wp2_with fail
   all_goals
    ((go_end0))
    have hv:=aC.blocks.eq_1 b m;simp only[*,kN,bools,dY,dM,reduceIte,iL,Int.reduceBEq]at hv;rw[hv];refine⟨by(rfl),?_⟩;exact SM.more (by first|(with_reducible first|exact H.o'|exact H.o'.aD _|exact(H.o'.head _))|exact H.o'.skip _) (by omega) (by omega)
end
end
section
section
variable {E:BE} {ws w w':af} {c:Nat} {s:Int} {b b':aC} {m m':aO}
theorem M7: ∀(l:List ae) (ah:ae),(∀x∈l,x.size<=maxLen)->ah.size<=maxLen->(large l ah).size<=maxLen
 | [],_,_,h=>h
 |x::r,ah,hl,h=>by
  rw[large];split
  ·exact hl x (.head _)
  ·exact M7 r ah (λy hy=>hl y (.tail _ hy)) h
theorem aea:(LQ.all λx=>decide (x.size<=maxLen))=true:=by kernel_rfl
theorem YA (sp:Int) {ah:ae} (h:ah.size<=maxLen):(oq sp ah).size<=maxLen:=by
 unfold oq;split
 ·exact M7 _ _ (λx hx=>by simpa using qF.1 aea x hx) h
 ·exact h
theorem Ta (sp:Int) {l:List dD} (h: ∀p∈l,NZ p): ∀p∈jb sp l,NZ p:=λp hp=>by
 unfold jb at hp;obtain⟨q,hq,rfl⟩:=Ip.1 hp;exact h q hq
theorem NU (h:SM E ws c s b m w) (sp:Int):Calls prog 57 #[.pointer (some ⟨E.bb,0,none⟩),.pointer (some ⟨E.mb,0,none⟩),.int .i64 sp] w λr w'=>r= .returned (.tuple #[])/\SM E ws c s (b.uk m sp) m w':=by
 have HK:Hid (Ok c s (b.uk m sp)):=hd' (by
  have h1:=(h.ok.jv sp (oq sp m.ah) ⟨YA sp h.sx.mo.Cf,Ta sp h.sx.mo.ash⟩).more (ay _) (show s-1<=s by omega);unfold aC.uk;simp only;split
  ·exact h1.pop
  ·exact h1)
 have HV:Hid (b.uk m sp=if m.self then(aC.keep {b with S:=⟨(aU b.S.T b.S.l b.on sp (oq sp m.ah) (jb sp m.aA)).1,(aU b.S.T b.S.l b.on sp (oq sp m.ah) (jb sp m.aA)).2.1,b.S.aF⟩} (aU b.S.T b.S.l b.on sp (oq sp m.ah) (jb sp m.aA)).2.2.2).pop else aC.keep {b with S:=⟨(aU b.S.T b.S.l b.on sp (oq sp m.ah) (jb sp m.aA)).1,(aU b.S.T b.S.l b.on sp (oq sp m.ah) (jb sp m.aA)).2.1,b.S.aF⟩} (aU b.S.T b.S.l b.on sp (oq sp m.ah) (jb sp m.aA)).2.2.2):=hd' rfl;have hll:=h.ok.len.1;have hal:(jb sp m.aA).length=m.aA.length:=by unfold jb;rw[Ir]
 have HI:Hid (∀u,SX E ws b m u-> ∀(va:Option Addr) (vc:Nat),(va=none->vc=0)->At u va (bz (jb sp m.aA))->Calls prog 94 #[.pointer (some ⟨E.lb,0,none⟩),.int .i64 sp,.string (oq sp m.ah),.slice va m.aA.length vc] u λr w'=>r= .returned (.tuple #[.int .i64 (aU b.S.T b.S.l b.on sp (oq sp m.ah) (jb sp m.aA)).2.2.1,.int .i64 (aU b.S.T b.S.l b.on sp (oq sp m.ah) (jb sp m.aA)).2.2.2])/\SX E ws {b with S:=⟨(aU b.S.T b.S.l b.on sp (oq sp m.ah) (jb sp m.aA)).1,(aU b.S.T b.S.l b.on sp (oq sp m.ah) (jb sp m.aA)).2.1,b.S.aF⟩} m w'):=hd' λu hu va vc hv ha =>
  (JG hu.bm.li (by omega) sp (oq sp m.ah) (jb sp m.aA) m.aA.length va vc hal.symm hv (by rw[hal];exact hu.mo.Tf) ha).mono λ_ _ ⟨hr,hl,hk⟩=>⟨hr,hu.call (b':= {b with S:=⟨(aU b.S.T b.S.l b.on sp (oq sp m.ah) (jb sp m.aA)).1,(aU b.S.T b.S.l b.on sp (oq sp m.ah) (jb sp m.aA)).2.1,b.S.aF⟩}) hl hk rfl⟩
 have HNm:Hid (∀u,Calls prog 95 #[.int .i64 sp,.string m.ah] u λe w'=>e= .returned (.string (oq sp m.ah))/\Below u.heap.size u w'):=hd' λu=>ae0 sp m.ah u
 have Tz:Hid (∀u,SX E ws b m u->Calls prog 96 #[.int .i64 sp,.slice E.a m.aA.length E.ac] u λe w'=> ∃va vc,e= .returned (.slice va m.aA.length vc)/\(va=none->vc=0)/\At w' va (bz (jb sp m.aA))/\Below u.heap.size u w'):=hd' λu hu =>
  (adl sp m.aA E.a E.ac u (by have:=hu.mo.Tf;omega) hu.at).mono λ_ _ ⟨v,hr,ho,hb⟩=>by
    obtain⟨va,vc,rfl,_,_,hn,hat⟩:=fJ ho;exact⟨va,vc,hr,hn,hat,hb⟩
 obtain⟨-,c1,c2,c3, -⟩:=h.sx.mc;obtain⟨-, -,d2, -⟩:=h.sx.bc;have H:=hd' h.sx.mo.ne;have HS:=hd' (h.sx.world (aQ w.heap.size w).drew);clear h hll hal;generalize aU b.S.T b.S.l b.on sp (oq sp m.ah) (jb sp m.aA)=q at *;obtain⟨U,l2,x,er⟩:=q;dsimp only at HI HV;generalize oq sp m.ah=nm at *;generalize jb sp m.aA=ats at *;go_enter func57,ntmps57
 go_wp2_with fail
 go_region_law (first
  |(go_simp;go_at_call 95;refine(HNm.o' _).mono ?_
    rintro e w2 ⟨rfl,hb⟩;replace HS:=hd' (HS.o'.world hb)
    try replace HA:=hd' (HA.o'.below hb)
    clear hb c1 c2 c3 d2;obtain⟨-,c1,c2,c3, -⟩:=HS.o'.mc
    obtain⟨-, -,d2, -⟩:=HS.o'.bc)
  |(go_simp;go_at_call 96;refine(Tz.o' _ HS.o').mono ?_
    rintro e w3 ⟨va,vc,rfl,hn,hat,hb⟩;replace HS:=hd' (HS.o'.world hb);have HA:=hd' hat;have HN:=hd' hn;clear hn hat hb c1 c2 c3 d2;obtain⟨-,c1,c2,c3, -⟩:=HS.o'.mc
    obtain⟨-, -,d2, -⟩:=HS.o'.bc)
  |(go_simp;go_at_call 94;refine(HI.o' _ HS.o' _ _ HN.o' HA.o').mono ?_
    rintro e w4 ⟨rfl,h4⟩;have H4:=hd' h4
    clear h4))
 all_goals
  try simp only[Act.put,jA,jC,jB,dV,dF,dK]
  clear c1 c2 c3 d2;obtain⟨-, -, -,c3, -⟩:=H4.o'.mc;obtain⟨-,d1, -⟩:=H4.o'.bc;have HMS:Hid (m.self=m.self):=hd' rfl;generalize hsf:m.self=sf at c3 HV HMS;by_cases he:er=0
  ·subst he;rw[aC.wR]at HV;cases sf
   ·go_wp2_with fail
    go_end0
    refine⟨rfl,?_,HK.o'⟩;rw[HV.o'];exact H4.o'
   ·go_wp2_with (go_at_call 56;refine(Rz H4.o').mono ?_;rintro e w5 ⟨rfl,h5⟩;have H5:=hd' h5;clear h5)
    go_end0
    refine⟨rfl,?_,HK.o'⟩;rw[HV.o'];exact H5.o'
  ·have he':(er !=0)=true:=by simpa using he
   have HF:=hd' (GK H4.o' er);have HVF:Hid (aC.keep {b with S:=⟨U,l2,b.S.aF⟩} er=aC.fail {b with S:=⟨U,l2,b.S.aF⟩} er):=hd' (by rw[aC.keep,aj he]);rw[HVF.o']at HV;clear he HVF;cases sf
   ·go_wp2_with (go_at_call 26;refine HF.o'.mono ?_;rintro e w5 ⟨rfl,h5⟩;obtain⟨-, -, -,g3, -⟩:=h5.mc;rw[hsf]at g3;have H5:=hd' h5;clear h5)
    go_end0
    refine⟨rfl,?_,HK.o'⟩;rw[HV.o'];exact H5.o'
   ·go_wp2_with (first
     |(go_at_call 26;refine HF.o'.mono ?_;rintro e w5 ⟨rfl,h5⟩;obtain⟨-, -, -,g3, -⟩:=h5.mc;rw[hsf]at g3;obtain⟨-,g1, -⟩:=h5.bc;have H5:=hd' h5;clear h5)
     |(go_at_call 56;refine(Rz H5.o').mono ?_;rintro e w6 ⟨rfl,h6⟩;have H6:=hd' h6;clear h6))
    go_end0
    refine⟨rfl,?_,HK.o'⟩;rw[HV.o'];exact H6.o'
end
end
section
section
variable {E:BE} {ws w w':af} {c:Nat} {s:Int} {b b':aC} {m m':aO}
theorem ac1 (h:SM E ws c s b m w) (hc:c<=100000):Calls prog 109 #[.pointer (some ⟨E.bb,0,none⟩),.pointer (some ⟨E.mb,0,none⟩)] w λr w'=>r= .returned (.bool (b.closes m).2)/\SM E ws c s (b.closes m).1 m w':=by
 have H:=hd' h;obtain⟨-,c1, -, -, -⟩:=H.o'.sx.mc;obtain⟨-,d1,d2,d3, -, -, -, -, -, -,d10⟩:=H.o'.sx.bc;have f3:=H.o'.sx.bf 3 (by omega);have hne: ¬E.mb=E.bb:=λe=>H.o'.sx.mo.ne e.symm
 have hne2: ¬E.bb=E.mb:=H.o'.sx.mo.ne;clear h;go_enter func109,ntmps109
 go_wp2_with ((first
  |(go_at_call 150;refine' tB (Yt ?h ?_) ?_)
  |(go_at_call 113;refine' tB (uH ?h ?_) ?_)
  |(go_at_call 102;(with_reducible refine' (rT ?h _ ?n).mono ?_))
  |(go_at_call 165;refine' (Ap ?h).mono ?_)
  |(go_at_call 155;refine' tB (Wu ?h _) ?_)
  |(go_at_call 166;refine' tB (aaZ ?h ?_) ?_)
  |(go_at_call 156;refine' tB (Ff ?h _) ?_)
  |(go_at_call 162;refine' tB (Qb ?h _) ?_)
  |(go_at_call 159;refine' tB (WM ?h ?_ _) ?_)
  |(go_at_call 167;refine' (aeL ?h _).mono ?_)
  |(go_at_call 118;refine' (I7 ?h).mono ?_)
  |(go_at_call 107;refine' (uC ?h ?_).mono ?_)
  |(go_at_call 119;(with_reducible refine' (X3 ?h _ ?n).mono ?_)));((case h=>with_reducible first|exact H.o'|exact H.o'.fP _ (by decide));(try case n=>(decide));(try case r=>rfl);any_goals first|(rintro e w1 ⟨rfl,h1⟩;(try simp only[bN,strOf,dX,fK,aC.gZ]at h1);clear c1 d1 d2 d3 f3 d10;replace H:=hd' h1;clear h1;obtain⟨-,c1, -, -, -⟩:=H.o'.sx.mc;obtain⟨-,d1,d2,d3, -, -, -, -, -, -,d10⟩:=H.o'.sx.bc;have f3:=H.o'.sx.bf 3 (by omega))|(intro t ht w1 h1;(try simp only[bN,strOf,dX,fK,aC.gZ]at ht h1);cases t <;>((try simp only[ht,reduceIte,gQ]at h1);clear c1 d1 d2 d3 f3 d10;replace H:=hd' h1;clear h1;obtain⟨-,c1, -, -, -⟩:=H.o'.sx.mc;obtain⟨-,d1,d2,d3, -, -, -, -, -, -,d10⟩:=H.o'.sx.bc;have f3:=H.o'.sx.bf 3 (by omega)))|exact⟨by(with_reducible rfl),by rfl,by rfl,by first|decide|simp[ed]⟩|omega))
 all_goals try (first|exact clash (x:=m.ah.toList) (l:=([97]:List ax)) (by assumption) (by assumption)|exact clash (x:=m.ah.toList) (l:=([110,111,98,114]:List ax)) (by assumption) (by assumption))
 all_goals try (
  try have e0:((b.ow m.ah).dJ==0)=true:=cO.2 (by assumption)
  try have e0:((b.ow m.ah).dJ==0)=false:=aV.2 (by assumption)
  ((go_ret))
  have hv:=aC.closes.eq_1 b m;simp only[*,aC.gZ,kN,bools,dY,dM,reduceIte,iL,Int.reduceBEq]at hv;rw[hv];refine⟨by(rfl),?_⟩
  exact SM.more (by first|(with_reducible first|exact H.o'|exact H.o'.aD _|exact(H.o'.head _))|exact H.o'.skip _) (by omega) (by omega))
 case _ =>
  have HE:Hid (Calls prog 166 #[.pointer (some ⟨E.bb,0,none⟩),.int .i64 0,.string m.ah,.slice (some ⟨w1.heap.size,0,none⟩) 1 1] (w1.alloc (.cells #[.string m.ah] 9)).drew λr w'=>r= .returned (.bool (b.has 0 [m.ah]))/\SM E ws c s (b.gZ 0 m.ah [m.ah]) m w'):=hd' (by
   have h0:=aaZ (scope:=0) (but:=m.ah) (di:= #[.string m.ah]) (e:=9) (n:=1) (ca:=1) H.o'.drew ⟨rfl,by rfl,by rfl,by simp[ed]⟩
   exact h0)
  have g1:(w1.alloc (.cells #[.string m.ah] 9)).cell? ⟨E.mb,1,none⟩=some (.string m.ah):=(H.o'.alloc _).sx.mc.2.1
  go_region_law (first
   |(go_simp;go_at_call 166;refine HE.o'.mono ?_
     rintro e w2 ⟨rfl,h1⟩
     (replace H:=hd' h1;clear h1)))
  all_goals
   try simp only[Act.put,jA,jC,jB,dV,dF,dK]
   go_wp2_with fail
   ((go_ret))
   have hv:=aC.closes.eq_1 b m;simp only[*,kN,bools,dY,dM,reduceIte,iL,Int.reduceBEq]at hv;rw[hv];refine⟨by(rfl),?_⟩;exact SM.more (by first|(with_reducible first|exact H.o'|exact(H.o'.head _))|exact H.o'.skip _) (by omega) (by omega)
end
end
section
section
variable {P:Program} {w:af}
def M3 (w:af) (r:Nat) (es:Array MapEntry) (clock:Nat):af:= {w with heap:=w.heap.setIfInBounds r (.map es clock)}
theorem aaA {r:Nat} (h:r<w.heap.size) (es:Array MapEntry) (clock:Nat):(M3 w r es clock).heap[r]?=some (.map es clock):=by simp[M3,h]
theorem M0 {r:Nat} {w0:af} {B:Nat} (h:Below B w0 w) (hr:B<=r) (es:Array MapEntry) (clock:Nat):Below B w0 (M3 w r es clock):=by
 refine⟨h.os,h.tape,h.output,?_,λk hk=> ?_⟩
 ·have:=h.size;simpa[M3] using this
 ·rw[<-h.block k hk];have hne:r≠k:=by omega
  simp[M3,hne]
theorem acA {T kt et:TypeId} {r clock:Nat} (s:ae) (val:ak) (hm:P.underlying T=some (.map kt et)) (hk:P.underlying kt=some .string) (hb:w.heap[r]?=some (.map #[] clock)) :
 (Instr.mapUpdate T (.map (some r)) (.string s) val).run P w= .ok () (M3 w r #[{key:= .string s,val:=val,born:=clock}] (clock+1)):=run_mapUpdate_first w T kt et r clock s val hm hk hb
theorem afa {T kt et:TypeId} {r clock:Nat} {s1:ae} {v1:ak} {b1:Nat} (s:ae) (val:ak) (hm:P.underlying T=some (.map kt et)) (hk:P.underlying kt=some .string) (hne:(s==s1)=false) (hb:w.heap[r]?=some (.map #[{key:= .string s1,val:=v1,born:=b1}] clock)) :
 (Instr.mapUpdate T (.map (some r)) (.string s) val).run P w= .ok () (M3 w r #[{key:= .string s1,val:=v1,born:=b1},{key:= .string s,val:=val,born:=clock}] (clock+1)):=by
 have hf:Instr.findNow .string (.string s) [({key:= .string s1,val:=v1,born:=b1}:MapEntry)] 0=some none:=by simp[Instr.findNow,Instr.sameNow,hne]
 have hc:(Instr.checkKey false 10000 kt (.string s)).run P w= .ok () w:=MapKept.run_checkKey (k:= .string s) hk (by simp[MapKept.IsKey]) false 9999;simp[Instr.mapUpdate,run_underlying hm,MapKept.run_getObj_map hb,hc,MapKept.run_findKey hk hf,MapKept.run_setObj_map _ hb,Result.andThen,M3]
theorem aaz {T kt et:TypeId} {r clock:Nat} {s1 s2:ae} {v1 v2 v:ak} {b1 b2 i:Nat} (s:ae) (hm:P.underlying T=some (.map kt et)) (hk:P.underlying kt=some .string) (hb:w.heap[r]?=some (.map #[{key:= .string s1,val:=v1,born:=b1},{key:= .string s2,val:=v2,born:=b2}] clock))
 (hf:Instr.findNow .string (.string s) [({key:= .string s1,val:=v1,born:=b1}:MapEntry),{key:= .string s2,val:=v2,born:=b2}] 0=some (some (i,v))) :
 (Instr.lookup T (.map (some r)) (.string s) false).run P w= .ok v w:=by
 have hc:(Instr.checkKey false 10000 kt (.string s)).run P w= .ok () w:=MapKept.run_checkKey (k:= .string s) hk (by simp[MapKept.IsKey]) false 9999;simp[Instr.lookup,run_underlying hm,MapKept.run_getObj_map hb,hc,MapKept.run_findKey hk hf,Result.andThen]
end
end
end Go.Proofs.YtnlbcifhedjbfaaGreatDoor
