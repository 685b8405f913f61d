/- oZ joined for a claim: CuQ, CuS, awW, awV, awU, awT, awS, awR, CuU, CuV, awL: plain laws and contracts. No conditions beyond those that each lemma types. -/
import Derived.Test.YtnlbcifhedjbfaaGreatDoorU13
import Derived.Test.YtnlbcifhedjbfaaGreatDoorU07
set_option linter.unusedVariables false
set_option linter.unusedSimpArgs false
set_option maxRecDepth 100000
set_option maxHeartbeats 8000000
open Go.Proofs.Tryz
namespace Go.Proofs.YtnlbcifhedjbfaaGreatDoor
open Go.RowKit Mem
section
section
variable {E:BE} {ws w w':af} {c:Nat} {s:Int} {b b':aC} {m m':aO}
theorem aeM (h:SM E ws c s b m w) (hc:c<=100000):Calls prog 108 #[.pointer (some ⟨E.bb,0,none⟩),.pointer (some ⟨E.mb,0,none⟩)] w λr w'=>r= .returned (.tuple #[])/\SM E ws (c+1) s (b.opens m).1 (b.opens m).2 w':=by
 have H:=hd' h;obtain⟨-,c1,c2, -, -⟩:=H.o'.sx.mc;obtain⟨-,d1,d2, -, -, -, -, -, -, -, -⟩:=H.o'.sx.bc;have q1:=H.o'.sx.mf.1;have hne: ¬E.mb=E.bb:=λe=>H.o'.sx.mo.ne e.symm
 have hne2: ¬E.bb=E.mb:=H.o'.sx.mo.ne;clear h;have hmm:= @run_makeMap prog;go_enter func108,ntmps108
 go_wp2_with (first
  |((first
   |(go_at_call 150;refine' tB (Yt ?h ?_) ?_)
   |(go_at_call 104;refine' tB (GI ?h) ?_)
   |(go_at_call 155;refine' tB (Wu ?h _) ?_)
   |(go_at_call 156;refine' tB (Ff ?h _) ?_)
   |(go_at_call 157;refine' (adb ?h ?_).mono ?_)
   |(go_at_call 161;refine' (af4 ?h ?_).mono ?_)
   |(go_at_call 162;refine' tB (Qb ?h _) ?_)
   |(go_at_call 107;refine' (uC ?h ?_).mono ?_)
   |(go_at_call 113;refine' tB (uH ?h ?_) ?_)
   |(go_at_call 163;refine' (TM ?h ?_).mono ?_)
   |(go_at_call 164;refine' (Yk ?h ?_).mono ?_)
   |(go_at_call 160;refine' (YJ ?h _).mono ?_)
   |(go_at_call 106;refine' (XX ?h _).mono ?_)
   |(go_at_call 159;refine' (WM ?h ?_ _).mono ?_));((case h=>with_reducible first|exact H.o'|exact H.o'.fP _ (by decide));any_goals first|(rintro e w1 ⟨rfl,h1⟩;(try simp only[bN,strOf,dX,fK,aC.gZ]at h1);clear c1 c2 d1 d2 q1;replace H:=hd' h1;clear h1;obtain⟨-,c1,c2, -, -⟩:=H.o'.sx.mc;obtain⟨-,d1,d2, -, -, -, -, -, -, -, -⟩:=H.o'.sx.bc;have q1:=H.o'.sx.mf.1)|(intro t ht w1 h1;(try simp only[bN,strOf,dX,fK,aC.gZ]at ht h1);cases t <;>((try simp only[ht,reduceIte,gQ]at h1);clear c1 c2 d1 d2 q1;replace H:=hd' h1;clear h1;obtain⟨-,c1,c2, -, -⟩:=H.o'.sx.mc;obtain⟨-,d1,d2, -, -, -, -, -, -, -, -⟩:=H.o'.sx.bc;have q1:=H.o'.sx.mf.1))|exact⟨by(with_reducible rfl),by rfl,by rfl,by(decide)⟩|omega))
  |(go_at_call 158;(refine(aiB (by with_reducible first|exact H.o'|exact H.o'.fP _ (by decide)) _).mono ?_;rintro e w1 ⟨rfl,h1⟩;generalize ht:aC.find _ _=n0;clear c1 c2 d1 d2 q1;replace H:=hd' h1;clear h1;obtain⟨-,c1,c2, -, -⟩:=H.o'.sx.mc;obtain⟨-,d1,d2, -, -, -, -, -, -, -, -⟩:=H.o'.sx.bc;have q1:=H.o'.sx.mf.1;rcases Decidable.em (n0=0)with hn0|hn0 <;>(first|subst hn0|(have hn1:(n0 !=0)=true:=jJ.2 hn0)))))
 all_goals try (
  ((go_end0))
  have hv:=aC.opens.eq_1 b m;simp only[*,bools,dY,dM,reduceIte,iL,Int.reduceBEq]at hv;rw[hv];refine⟨by(rfl),?_⟩
  exact SM.more (by first|(with_reducible first|exact H.o'|exact(H.o'.head _))|exact H.o'.skip _) (by omega) (by omega))
 all_goals try (
  go_region_law (first
   |(go_simp;go_at_call 119;(first|with_reducible refine(Al H.o'.drew _ H.o'.sx.mo.Cf (by rfl)).mono ?_|with_reducible refine(Al (H.o'.fP _ (by decide)).drew _ (by decide) (by rfl)).mono ?_)
     rintro e w2 ⟨rfl,h1⟩
     (replace H:=hd' h1;clear h1)))
  all_goals
   try simp only[Act.put,jA,jC,jB,dV,dF,dK]
   go_wp2_with fail
   ((go_end0))
   have hv:=aC.opens.eq_1 b m;simp only[*,bools,dY,dM,reduceIte,iL,Int.reduceBEq]at hv;rw[hv];refine⟨by(rfl),?_⟩
   exact SM.more (by first|(with_reducible first|exact H.o'|exact(H.o'.head _))|exact H.o'.skip _) (by omega) (by omega))
 case _ =>
  have hsz:w1.heap.size<(w1.alloc (.map #[] 0)).heap.size:=by simp
  obtain⟨W2,e2⟩: ∃W,W=M3 (w1.alloc (.map #[] 0)) w1.heap.size #[{key:= .string (⟨#[115,118,103]⟩:ae),val:= .int .i64 1,born:=0}] 1:=⟨_,rfl⟩;have hu1:(Instr.mapUpdate 173 (.map (some w1.heap.size)) (.string (⟨#[115,118,103]⟩:ae)) (.int .i64 1)).run prog (w1.alloc (.map #[] 0))= .ok () W2:=by rw[e2];exact acA _ _ QI jK (eU _ _)
  have hb2:W2.heap[w1.heap.size]?=some (.map #[{key:= .string (⟨#[115,118,103]⟩:ae),val:= .int .i64 1,born:=0}] 1):=by rw[e2];exact aaA hsz _ _
  have hB2:Below w1.heap.size w1 W2:=by rw[e2];exact M0 ((aQ _ w1).alloc (ay _) _) (ay _) _ _
  have hz2:w1.heap.size<W2.heap.size:=by rw[e2];simp[M3]
  clear e2 hsz;obtain⟨W3,e3⟩: ∃W,W=M3 W2 w1.heap.size #[{key:= .string (⟨#[115,118,103]⟩:ae),val:= .int .i64 1,born:=0},{key:= .string (⟨#[109,97,116,104]⟩:ae),val:= .int .i64 2,born:=1}] 2:=⟨_,rfl⟩;have hu2:(Instr.mapUpdate 173 (.map (some w1.heap.size)) (.string (⟨#[109,97,116,104]⟩:ae)) (.int .i64 2)).run prog W2= .ok () W3:=by rw[e3];exact afa _ _ QI jK (by decide) hb2
  have hb3:W3.heap[w1.heap.size]?=some (.map #[{key:= .string (⟨#[115,118,103]⟩:ae),val:= .int .i64 1,born:=0},{key:= .string (⟨#[109,97,116,104]⟩:ae),val:= .int .i64 2,born:=1}] 2):=by rw[e3];exact aaA hz2 _ _
  have hB3:Below w1.heap.size w1 W3:=by rw[e3];exact M0 hB2 (ay _) _ _
  clear e3 hb2 hB2 hz2;have g1:=aM hB3 c1;have H3:=hd' (H.o'.world hB3);clear c1 c2 d1 d2 q1
  have hnm:m.ah=(⟨#[115,118,103]⟩:ae)\/m.ah=(⟨#[109,97,116,104]⟩:ae):=by
   have h0:dh [⟨#[115,118,103]⟩,⟨#[109,97,116,104]⟩] m.ah=true:=by assumption
   unfold dh at h0;rw[cz]at h0;have h1:=h0.1;rw[lT,lT]at h1;simp only[fU,List.any_nil,Ad,jD]at h1;rcases h1 with h1|h1
   ·exact .inl (ak4 h1)
   ·exact .inr (ak4 h1)
  have hv:=aC.opens.eq_1 b m;simp only[*,dY,dM,reduceIte,gQ,Bool.or_self,Ad]at hv;have HV:=hd' hv;rcases hnm with hn|hn
  ·have hlk:(Instr.lookup 173 (.map (some w1.heap.size)) (.string m.ah) false).run prog W3= .ok (.int .i64 1) W3:=aaz m.ah QI jK hb3 (i:=0) (by rw[hn];rfl);have HA:=hd' (NU H3.o' 1);have hsv:(m.ah.toList==([115,118,103]:List ax))=true:=by rw[hn];kernel_rfl
   have HSV:=hd' hsv;clear hb3 hB3 hv hn hsv;rw[hu1];go_simp;go_wp2_with (go_at_call 57;refine HA.o'.mono ?_;rintro e w4 ⟨rfl,h4⟩;have H4:=hd' h4;clear h4)
   (go_end0)
   rw[HV.o',HSV.o'];exact⟨rfl,H4.o'.more (by omega) (by omega)⟩
  ·have hlk:(Instr.lookup 173 (.map (some w1.heap.size)) (.string m.ah) false).run prog W3= .ok (.int .i64 2) W3:=aaz m.ah QI jK hb3 (i:=1) (by rw[hn];rfl);have HA:=hd' (NU H3.o' 2);have hsv:(m.ah.toList==([115,118,103]:List ax))=false:=by rw[hn];kernel_rfl
   have HSV:=hd' hsv;clear hb3 hB3 hv hn hsv;rw[hu1];go_simp;go_wp2_with (go_at_call 57;refine HA.o'.mono ?_;rintro e w4 ⟨rfl,h4⟩;have H4:=hd' h4;clear h4)
   (go_end0)
   rw[HV.o',HSV.o'];exact⟨rfl,H4.o'.more (by omega) (by omega)⟩
end
end
section
section
variable {E:BE} {ws w w':af} {c:Nat} {s:Int} {b b':aC} {m m':aO}
theorem zK (h:SM E ws c s b m w) (hc:c<=100000) (hu:b.used+m.aL.size<=9223372036854775807):Calls prog 63 #[.pointer (some ⟨E.bb,0,none⟩),.pointer (some ⟨E.mb,0,none⟩)] w λr w'=>r= .returned (.bool (b.eO m).2.2)/\SM E ws (c+1) s (b.eO m).1 (b.eO m).2.1 w':=by
 have H:=hd' h;obtain⟨c0, -, -, -,c4⟩:=H.o'.sx.mc;have HR:Hid (b.dx.used=b.used):=hd' (aC.tL _ _).2.2.2.2.2.2.2.2;have hur:b.dx.used+m.aL.size<=9223372036854775807:=by rw[HR.o'];exact hu
 clear h hu;have HV:=hd' (aC.eO.eq_1 b m);obtain⟨k,hk⟩: ∃k,k=m.aH:=⟨_,rfl⟩;rw[<-hk]at c0 HV;clear hk;by_cases k1:k=1
 ·subst k1;go_enter func63,ntmps63
  go_wp2_with (first
   |(go_at_call 107;refine(uC H.o' hc).mono ?_;rintro e w1 ⟨rfl,h1⟩;obtain⟨-, -, -, -,e4⟩:=h1.sx.mc;have H1:=hd' h1;clear h1)
   |(go_at_call 52;refine(FM H1.o' m.aL hur).mono ?_;rintro e w2 ⟨rfl,h2⟩;have H2:=hd' h2;clear h2))
  go_ret;rw[HV.o'];simp only[iL,dY];exact⟨rfl,H2.o'.more (by omega) (by omega)⟩
 ·by_cases k2:k=2
  ·subst k2;go_enter func63,ntmps63
   go_wp2_with (first
    |(go_at_call 108;refine(aeM H.o' hc).mono ?_;rintro e w1 ⟨rfl,h1⟩;have H1:=hd' h1;clear h1))
   go_ret;rw[HV.o'];exact⟨rfl,H1.o'⟩
  ·by_cases k3:k=3
   ·subst k3;go_enter func63,ntmps63
    go_wp2_with (first
     |(go_at_call 109;refine(ac1 H.o' hc).mono ?_;rintro e w1 ⟨rfl,h1⟩;have H1:=hd' h1;clear h1))
    (go_ret)
    rw[HV.o'];exact⟨rfl,H1.o'.more (by omega) (by omega)⟩
   ·have k1':(k==1)=false:=aV.2 k1;have k2':(k==2)=false:=aV.2 k2;have k3':(k==3)=false:=aV.2 k3;clear k1 k2 k3;go_enter func63,ntmps63
    go_wp2_with fail
    go_ret;rw[HV.o'];simp only[k1',k2',k3',gQ,dM];exact⟨rfl,H.o'.more (by omega) (by omega)⟩
def BE.mark (E:BE) (g:Nat):BE:= {E.lay g with mb:=g,a:=none,ac:=0}
theorem SM.other (h:SM E ws c s b m w) (aH:Int) (t:ae) (ht:t.size<=4611686018427387904) {e:TypeId} :
 SM (E.mark w.heap.size) (w.alloc (.cells #[.int .i64 aH,.string ⟨#[]⟩,.slice none 0 0,.bool false,.string t] e)) c s b ⟨aH,⟨#[]⟩,[],false,t⟩ (w.alloc (.cells #[.int .i64 aH,.string ⟨#[]⟩,.slice none 0 0,.bool false,.string t] e)):=by
 have hb:=h.sx.bm.row.lt;have h':=h.lay (.cells #[.int .i64 aH,.string ⟨#[]⟩,.slice none 0 0,.bool false,.string t] e);obtain⟨⟨⟨h1,h2,h3,h4⟩,hmo,h5⟩,ho⟩:=h';refine⟨⟨⟨h1,h2,h3,h4⟩,⟨Row.alloc w _ e,.inr rfl,?_,?_,?_,λ_=>rfl,by simp,λp hp=>absurd hp (by simp),ht,(by show(⟨#[]⟩:ae).size<=maxLen;decide)⟩,az.refl _ _⟩,ho⟩
 ·exact h.sx.bm.li.below.size
 ·show E.bb≠w.heap.size;omega
 ·intro j u hj;simp[bz]at hj
theorem SM.ajO {c':Nat} {s':Int} {m2:aO} {o:Obj} (h0:SM E ws c s b' m w) (h:SM (E.mark w.heap.size) (w.alloc o) c' s' b m2 w'):SM E ws c' s' b m w':=by
 obtain⟨⟨⟨h1,h2,h3,h4⟩,hmo,h5⟩,ho⟩:=h;have hm:=h0.sx.mo.row.lt
 have hk:az (λk=>Own E.w0 E.ex k\/k=E.bb) w w':=((az.refl (λk=>Own E.w0 E.ex k\/k=E.bb) w).alloc o).trans (h5.mono λk _ hx=>by
  rcases hx with hx|hx|hx
  ·exact .inl ⟨hx.1,λhe=>hx.2 (.inl he)⟩
  ·exact .inr hx
  ·have hg:k=w.heap.size:=hx;subst hg
   exact .inl ⟨h0.sx.bm.li.below.size,λhe=>absurd (h0.sx.bm.li.Bu _ he) (Nat.lt_irrefl _)⟩)
 have hko:az (OM E) w w':=hk.mono λ_ _ hx=>hx.imp id .inl
 obtain⟨k1,k2,k3,k4,k5,k6,k7,k8,k9,kA⟩:=h0.sx.mo;refine⟨⟨⟨h1.less λk hx=> .inl hx,h2,h0.sx.bm.exb,h4⟩,⟨k1.kept (hk.block _ hm λhx=> ?_),k2,k3,k4,k5.kept hko,k6,k7,k8,k9,kA⟩,h0.sx.keep.trans hko⟩,ho⟩;rcases hx with hx|hx
 ·exact hx.2 k2
 ·exact k4 hx.symm
theorem Jy (h:SM E ws c s b m w) (hc:c<=100000) (hu:b.used+m.aL.size<=9223372036854775807):Calls prog 53 #[.pointer (some ⟨E.bb,0,none⟩),.pointer (some ⟨E.mb,0,none⟩)] w λr w'=>r= .returned (.bool (b.uf m).2.2)/\SM E ws (c+1) s (b.uf m).1 (b.uf m).2.1 w':=by
 have H:=hd' h;obtain⟨-, -,d2, -⟩:=H.o'.sx.bc;have HV:=hd' (aC.uf.eq_1 b m);clear h;go_enter func53,ntmps53
 go_wp2_with (go_at_call 91;refine(Qa H.o' true).mono ?_;rintro e w1 ⟨rfl,h1⟩;have H1:=hd' h1;have HB:=hd' (zK h1 hc hu);clear h1)
 generalize aC.eO {b with on:=true} m=q at *;refine HB.o'.mono ?_;rintro e w2 ⟨rfl,h2⟩;obtain⟨-, -,g2, -⟩:=h2.sx.bc;have H2:=hd' h2;clear h2;dsimp only;go_wp2_with (go_at_call 91;refine(Qa H2.o' false).mono ?_;rintro e w3 ⟨rfl,h3⟩;have H3:=hd' h3;clear h3)
 go_ret;rw[HV.o'];exact⟨rfl,H3.o'⟩
theorem dropWhile_nil {p:ax->Bool}: ∀l:List ax,l.dropWhile p= []↔ ∀x∈l,p x=true
 | []=>by simp
 |a::r=>by
  rw[Ep];cases h:p a
  ·simp[h]
  ·simp[h,dropWhile_nil r]
theorem Xz (s:ae):(⟨(Lib.trimS s.data.toList [9,10,12,13,32]).toArray⟩:ae).toList.isEmpty=(mQ s).toList.isEmpty:=by
 have h1:(⟨(Lib.trimS s.data.toList [9,10,12,13,32]).toArray⟩:ae).toList=Lib.trimS s.data.toList [9,10,12,13,32]:=by rw[dZ]
 have h2:(mQ s).toList=s.data.toList.dropWhile isSp:=by unfold mQ Vq;rw[dZ,dZ]
 rw[h1,h2]
 have h3:Lib.trimS s.data.toList [9,10,12,13,32]= []↔s.data.toList.dropWhile isSp= []:=by
  unfold Lib.trimS Lib.trimLeftS Lib.trimRightS;rw[dropWhile_nil,dropWhile_nil];constructor
  ·intro h x hx;have h4:=Io (p:=λc=>([9,10,12,13,32]:List ax).contains c) (l:=s.data.toList.reverse);have h5:x∈s.data.toList.reverse:=jM.2 hx;rw[<-h4]at h5;rcases fB.1 h5 with h5|h5
   ·exact qF.1 (List.all_takeWhile (p:=λc=>([9,10,12,13,32]:List ax).contains c) (l:=s.data.toList.reverse)) x h5
   ·exact h x (jM.2 h5)
  ·intro h x hx;exact h x (jM.1 ((List.dropWhile_sublist _).subset (jM.1 hx)))
 rw[rG,Lh,Lh];exact h3
theorem VX (h:SM E ws c s b m w) (hc:c<=100000) (hu:b.used+b.iJ.size<=4611686018427387904):Calls prog 36 #[.pointer (some ⟨E.bb,0,none⟩)] w λr w'=>r= .returned (.tuple #[])/\SM E ws (c+1) s b.flush m w':=by
 have H:=hd' h;obtain⟨-, -, -, -, -, -,d6, -⟩:=H.o'.sx.bc;have f6:=H.o'.sx.bf 6 (by omega);have HV:=hd' (aC.flush.eq_1 b);have HW:=hd' (h.iJ ⟨#[]⟩);have HT:=hd' (ad1 b.iJ (w.setCell ⟨E.bb,6,none⟩ (.string ⟨#[]⟩)) (by omega));have HE:=hd' (Xz b.iJ);clear h;generalize hwt:b.iJ=wt at *;generalize (⟨(Lib.trimS wt.data.toList [9,10,12,13,32]).toArray⟩:ae)=tr at *;have HE2:Hid (tr.toList.isEmpty=(mQ wt).toList.isEmpty):=HE;generalize mQ wt=rs at *;go_enter func36,ntmps36
 go_wp2_with (first
  |(go_at_call 51;refine HT.o'.mono ?_;rintro e w1 ⟨rfl,hb⟩;have H1:=hd' (HW.o'.world hb);clear hb)
  |(go_at_call 52;refine(FM H1.o' wt (by show b.used+wt.size<=_;omega)).mono ?_;rintro e w2 ⟨rfl,h2⟩;have H2:=hd' h2;clear h2)
  |(go_at_call 53;refine(Jy (H1.o'.other 1 wt (by omega)) hc (by show b.used+wt.size<=_;omega)).mono ?_;rintro e w2 ⟨rfl,h2⟩;have H2:=hd' (H1.o'.ajO h2);clear h2))
 all_goals
  first|go_end0|refine bU (oH rfl _ _ _) rfl ?_
  have hv:=HV.o';have he:=HE2.o';rw[<-he]at hv;simp only[*,dY,dM,gQ]at hv;rw[hv];refine⟨rfl,?_⟩
  first|exact HW.o'.more (by omega) (by omega)|exact H2.o'.more (by omega) (by omega)
end
end
section
section
variable {E:BE} {ws w w':af} {c:Nat} {s:Int} {b b':aC} {m m':aO}
theorem Sa (h:SM E ws c s b m w) (hc:c<=100000) (hu:b.used+m.aL.size<=9223372036854775807):Calls prog 66 #[.pointer (some ⟨E.bb,0,none⟩),.pointer (some ⟨E.mb,0,none⟩)] w λr w'=>r= .returned (.bool (b.iW m).2.2)/\SM E ws (c+1) s (b.iW m).1 (b.iW m).2.1 w':=by
 have H:=hd' h;obtain⟨c0, -, -, -, -⟩:=H.o'.sx.mc;obtain⟨-,d1,d2,d3, -, -, -, -, -, -, -⟩:=H.o'.sx.bc;have f3:=H.o'.sx.bf 3 (by omega);have hne: ¬E.mb=E.bb:=λe=>H.o'.sx.mo.ne e.symm
 have hne2: ¬E.bb=E.mb:=H.o'.sx.mo.ne;clear h;go_enter func66,ntmps66
 go_wp2_with ((first
  |(go_at_call 100;refine' tB (uJ ?h ?_) ?_)
  |(go_at_call 116;refine' tB (Mc ?h) ?_)
  |(go_at_call 113;refine' tB (uH ?h ?_) ?_)
  |(go_at_call 117;refine' (xH ?h _).mono ?_)
  |(go_at_call 114;refine' (zn ?h ?_).mono ?_)
  |(go_at_call 118;refine' (I7 ?h).mono ?_)
  |(go_at_call 63;refine' tB (zK ?h hc hu) ?_));((case h=>with_reducible first|exact H.o'|exact H.o'.fP _ (by decide));any_goals first|(rintro e w1 ⟨rfl,h1⟩;(try simp only[bN,strOf,dX,fK,aC.gZ]at h1);clear c0 d1 d2 d3 f3;replace H:=hd' h1;clear h1;obtain⟨c0, -, -, -, -⟩:=H.o'.sx.mc;obtain⟨-,d1,d2,d3, -, -, -, -, -, -, -⟩:=H.o'.sx.bc;have f3:=H.o'.sx.bf 3 (by omega))|(intro t ht w1 h1;(try simp only[bN,strOf,dX,fK,aC.gZ]at ht h1);cases t <;>((try simp only[ht,reduceIte,gQ]at h1);clear c0 d1 d2 d3 f3;replace H:=hd' h1;clear h1;obtain⟨c0, -, -, -, -⟩:=H.o'.sx.mc;obtain⟨-,d1,d2,d3, -, -, -, -, -, -, -⟩:=H.o'.sx.bc;have f3:=H.o'.sx.bf 3 (by omega)))|exact⟨by(with_reducible rfl),by rfl,by rfl,by(decide)⟩|fail))
 all_goals
  ((go_ret))
  have hv:=aC.iW.eq_1 b m;simp only[*,bools,dY,dM,reduceIte,iL,Int.reduceBEq]at hv;rw[hv];refine⟨by first|rfl|(rw[ht];rfl),?_⟩;exact SM.more (by first|(with_reducible first|exact H.o'|exact H.o'.aD _|exact(H.o'.head _))|exact H.o'.skip _) (by omega) (by omega)
theorem R9 (h:SM E ws c s b m w) (hc:c<=100000) (hu:b.used+m.aL.size<=9223372036854775807):Calls prog 67 #[.pointer (some ⟨E.bb,0,none⟩),.pointer (some ⟨E.mb,0,none⟩)] w λr w'=>r= .returned (.bool (b.iV m).2.2)/\SM E ws (c+1) s (b.iV m).1 (b.iV m).2.1 w':=by
 have H:=hd' h;obtain⟨c0, -,c2, -, -⟩:=H.o'.sx.mc;obtain⟨-,d1, -,d3, -, -, -, -, -, -, -⟩:=H.o'.sx.bc;have f3:=H.o'.sx.bf 3 (by omega);have hne: ¬E.mb=E.bb:=λe=>H.o'.sx.mo.ne e.symm
 have hne2: ¬E.bb=E.mb:=H.o'.sx.mo.ne;clear h;go_enter func67,ntmps67
 go_wp2_with ((first
  |(go_at_call 103;refine' tB (NL ?h hu) ?_)
  |(go_at_call 101;refine' tB (pX ?h ?_) ?_)
  |(go_at_call 100;refine' tB (uJ ?h ?_) ?_)
  |(go_at_call 119;(with_reducible refine' (Al ?h _ ?n ?r).mono ?_))
  |(go_at_call 110;refine' tB (WG ?h ?_) ?_)
  |(go_at_call 56;refine' (vS ?h).mono ?_));((case h=>with_reducible first|exact H.o'|exact H.o'.aD _|exact H.o'.fP _ (by decide));(try case n=>(decide));(try case r=>rfl);any_goals first|(rintro e w1 ⟨rfl,h1⟩;(try simp only[bN,strOf,dX,fK,aC.gZ]at h1);clear c0 c2 d1 d3 f3;replace H:=hd' h1;clear h1;obtain⟨c0, -,c2, -, -⟩:=H.o'.sx.mc;obtain⟨-,d1, -,d3, -, -, -, -, -, -, -⟩:=H.o'.sx.bc;have f3:=H.o'.sx.bf 3 (by omega))|(intro t ht w1 h1;(try simp only[bN,strOf,dX,fK,aC.gZ]at ht h1);cases t <;>((try simp only[ht,reduceIte,gQ]at h1);clear c0 c2 d1 d3 f3;replace H:=hd' h1;clear h1;obtain⟨c0, -,c2, -, -⟩:=H.o'.sx.mc;obtain⟨-,d1, -,d3, -, -, -, -, -, -, -⟩:=H.o'.sx.bc;have f3:=H.o'.sx.bf 3 (by omega)))|exact⟨by first|with_reducible rfl|simp[World.setCell],by rfl,by rfl,by(decide)⟩|fail))
 all_goals try (exfalso;have q:=eq_of_beq (by assumption:((aC.bR m).aH==1)=true);omega)
 all_goals try (exfalso;have q:=eq_of_beq (by assumption:((aC.bR m).aH==2)=true);omega)
 all_goals try (exfalso;have q:=eq_of_beq (by assumption:((aC.bR m).aH==3)=true);omega)
 all_goals try (exfalso;have q:=eq_of_beq (by assumption:((aC.bR m).aH==6)=true);omega)
 all_goals
  try have e01:((aC.bR m).aH==1)=true:=cO.2 (by assumption)
  try have e01:((aC.bR m).aH==1)=false:=aV.2 (by assumption)
  try have V8:((aC.bR m).aH==2)=true:=cO.2 (by assumption)
  try have V8:((aC.bR m).aH==2)=false:=aV.2 (by assumption)
  try have V7:((aC.bR m).aH==3)=true:=cO.2 (by assumption)
  try have V7:((aC.bR m).aH==3)=false:=aV.2 (by assumption)
  try have V6:((aC.bR m).aH==6)=true:=cO.2 (by assumption)
  try have V6:((aC.bR m).aH==6)=false:=aV.2 (by assumption)
  ((go_ret))
  have hv:=aC.iV.eq_1 b m;simp only[*,bools,dY,dM,reduceIte,iL,Int.reduceBEq]at hv;rw[hv];refine⟨by(rfl),?_⟩;exact SM.more (by first|(with_reducible first|exact H.o'|exact(H.o'.head _))|exact H.o'.skip _) (by omega) (by omega)
end
end
section
section
variable {E:BE} {ws w w':af} {c:Nat} {s:Int} {b b':aC} {m m':aO}
theorem AL (h:SM E ws c s b m w) (hc:c<=100000) (hu:b.used+m.aL.size<=9223372036854775807) (hw:b.iJ.size+m.aL.size<=9223372036854775807):Calls prog 65 #[.pointer (some ⟨E.bb,0,none⟩),.pointer (some ⟨E.mb,0,none⟩)] w λr w'=>r= .returned (.bool (b.iE m).2.2)/\SM E ws (c+1) s (b.iE m).1 (b.iE m).2.1 w':=by
 have H:=hd' h;obtain⟨c0,c1,c2, -,c4⟩:=H.o'.sx.mc;obtain⟨-,d1,d2,d3, -, -,d6, -, -, -, -⟩:=H.o'.sx.bc;have f3:=H.o'.sx.bf 3 (by omega);have f6:=H.o'.sx.bf 6 (by omega);have hne: ¬E.mb=E.bb:=λe=>H.o'.sx.mo.ne e.symm
 have hne2: ¬E.bb=E.mb:=H.o'.sx.mo.ne;have hnw: ¬9223372036854775807<b.iJ.size+m.aL.size:=by omega
 clear h;go_enter func65,ntmps65
 go_wp2_with ((first
  |(go_at_call 110;refine' tB (WG ?h ?_) ?_)
  |(go_at_call 101;refine' tB (pX ?h ?_) ?_)
  |(go_at_call 100;refine' tB (uJ ?h ?_) ?_)
  |(go_at_call 111;refine' (zP ?h ?_).mono ?_)
  |(go_at_call 112;refine' (Gx ?h ?_).mono ?_)
  |(go_at_call 102;(first|with_reducible refine' (rT ?h _ ?n).mono ?_|with_reducible refine' (kX ?h _ ?n ?r).mono ?_))
  |(go_at_call 113;refine' tB (uH ?h ?_) ?_)
  |(go_at_call 114;refine' (zn ?h ?_).mono ?_)
  |(go_at_call 115;refine' (UD ?h).mono ?_)
  |(go_at_call 104;refine' tB (GI ?h) ?_)
  |(go_at_call 53;refine' tB (Jy ?h hc hu) ?_));((case h=>with_reducible first|exact H.o'|exact H.o'.fP _ (by decide));(try case n=>(decide));(try case r=>rfl);any_goals first|(rintro e w1 ⟨rfl,h1⟩;(try simp only[bN,strOf,dX,fK,aC.gZ]at h1);clear c0 c1 c2 c4 d1 d2 d3 d6 f3 f6;replace H:=hd' h1;clear h1;obtain⟨c0,c1,c2, -,c4⟩:=H.o'.sx.mc;obtain⟨-,d1,d2,d3, -, -,d6, -, -, -, -⟩:=H.o'.sx.bc;have f3:=H.o'.sx.bf 3 (by omega);have f6:=H.o'.sx.bf 6 (by omega))|(intro t ht w1 h1;(try simp only[bN,strOf,dX,fK,aC.gZ]at ht h1);cases t <;>((try simp only[ht,reduceIte,gQ]at h1);clear c0 c1 c2 c4 d1 d2 d3 d6 f3 f6;replace H:=hd' h1;clear h1;obtain⟨c0,c1,c2, -,c4⟩:=H.o'.sx.mc;obtain⟨-,d1,d2,d3, -, -,d6, -, -, -, -⟩:=H.o'.sx.bc;have f3:=H.o'.sx.bf 3 (by omega);have f6:=H.o'.sx.bf 6 (by omega)))|exact⟨by(with_reducible rfl),by rfl,by rfl,by(decide)⟩|omega))
 all_goals try (exfalso;have q:=eq_of_beq (by assumption:(m.aH==1)=true);omega)
 all_goals try (exfalso;have q:=eq_of_beq (by assumption:(m.aH==2)=true);omega)
 all_goals try (exfalso;have q:=eq_of_beq (by assumption:(m.aH==3)=true);omega)
 all_goals try (exfalso;have q:=eq_of_beq (by assumption:(m.aH==6)=true);omega)
 all_goals try (
  try have e01:(m.aH==1)=true:=cO.2 (by assumption)
  try have e01:(m.aH==1)=false:=aV.2 (by assumption)
  try have V8:(m.aH==2)=true:=cO.2 (by assumption)
  try have V8:(m.aH==2)=false:=aV.2 (by assumption)
  try have V7:(m.aH==3)=true:=cO.2 (by assumption)
  try have V7:(m.aH==3)=false:=aV.2 (by assumption)
  try have V6:(m.aH==6)=true:=cO.2 (by assumption)
  try have V6:(m.aH==6)=false:=aV.2 (by assumption)
  ((go_ret))
  have hv:=aC.iE.eq_1 b m;simp only[*,bools,dY,dM,reduceIte,iL,Int.reduceBEq]at hv;rw[hv];refine⟨by first|rfl|(rw[ht];rfl),?_⟩
  exact SM.more (by first|(with_reducible first|exact H.o'|exact H.o'.aD _|exact(H.o'.head _))|exact H.o'.skip _) (by omega) (by omega))
 all_goals try (
  have HI:=hd' (kX H.o'.drew m.ah H.o'.sx.mo.Cf rfl)
  go_region_law (first
   |(go_simp;go_at_call 102;refine HI.o'.mono ?_
     rintro e w2 ⟨rfl,h1⟩
     (clear c0 c1 c2 c4 d1 d2 d3 d6 f3 f6;replace H:=hd' h1;clear h1;obtain⟨c0,c1,c2, -,c4⟩:=H.o'.sx.mc;obtain⟨-,d1,d2,d3, -, -,d6, -, -, -, -⟩:=H.o'.sx.bc;have f3:=H.o'.sx.bf 3 (by omega);have f6:=H.o'.sx.bf 6 (by omega))))
  all_goals
   clear HI
   try simp only[Act.put,jA,jC,jB,dV,dF,dK]
   go_wp2_with ((first
    |(go_at_call 110;refine' tB (WG ?h ?_) ?_)
    |(go_at_call 101;refine' tB (pX ?h ?_) ?_)
    |(go_at_call 100;refine' tB (uJ ?h ?_) ?_)
    |(go_at_call 111;refine' (zP ?h ?_).mono ?_)
    |(go_at_call 112;refine' (Gx ?h ?_).mono ?_)
    |(go_at_call 102;(first|with_reducible refine' (rT ?h _ ?n).mono ?_|with_reducible refine' (kX ?h _ ?n ?r).mono ?_))
    |(go_at_call 113;refine' tB (uH ?h ?_) ?_)
    |(go_at_call 114;refine' (zn ?h ?_).mono ?_)
    |(go_at_call 115;refine' (UD ?h).mono ?_)
    |(go_at_call 104;refine' tB (GI ?h) ?_)
    |(go_at_call 53;refine' tB (Jy ?h hc hu) ?_));((case h=>with_reducible first|exact H.o'|exact H.o'.aL _ (by assumption)|exact(H.o'.aL _ (by assumption)).aD _|exact H.o'.aD _|exact H.o'.head _|exact H.o'.skip _|exact H.o'.iJ _|exact(H.o'.aD _).mV _|exact H.o'.fP _ (by decide));(try case n=>first|decide|exact H.o'.sx.mo.Cf);(try case r=>rfl);any_goals first|(rintro e w1 ⟨rfl,h1⟩;(try simp only[bN,strOf,dX,fK,aC.gZ]at h1);clear c0 c1 c2 c4 d1 d2 d3 d6 f3 f6;replace H:=hd' h1;clear h1;obtain⟨c0,c1,c2, -,c4⟩:=H.o'.sx.mc;obtain⟨-,d1,d2,d3, -, -,d6, -, -, -, -⟩:=H.o'.sx.bc;have f3:=H.o'.sx.bf 3 (by omega);have f6:=H.o'.sx.bf 6 (by omega))|(intro t ht w1 h1;(try simp only[bN,strOf,dX,fK,aC.gZ]at ht h1);cases t <;>((try simp only[ht,reduceIte,gQ]at h1);clear c0 c1 c2 c4 d1 d2 d3 d6 f3 f6;replace H:=hd' h1;clear h1;obtain⟨c0,c1,c2, -,c4⟩:=H.o'.sx.mc;obtain⟨-,d1,d2,d3, -, -,d6, -, -, -, -⟩:=H.o'.sx.bc;have f3:=H.o'.sx.bf 3 (by omega);have f6:=H.o'.sx.bf 6 (by omega)))|exact⟨by first|with_reducible rfl|simp[World.setCell],by rfl,by rfl,by first|decide|simp[ed]⟩|omega|fail))
  all_goals
   try have e01:(m.aH==1)=true:=cO.2 (by assumption)
   try have e01:(m.aH==1)=false:=aV.2 (by assumption)
   try have V8:(m.aH==2)=true:=cO.2 (by assumption)
   try have V8:(m.aH==2)=false:=aV.2 (by assumption)
   try have V7:(m.aH==3)=true:=cO.2 (by assumption)
   try have V7:(m.aH==3)=false:=aV.2 (by assumption)
   try have V6:(m.aH==6)=true:=cO.2 (by assumption)
   try have V6:(m.aH==6)=false:=aV.2 (by assumption)
   ((go_ret))
   have hv:=aC.iE.eq_1 b m;simp only[*,bools,dY,dM,reduceIte,iL,Int.reduceBEq]at hv;rw[hv];refine⟨by(rfl),?_⟩
   exact SM.more (by first|(with_reducible first|exact H.o'.aD _|exact(H.o'.iJ _).drew|exact(H.o'.head _))|exact H.o'.skip _) (by omega) (by omega))
end
end
section
section
variable {E:BE} {ws w w':af} {c:Nat} {s:Int} {b b':aC} {m m':aO}
theorem acJ (h:SM E ws c s b m w) (hc:c<=100000) (hu:b.used+m.aL.size<=9223372036854775807) (hw:b.iJ.size+m.aL.size<=9223372036854775807):Calls prog 68 #[.pointer (some ⟨E.bb,0,none⟩),.pointer (some ⟨E.mb,0,none⟩)] w λr w'=>r= .returned (.bool (b.oM m).2.2)/\SM E ws (c+1) s (b.oM m).1 (b.oM m).2.1 w':=by
 have H:=hd' h;obtain⟨c0,c1,c2, -, -⟩:=H.o'.sx.mc;obtain⟨-,d1, -,d3, -, -, -, -, -, -, -⟩:=H.o'.sx.bc;have f3:=H.o'.sx.bf 3 (by omega);have hne: ¬E.mb=E.bb:=λe=>H.o'.sx.mo.ne e.symm
 have hne2: ¬E.bb=E.mb:=H.o'.sx.mo.ne;clear h;go_enter func68,ntmps68
 go_wp2_with ((first
  |(go_at_call 101;refine' tB (pX ?h ?_) ?_)
  |(go_at_call 100;refine' tB (uJ ?h ?_) ?_)
  |(go_at_call 111;refine' (zP ?h ?_).mono ?_)
  |(go_at_call 102;(first|with_reducible refine' (rT ?h _ ?n).mono ?_|with_reducible refine' (kX ?h _ ?n ?r).mono ?_))
  |(go_at_call 113;refine' tB (uH ?h ?_) ?_)
  |(go_at_call 56;refine' (vS ?h).mono ?_)
  |(go_at_call 65;refine' tB (AL ?h hc hu hw) ?_));((case h=>with_reducible first|exact H.o'|exact H.o'.aD _|exact H.o'.fP _ (by decide));(try case n=>(decide));(try case r=>rfl);any_goals first|(rintro e w1 ⟨rfl,h1⟩;(try simp only[bN,strOf,dX,fK,aC.gZ]at h1);clear c0 c1 c2 d1 d3 f3;replace H:=hd' h1;clear h1;obtain⟨c0,c1,c2, -, -⟩:=H.o'.sx.mc;obtain⟨-,d1, -,d3, -, -, -, -, -, -, -⟩:=H.o'.sx.bc;have f3:=H.o'.sx.bf 3 (by omega))|(intro t ht w1 h1;(try simp only[bN,strOf,dX,fK,aC.gZ]at ht h1);cases t <;>((try simp only[ht,reduceIte,gQ]at h1);clear c0 c1 c2 d1 d3 f3;replace H:=hd' h1;clear h1;obtain⟨c0,c1,c2, -, -⟩:=H.o'.sx.mc;obtain⟨-,d1, -,d3, -, -, -, -, -, -, -⟩:=H.o'.sx.bc;have f3:=H.o'.sx.bf 3 (by omega)))|exact⟨by(with_reducible rfl),by rfl,by rfl,by(decide)⟩|fail))
 all_goals try (
  ((go_ret))
  have hv:=aC.oM.eq_1 b m;simp only[*,bools,dY,dM,reduceIte,iL,Int.reduceBEq]at hv;rw[hv];refine⟨by first|rfl|(rw[ht];rfl),?_⟩
  exact SM.more (by first|(with_reducible first|exact H.o'|exact H.o'.aD _|exact(H.o'.head _))|exact H.o'.skip _) (by omega) (by omega))
 all_goals try (
  have HE:Hid (Calls prog 113 #[.pointer (some ⟨E.sb,0,none⟩),.int .i64 3,.slice (some ⟨w1.heap.size,0,none⟩) 1 1] (w1.alloc (.cells #[.string m.ah] 9)).drew λr w'=>r= .returned (.bool (b.has 3 [m.ah]))/\SM E ws c s b m w'):=hd' (by
   have h0:=uH (scope:=3) (di:= #[.string m.ah]) (e:=9) (n:=1) (ca:=1) H.o'.drew ⟨rfl,by rfl,by rfl,by simp[ed]⟩
   exact h0)
  have g1:(w1.alloc (.cells #[.string m.ah] 9)).cell? ⟨E.mb,1,none⟩=some (.string m.ah):=(H.o'.alloc _).sx.mc.2.1;have g2:(w1.alloc (.cells #[.string m.ah] 9)).cell? ⟨E.bb,1,none⟩=some (.pointer (some ⟨E.sb,0,none⟩)):=(H.o'.alloc _).sx.bc.2.1;generalize hht:b.has 3 [m.ah]=tt at HE
  go_region_law (first
   |(go_simp;go_at_call 113;refine HE.o'.mono ?_
     rintro e w2 ⟨rfl,h1⟩
     (clear c0 c1 c2 d1 d3 f3;replace H:=hd' h1;clear h1;obtain⟨c0,c1,c2, -, -⟩:=H.o'.sx.mc;obtain⟨-,d1, -,d3, -, -, -, -, -, -, -⟩:=H.o'.sx.bc;have f3:=H.o'.sx.bf 3 (by omega))))
  all_goals
   clear HE g1 g2
   try simp only[Act.put,jA,jC,jB,dV,dF,dK]
   cases tt
   all_goals
    go_wp2_with ((first
     |(go_at_call 111;refine' (zP ?h ?_).mono ?_)
     |(go_at_call 56;refine' (vS ?h).mono ?_));((case h=>with_reducible first|exact H.o'|exact H.o'.fP _ (by decide));(try case n=>first|decide|exact H.o'.sx.mo.Cf);(try case r=>rfl);any_goals first|(rintro e w1 ⟨rfl,h1⟩;(try simp only[bN,strOf,dX,fK,aC.gZ]at h1);clear c0 c1 c2 d1 d3 f3;replace H:=hd' h1;clear h1;obtain⟨c0,c1,c2, -, -⟩:=H.o'.sx.mc;obtain⟨-,d1, -,d3, -, -, -, -, -, -, -⟩:=H.o'.sx.bc;have f3:=H.o'.sx.bf 3 (by omega))|exact⟨by(with_reducible rfl),by rfl,by rfl,by(decide)⟩|fail))
    all_goals
     ((go_ret))
     have hv:=aC.oM.eq_1 b m;simp only[*,bools,dY,dM,reduceIte,iL,Int.reduceBEq]at hv;rw[hv];refine⟨by(rfl),?_⟩
     exact SM.more (by first|(with_reducible first|exact H.o'|exact H.o'.aD _|exact(H.o'.head _))|exact H.o'.skip _) (by omega) (by omega))
end
end
section
section
variable {E:BE} {ws w w':af} {c:Nat} {s:Int} {b b':aC} {m m':aO}
theorem xZ {P:Program} {md:Region.Mode} {ops:Array Oper} {Q:Exit->Act->af->Prop} {i:Nat} {oi:Oper} {d:Option Nat} {v:ak} {fuel:Nat} {listed:Array Bool} {a:Act} {w:af} (hi:ops[i]?=some oi) (hd:oi.dst=d)
 (hs:Region.noSelect ops=true) (hf:Region.free md ops listed i=true) (hr:(Region.ready md ops listed).contains i=true)
 (hQ: ∀c a w,Q (.panic c) (a.put oi.dst v) w->Q (.panic c) a w) (hy:Yields P ops oi v a)
 (h:wpAny P md ops Q fuel (listed.setIfInBounds i true) (a.put d v) w):wpAny P md ops Q (fuel+1) listed a w :=
 wpAny_take hi hs hf hr hQ hy (hd▸h)
theorem kS {P:Program} {md:Region.Mode} {ops:Array Oper} {Q:Exit->Act->af->Prop} {i:Nat} {oi:Oper} {fuel:Nat} {listed:Array Bool} {a:Act} {w:af} (hi:ops[i]?=some oi)
 (hs:Region.noSelect ops=true) (hf:Region.free md ops listed i=true) (hr:(Region.ready md ops listed).contains i=true)
 (hQ: ∀c a w,Q (.panic c) (a.put oi.dst undef) w->Q (.panic c) a w) (hy:Region.wanted oi (yielded ops a.tmps)=false) (hp:a.put oi.dst undef=a)
 (h:wpAny P md ops Q fuel (listed.setIfInBounds i true) a w):wpAny P md ops Q (fuel+1) listed a w :=
 wpAny_take hi hs hf hr hQ (Or.inr ⟨hy,rfl⟩) (hp.symm▸h)
theorem afD (h:SM E ws c s b m w) (hc:c<=100000) (hu:b.used+m.aL.size<=9223372036854775807) (hw:b.iJ.size+m.aL.size<=9223372036854775807):Calls prog 69 #[.pointer (some ⟨E.bb,0,none⟩),.pointer (some ⟨E.mb,0,none⟩)] w λr w'=>r= .returned (.bool (b.uj m).2.2)/\SM E ws (c+1) s (b.uj m).1 (b.uj m).2.1 w':=by
 have H:=hd' h;obtain⟨c0,c1,c2, -, -⟩:=H.o'.sx.mc;obtain⟨-,d1,d2,d3, -, -, -, -, -, -, -⟩:=H.o'.sx.bc;have f3:=H.o'.sx.bf 3 (by omega);have hne: ¬E.mb=E.bb:=λe=>H.o'.sx.mo.ne e.symm
 have hne2: ¬E.bb=E.mb:=H.o'.sx.mo.ne;clear h;go_enter func69,ntmps69
 go_wp2_with ((first
  |(go_at_call 101;refine' tB (pX ?h ?_) ?_)
  |(go_at_call 111;refine' (zP ?h ?_).mono ?_)
  |(go_at_call 65;refine' tB (AL ?h hc hu hw) ?_));((case h=>with_reducible first|exact H.o'|exact H.o'.fP _ (by decide));(try case n=>first|decide|exact H.o'.sx.mo.Cf);(try case r=>rfl);any_goals first|(rintro e w1 ⟨rfl,h1⟩;(try simp only[bN,strOf,dX,fK,aC.gZ]at h1);clear c0 c1 c2 d1 d2 d3 f3;replace H:=hd' h1;clear h1;obtain⟨c0,c1,c2, -, -⟩:=H.o'.sx.mc;obtain⟨-,d1,d2,d3, -, -, -, -, -, -, -⟩:=H.o'.sx.bc;have f3:=H.o'.sx.bf 3 (by omega))|(intro t ht w1 h1;(try simp only[bN,strOf,dX,fK,aC.gZ]at ht h1);cases t <;>((try simp only[ht,reduceIte,gQ]at h1);clear c0 c1 c2 d1 d2 d3 f3;replace H:=hd' h1;clear h1;obtain⟨c0,c1,c2, -, -⟩:=H.o'.sx.mc;obtain⟨-,d1,d2,d3, -, -, -, -, -, -, -⟩:=H.o'.sx.bc;have f3:=H.o'.sx.bf 3 (by omega)))|exact⟨by(with_reducible rfl),by rfl,by rfl,by(decide)⟩|fail))
 case _=>(
  have ZN:Hid (Calls prog 100 #[.pointer (some ⟨E.mb,0,none⟩),.slice (some ⟨w1.heap.size,0,none⟩) 3 3] (w1.alloc (.cells #[.string (⟨#[116,98,111,100,121]⟩:ae),.string (⟨#[116,102,111,111,116]⟩:ae),.string (⟨#[116,104,101,97,100]⟩:ae)] 9)).drew λr w'=>r= .returned (.bool (iO m [⟨#[116,98,111,100,121]⟩,⟨#[116,102,111,111,116]⟩,⟨#[116,104,101,97,100]⟩]))/\w'.cell? ⟨E.bb,1,none⟩=some (.pointer (some ⟨E.sb,0,none⟩))/\w'.cell? ⟨E.mb,1,none⟩=some (.string m.ah)/\Hid (SM E ws c s b m w')):=hd' (by
   have h0:=uJ (di:= #[.string (⟨#[116,98,111,100,121]⟩:ae),.string (⟨#[116,102,111,111,116]⟩:ae),.string (⟨#[116,104,101,97,100]⟩:ae)]) (e:=9) (n:=3) (ca:=3) H.o'.drew ⟨rfl,by rfl,by rfl,by decide⟩
   exact h0.mono λr w' h=>⟨h.1,h.2.sx.bc.2.1,h.2.sx.mc.2.1,hd' h.2⟩)
  have Tu:Hid ((w1.alloc (.cells #[.string (⟨#[116,98,111,100,121]⟩:ae),.string (⟨#[116,102,111,111,116]⟩:ae),.string (⟨#[116,104,101,97,100]⟩:ae)] 9)).drew.cell? ⟨E.bb,1,none⟩=some (.pointer (some ⟨E.sb,0,none⟩))/\(w1.alloc (.cells #[.string (⟨#[116,98,111,100,121]⟩:ae),.string (⟨#[116,102,111,111,116]⟩:ae),.string (⟨#[116,104,101,97,100]⟩:ae)] 9)).drew.cell? ⟨E.mb,1,none⟩=some (.string m.ah)/\Hid (SM E ws c s b m (w1.alloc (.cells #[.string (⟨#[116,98,111,100,121]⟩:ae),.string (⟨#[116,102,111,111,116]⟩:ae),.string (⟨#[116,104,101,97,100]⟩:ae)] 9)).drew)):=hd' ⟨(H.o'.alloc _).drew.sx.bc.2.1,(H.o'.alloc _).drew.sx.mc.2.1,hd' (H.o'.alloc _).drew⟩
  have HHs:Hid (∀u,u.cell? ⟨E.bb,1,none⟩=some (.pointer (some ⟨E.sb,0,none⟩))/\u.cell? ⟨E.mb,1,none⟩=some (.string m.ah)/\Hid (SM E ws c s b m u)->Calls prog 113 #[.pointer (some ⟨E.sb,0,none⟩),.int .i64 3,.slice (some ⟨u.heap.size,0,none⟩) 1 1] (u.alloc (.cells #[.string m.ah] 9)) λr w'=>r= .returned (.bool (b.has 3 [m.ah]))/\w'.cell? ⟨E.bb,1,none⟩=some (.pointer (some ⟨E.sb,0,none⟩))/\w'.cell? ⟨E.mb,1,none⟩=some (.string m.ah)/\Hid (SM E ws c s b m w')):=hd' λu hu=>by
   have h0:=uH (scope:=3) (di:= #[.string m.ah]) (e:=9) (n:=1) (ca:=1) hu.2.2.o' ⟨rfl,by rfl,by rfl,by simp[ed]⟩;exact h0.mono λr w' h=>⟨h.1,h.2.sx.bc.2.1,h.2.sx.mc.2.1,hd' h.2⟩
  have HKA:Hid (∀u o,u.cell? ⟨E.bb,1,none⟩=some (.pointer (some ⟨E.sb,0,none⟩))/\u.cell? ⟨E.mb,1,none⟩=some (.string m.ah)/\Hid (SM E ws c s b m u)->(u.alloc o).cell? ⟨E.bb,1,none⟩=some (.pointer (some ⟨E.sb,0,none⟩))/\(u.alloc o).cell? ⟨E.mb,1,none⟩=some (.string m.ah)/\Hid (SM E ws c s b m (u.alloc o))):=hd' λu o hu=>⟨(hu.2.2.o'.alloc o).sx.bc.2.1,(hu.2.2.o'.alloc o).sx.mc.2.1,hd' (hu.2.2.o'.alloc o)⟩
  have HS0:Hid (w1.drew.cell? ⟨E.bb,1,none⟩=some (.pointer (some ⟨E.sb,0,none⟩))/\w1.drew.cell? ⟨E.mb,1,none⟩=some (.string m.ah)/\Hid (SM E ws c s b m w1.drew)):=hd' ⟨H.o'.drew.sx.bc.2.1,H.o'.drew.sx.mc.2.1,hd' H.o'.drew⟩;generalize hte:iO m [⟨#[116,98,111,100,121]⟩,⟨#[116,102,111,111,116]⟩,⟨#[116,104,101,97,100]⟩]=te at ZN;generalize hht:b.has 3 [m.ah]=tt at HHs;cases te
  case' false =>
   clear HHs HKA HS0 Tu;refine wp_region_any (by kernel_rfl) ?_
   (try change wpAny _ _ _ _ _ _ _ (World.drew _))
   refine xZ (i:=0) (v:= .pointer (some ⟨E.mb,0,none⟩)) rfl rfl (by kernel_rfl) (by kernel_rfl) (by kernel_rfl) (λ_ _ _ h=>h) (Or.inl ⟨by rfl,λw=>by go_simp⟩) ?_
   (try simp only[Act.put,dV,dF,dK])
   refine wpAny_ready (rs:= [1]) (by kernel_rfl) (by simp) ?_;refine AllReady.cons rfl (λK hK=> ?_) AllReady.nil;go_simp;refine hK _ _ ?_;clear hK K
   (try simp only[Act.put,dV,dF,dK])
   refine wpAny_ready (rs:= [2]) (by kernel_rfl) (by simp) ?_;refine AllReady.cons rfl (λK hK=> ?_) AllReady.nil;go_simp;go_at_call 100
   refine ZN.o'.mono ?_;rintro e w2 ⟨rfl,t1,t2,h1⟩
   try go_simp
   refine hK _ _ ?_;clear hK K
   (try simp only[Act.put,dV,dF,dK])
   refine xZ (i:=3) (v:= .bool false) rfl rfl (by kernel_rfl) (by kernel_rfl) (by kernel_rfl) (λ_ _ _ h=>h) (Or.inl ⟨by rfl,λw=>by go_simp⟩) ?_
   (try simp only[Act.put,dV,dF,dK])
   refine kS (i:=4) rfl (by kernel_rfl) (by kernel_rfl) (by kernel_rfl) (λ_ _ _ h=>h) (by rfl) (by rfl) ?_;refine kS (i:=5) rfl (by kernel_rfl) (by kernel_rfl) (by kernel_rfl) (λ_ _ _ h=>h) (by rfl) (by rfl) ?_;refine kS (i:=6) rfl (by kernel_rfl) (by kernel_rfl) (by kernel_rfl) (λ_ _ _ h=>h) (by rfl) (by rfl) ?_;refine kS (i:=7) rfl (by kernel_rfl) (by kernel_rfl) (by kernel_rfl) (λ_ _ _ h=>h) (by rfl) (by rfl) ?_;refine kS (i:=8) rfl (by kernel_rfl) (by kernel_rfl) (by kernel_rfl) (λ_ _ _ h=>h) (by rfl) (by rfl) ?_;refine kS (i:=9) rfl (by kernel_rfl) (by kernel_rfl) (by kernel_rfl) (λ_ _ _ h=>h) (by rfl) (by rfl) ?_;refine kS (i:=10) rfl (by kernel_rfl) (by kernel_rfl) (by kernel_rfl) (λ_ _ _ h=>h) (by rfl) (by rfl) ?_;refine kS (i:=11) rfl (by kernel_rfl) (by kernel_rfl) (by kernel_rfl) (λ_ _ _ h=>h) (by rfl) (by rfl) ?_;refine kS (i:=12) rfl (by kernel_rfl) (by kernel_rfl) (by kernel_rfl) (λ_ _ _ h=>h) (by rfl) (by rfl) ?_;refine kS (i:=13) rfl (by kernel_rfl) (by kernel_rfl) (by kernel_rfl) (λ_ _ _ h=>h) (by rfl) (by rfl) ?_;refine kS (i:=14) rfl (by kernel_rfl) (by kernel_rfl) (by kernel_rfl) (λ_ _ _ h=>h) (by rfl) (by rfl) ?_;refine xZ (i:=15) (v:= .bool false) rfl rfl (by kernel_rfl) (by kernel_rfl) (by kernel_rfl) (λ_ _ _ h=>h) (Or.inl ⟨by rfl,λw=>by go_simp⟩) ?_
   (try simp only[Act.put,dV,dF,dK])
   refine xZ (i:=16) (v:= .bool false) rfl rfl (by kernel_rfl) (by kernel_rfl) (by kernel_rfl) (λ_ _ _ h=>h) (Or.inl ⟨by rfl,λw=>by go_simp⟩) ?_
   (try simp only[Act.put,dV,dF,dK])
   refine wpAny_done (by kernel_rfl) ?_ _
  case' true=>cases tt
  all_goals
   try ((go_region_held3 (λu=>u.cell? ⟨E.bb,1,none⟩=some (.pointer (some ⟨E.sb,0,none⟩))/\u.cell? ⟨E.mb,1,none⟩=some (.string m.ah)/\Hid (SM E ws c s b m u))
    (first|with_reducible exact HS0.o'|with_reducible exact Tu.o'|with_reducible exact HKA.o' _ _ (by assumption)|exact⟨t1,t2,h1⟩)
    (first|(go_at_call 100;refine ZN.o'.mono ?_;rintro e w2 ⟨rfl,t1,t2,h1⟩)|(go_at_call 113;refine(HHs.o' _ ⟨t1,t2,h1⟩).mono ?_;rintro e w2 ⟨rfl,t1,t2,h1⟩))))
   all_goals
    try clear HKA HS0 Tu
    clear ZN;replace H:=hd' h1.o';clear h1;clear c0 c1 c2 d1 d2 d3 f3;obtain⟨c0,c1,c2, -, -⟩:=H.o'.sx.mc;obtain⟨-,d1,d2,d3, -, -, -, -, -, -, -⟩:=H.o'.sx.bc;have f3:=H.o'.sx.bf 3 (by omega)
    try simp only[Act.put,jA,jC,jB,dV,dF,dK]
    go_wp2_with ((first
     |(go_at_call 100;refine' tB (uJ ?h ?_) ?_)
     |(go_at_call 116;refine' tB (Mc ?h) ?_)
     |(go_at_call 111;refine' (zP ?h ?_).mono ?_)
     |(go_at_call 113;refine' tB (uH ?h ?_) ?_)
     |(go_at_call 56;refine' (vS ?h).mono ?_)
     |(go_at_call 65;refine' tB (AL ?h hc hu hw) ?_));((case h=>with_reducible first|exact H.o'|exact H.o'.aD _|exact H.o'.fP _ (by decide));(try case n=>first|decide|exact H.o'.sx.mo.Cf);(try case r=>rfl);any_goals first|(rintro e w1 ⟨rfl,h1⟩;(try simp only[bN,strOf,dX,fK,aC.gZ]at h1);clear c0 c1 c2 d1 d2 d3 f3;replace H:=hd' h1;clear h1;obtain⟨c0,c1,c2, -, -⟩:=H.o'.sx.mc;obtain⟨-,d1,d2,d3, -, -, -, -, -, -, -⟩:=H.o'.sx.bc;have f3:=H.o'.sx.bf 3 (by omega))|(intro t ht w1 h1;(try simp only[bN,strOf,dX,fK,aC.gZ]at ht h1);cases t <;>((try simp only[ht,reduceIte,gQ]at h1);clear c0 c1 c2 d1 d2 d3 f3;replace H:=hd' h1;clear h1;obtain⟨c0,c1,c2, -, -⟩:=H.o'.sx.mc;obtain⟨-,d1,d2,d3, -, -, -, -, -, -, -⟩:=H.o'.sx.bc;have f3:=H.o'.sx.bf 3 (by omega)))|exact⟨by first|with_reducible rfl|simp[World.setCell],by rfl,by rfl,by(decide)⟩|fail))
    all_goals
     ((go_ret))
     have hv:=aC.uj.eq_1 b m;simp only[*,bools,dY,dM,reduceIte,iL,Int.reduceBEq]at hv;rw[hv];refine⟨by first|rfl|(rw[ht];rfl),?_⟩
     exact SM.more (by first|(with_reducible first|exact H.o'|exact(H.o'.head _))|exact H.o'.skip _) (by omega) (by omega))
 case _=>(
  have HI:=hd' (kX H.o'.drew m.ah H.o'.sx.mo.Cf rfl)
  go_region_law (first
   |(go_simp;go_at_call 102;refine HI.o'.mono ?_
     rintro e w2 ⟨rfl,h1⟩
     (clear c0 c1 c2 d1 d2 d3 f3;replace H:=hd' h1;clear h1;obtain⟨c0,c1,c2, -, -⟩:=H.o'.sx.mc;obtain⟨-,d1,d2,d3, -, -, -, -, -, -, -⟩:=H.o'.sx.bc;have f3:=H.o'.sx.bf 3 (by omega))))
  all_goals
   clear HI
   try simp only[Act.put,jA,jC,jB,dV,dF,dK]
   go_wp2_with ((first
    |(go_at_call 112;refine' (Gx ?h ?_).mono ?_));((case h=>with_reducible first|exact H.o'.aD _|exact H.o'.fP _ (by decide));(try case n=>first|decide|exact H.o'.sx.mo.Cf);(try case r=>rfl);any_goals first|(rintro e w1 ⟨rfl,h1⟩;(try simp only[bN,strOf,dX,fK,aC.gZ]at h1);clear c0 c1 c2 d1 d2 d3 f3;replace H:=hd' h1;clear h1;obtain⟨c0,c1,c2, -, -⟩:=H.o'.sx.mc;obtain⟨-,d1,d2,d3, -, -, -, -, -, -, -⟩:=H.o'.sx.bc;have f3:=H.o'.sx.bf 3 (by omega))|omega))
  all_goals
   ((go_ret))
   have hv:=aC.uj.eq_1 b m;simp only[*,bools,dY,dM,reduceIte,iL,Int.reduceBEq]at hv;rw[hv];refine⟨by(rfl),?_⟩
   exact SM.more (by first|(with_reducible first|exact H.o'|exact(H.o'.head _))|exact H.o'.skip _) (by omega) (by omega))
end
end
section
section
variable {E:BE} {ws w w':af} {c:Nat} {s:Int} {b b':aC} {m m':aO}
theorem acL (h:SM E ws c s b m w) (hc:c<=100000) (hu:b.used+m.aL.size<=9223372036854775807):Calls prog 70 #[.pointer (some ⟨E.bb,0,none⟩),.pointer (some ⟨E.mb,0,none⟩)] w λr w'=>r= .returned (.bool (b.oN m).2.2)/\SM E ws (c+1) s (b.oN m).1 (b.oN m).2.1 w':=by
 have H:=hd' h;obtain⟨-,c1, -, -, -⟩:=H.o'.sx.mc;obtain⟨-,d1, -, -, -, -, -, -, -, -, -⟩:=H.o'.sx.bc;have hne: ¬E.mb=E.bb:=λe=>H.o'.sx.mo.ne e.symm
 have hne2: ¬E.bb=E.mb:=H.o'.sx.mo.ne;clear h;go_enter func70,ntmps70
 go_wp2_with ((first
  |(go_at_call 100;refine' tB (uJ ?h ?_) ?_)
  |(go_at_call 116;refine' tB (Mc ?h) ?_)
  |(go_at_call 113;refine' tB (uH ?h ?_) ?_)
  |(go_at_call 120;refine' (Vy ?h ?_).mono ?_)
  |(go_at_call 63;refine' tB (zK ?h hc hu) ?_));((case h=>with_reducible first|exact H.o'|exact H.o'.fP _ (by decide));any_goals first|(rintro e w1 ⟨rfl,h1⟩;(try simp only[bN,strOf,dX,fK,aC.gZ]at h1);clear c1 d1;replace H:=hd' h1;clear h1;obtain⟨-,c1, -, -, -⟩:=H.o'.sx.mc;obtain⟨-,d1, -, -, -, -, -, -, -, -, -⟩:=H.o'.sx.bc)|(intro t ht w1 h1;(try simp only[bN,strOf,dX,fK,aC.gZ]at ht h1);cases t <;>((try simp only[ht,reduceIte,gQ]at h1);clear c1 d1;replace H:=hd' h1;clear h1;obtain⟨-,c1, -, -, -⟩:=H.o'.sx.mc;obtain⟨-,d1, -, -, -, -, -, -, -, -, -⟩:=H.o'.sx.bc))|exact⟨by(with_reducible rfl),by rfl,by rfl,by(decide)⟩|fail))
 all_goals try (
  ((go_ret))
  have hv:=aC.oN.eq_1 b m;simp only[*,bools,dY,dM,reduceIte,iL,Int.reduceBEq]at hv;rw[hv];refine⟨by first|rfl|(rw[ht];rfl),?_⟩
  exact SM.more (by first|(with_reducible first|exact H.o'|exact(H.o'.head _))|exact H.o'.skip _) (by omega) (by omega))
 all_goals try (
  have HE:Hid (Calls prog 113 #[.pointer (some ⟨E.sb,0,none⟩),.int .i64 3,.slice (some ⟨w1.heap.size,0,none⟩) 1 1] (w1.alloc (.cells #[.string m.ah] 9)).drew λr w'=>r= .returned (.bool (b.has 3 [m.ah]))/\SM E ws c s b m w'):=hd' (by
   have h0:=uH (scope:=3) (di:= #[.string m.ah]) (e:=9) (n:=1) (ca:=1) H.o'.drew ⟨rfl,by rfl,by rfl,by simp[ed]⟩
   exact h0)
  have g1:(w1.alloc (.cells #[.string m.ah] 9)).cell? ⟨E.mb,1,none⟩=some (.string m.ah):=(H.o'.alloc _).sx.mc.2.1;have g2:(w1.alloc (.cells #[.string m.ah] 9)).cell? ⟨E.bb,1,none⟩=some (.pointer (some ⟨E.sb,0,none⟩)):=(H.o'.alloc _).sx.bc.2.1;generalize hht:b.has 3 [m.ah]=tt at HE
  go_region_law (first
   |(go_simp;go_at_call 113;refine HE.o'.mono ?_
     rintro e w2 ⟨rfl,h1⟩
     (clear c1 d1;replace H:=hd' h1;clear h1;obtain⟨-,c1, -, -, -⟩:=H.o'.sx.mc;obtain⟨-,d1, -, -, -, -, -, -, -, -, -⟩:=H.o'.sx.bc)))
  all_goals
   clear HE g1 g2
   try simp only[Act.put,jA,jC,jB,dV,dF,dK]
   cases tt
   all_goals
    go_wp2_with ((first
     |(go_at_call 120;refine' (Vy ?h ?_).mono ?_));((case h=>with_reducible first|exact H.o'|exact H.o'.fP _ (by decide));any_goals first|(rintro e w1 ⟨rfl,h1⟩;(try simp only[bN,strOf,dX,fK,aC.gZ]at h1);clear c1 d1;replace H:=hd' h1;clear h1;obtain⟨-,c1, -, -, -⟩:=H.o'.sx.mc;obtain⟨-,d1, -, -, -, -, -, -, -, -, -⟩:=H.o'.sx.bc)|exact⟨by(with_reducible rfl),by rfl,by rfl,by first|decide|simp[ed]⟩|fail))
    all_goals
     ((go_ret))
     have hv:=aC.oN.eq_1 b m;simp only[*,bools,dY,dM,reduceIte,iL,Int.reduceBEq]at hv;rw[hv];refine⟨by(rfl),?_⟩
     exact SM.more (by first|(with_reducible first|exact H.o'|exact(H.o'.head _))|exact H.o'.skip _) (by omega) (by omega))
end
end
section
section
variable {E:BE} {ws w w':af} {c:Nat} {s:Int} {b b':aC} {m m':aO}
theorem Uo (h:m.aH=1) (L:List ae):cB m L=false:=by unfold cB;rw[h];rfl
theorem acW (h:m.aH=1) (L:List ae):iO m L=false:=by unfold iO;rw[h];rfl
theorem YV (h:SM E ws c s b m w) (hc:c<=100000) (hu:b.used+m.aL.size<=9223372036854775807):Calls prog 71 #[.pointer (some ⟨E.bb,0,none⟩),.pointer (some ⟨E.mb,0,none⟩)] w λr w'=>r= .returned (.bool (b.lU m).2.2)/\SM E ws (c+1) s (b.lU m).1 (b.lU m).2.1 w':=by
 have H:=hd' h;obtain⟨c0, -, -, -,c4⟩:=H.o'.sx.mc;obtain⟨-, -, -,d3, -, -, -, -, -, -, -⟩:=H.o'.sx.bc;have f3:=H.o'.sx.bf 3 (by omega);have q4:=H.o'.sx.mf.2;have hne: ¬E.mb=E.bb:=λe=>H.o'.sx.mo.ne e.symm
 have hne2: ¬E.bb=E.mb:=H.o'.sx.mo.ne;clear h;go_enter func71,ntmps71
 go_wp2_with (first
  |((first
   |(go_at_call 101;refine' tB (pX ?h ?_) ?_)
   |(go_at_call 100;refine' tB (uJ ?h ?_) ?_));((case h=>with_reducible first|exact H.o'|exact H.o'.fP _ (by decide));any_goals first|(intro t ht w1 h1;(try simp only[bN,strOf,dX,fK,aC.gZ]at ht h1);cases t <;>((try simp only[ht,reduceIte,gQ]at h1);clear c0 c4 d3 f3 q4;replace H:=hd' h1;clear h1;obtain⟨c0, -, -, -,c4⟩:=H.o'.sx.mc;obtain⟨-, -, -,d3, -, -, -, -, -, -, -⟩:=H.o'.sx.bc;have f3:=H.o'.sx.bf 3 (by omega);have q4:=H.o'.sx.mf.2))|exact⟨by(with_reducible rfl),by rfl,by rfl,by(decide)⟩|fail))
  |(go_at_call 99;refine(rJ _ _ H.o'.sx.mo.Uf).mono ?_;rintro e w1 ⟨rfl,hb⟩;have h1:=H.o'.world hb;clear hb;have hz:=uY m.aL;generalize hr:mQ m.aL=rr at hz |-;generalize ha:gz m.aL=aa at hz |-;have hz2:rr.size<=m.aL.size:=hz▸Nat.le_add_left _ _;have hz3:aa.size<=m.aL.size:=hz▸QJ _ _;have htl:=H.o'.sx.mo.Uf;clear c0 c4 d3 f3 q4;replace H:=hd' h1;clear h1;obtain⟨c0, -, -, -,c4⟩:=H.o'.sx.mc;obtain⟨-, -, -,d3, -, -, -, -, -, -, -⟩:=H.o'.sx.bc;have f3:=H.o'.sx.bf 3 (by omega);have q4:=H.o'.sx.mf.2)
  |(go_at_call 63;refine(zK (H.o'.other 1 aa (bY hz3 htl)) hc (bY (Nat.add_le_add_left hz3 _) hu)).mono ?_;rintro e w1 ⟨rfl,h2⟩;have h1:=H.o'.ajO h2;clear h2;clear c0 c4 d3 f3 q4;replace H:=hd' h1;clear h1;obtain⟨c0, -, -, -,c4⟩:=H.o'.sx.mc;obtain⟨-, -, -,d3, -, -, -, -, -, -, -⟩:=H.o'.sx.bc;have f3:=H.o'.sx.bf 3 (by omega);have q4:=H.o'.sx.mf.2))
 all_goals try (exfalso;have q:=eq_of_beq (by assumption:(m.aH==1)=true);omega)
 all_goals try (exfalso;have q:=eq_of_beq (by assumption:(m.aH==2)=true);omega)
 all_goals try (exfalso;have q:=eq_of_beq (by assumption:(m.aH==3)=true);omega)
 all_goals try (exfalso;have q:=eq_of_beq (by assumption:(m.aH==6)=true);omega)
 all_goals
  try have e01:(m.aH==1)=true:=cO.2 (by assumption)
  try have e01:(m.aH==1)=false:=aV.2 (by assumption)
  try have V8:(m.aH==2)=true:=cO.2 (by assumption)
  try have V8:(m.aH==2)=false:=aV.2 (by assumption)
  try have V7:(m.aH==3)=true:=cO.2 (by assumption)
  try have V7:(m.aH==3)=false:=aV.2 (by assumption)
  try have V6:(m.aH==6)=true:=cO.2 (by assumption)
  try have V6:(m.aH==6)=false:=aV.2 (by assumption)
  ((go_ret))
  have hv:=aC.lU.eq_1 b m;simp only[*,aC.bR,aC.wh,bools,dY,dM,reduceIte,iL,Int.reduceBEq]at hv
  try (
   have q1:m.aH=1:=eq_of_beq (by assumption);rw[Uo (m:=⟨m.aH,m.ah,m.aA,m.self,rr⟩) q1,acW (m:=⟨m.aH,m.ah,m.aA,m.self,rr⟩) q1,show(m.aH==6)=false from by rw[q1];rfl]at hv
   simp only[Bool.or_self,gQ,dM]at hv)
  rw[hv];refine⟨by(rfl),?_⟩;exact SM.more (by first|(with_reducible first|exact H.o'|exact H.o'.aD _|exact H.o'.aL _ (by assumption)|exact(H.o'.aL _ (by assumption)).aD _|exact(H.o'.head _))|exact H.o'.skip _) (by omega) (by omega)
end
end
section
section
variable {E:BE} {ws w w':af} {c:Nat} {s:Int} {b b':aC} {m m':aO}
theorem BX (h:SM E ws c s b m w) (hc:c<=100000) (hu:b.used+m.aL.size<=9223372036854775807) (hw:b.iJ.size+m.aL.size<=9223372036854775807):Calls prog 39 #[.pointer (some ⟨E.bb,0,none⟩),.pointer (some ⟨E.mb,0,none⟩)] w λr w'=>r= .returned (.bool (b.fE m).2.2)/\SM E ws (c+1) s (b.fE m).1 (b.fE m).2.1 w':=by
 have H:=hd' h;obtain⟨-, -, -,d3, -⟩:=H.o'.sx.bc;have hv:=aC.fE.eq_1 b m;clear h;obtain⟨k,hk⟩: ∃k,k=b.aD:=⟨_,rfl⟩;rw[<-hk]at d3 hv;clear hk;by_cases k0:k=0
 ·subst k0;simp only[Int.reduceEq,dY,dM]at hv;have HV:=hd' hv;clear hv;go_enter uq,uo
  go_wp2_with (go_at_call 59;refine(YT H.o').mono ?_;rintro e w1 ⟨rfl,h1⟩;have H1:=hd' h1;clear h1)
  (go_ret)
  rw[HV.o'];exact⟨rfl,H1.o'⟩
 ·skip;by_cases k1:k=1
  ·subst k1;simp only[Int.reduceEq,dY,dM]at hv;have HV:=hd' hv;clear hv;go_enter uq,uo
   go_wp2_with (go_at_call 60;refine(YU H.o').mono ?_;rintro e w1 ⟨rfl,h1⟩;have H1:=hd' h1;clear h1)
   (go_ret)
   rw[HV.o'];exact⟨rfl,H1.o'⟩
  ·skip;by_cases k2:k=2
   ·subst k2;simp only[Int.reduceEq,dY,dM]at hv;have HV:=hd' hv;clear hv;go_enter uq,uo
    go_wp2_with (go_at_call 61;refine(acK H.o' hu).mono ?_;rintro e w1 ⟨rfl,h1⟩;have H1:=hd' h1;clear h1)
    (go_ret)
    rw[HV.o'];exact⟨rfl,H1.o'⟩
   ·skip;by_cases k3:k=3
    ·subst k3;simp only[Int.reduceEq,dY,dM]at hv;have HV:=hd' hv;clear hv;go_enter uq,uo
     go_wp2_with (go_at_call 62;refine(VJ H.o' hu).mono ?_;rintro e w1 ⟨rfl,h1⟩;have H1:=hd' h1;clear h1)
     (go_ret)
     rw[HV.o'];exact⟨rfl,H1.o'⟩
    ·skip;by_cases k4:k=4
     ·subst k4;simp only[Int.reduceEq,dY,dM]at hv;have HV:=hd' hv;clear hv;go_enter uq,uo
      go_wp2_with (go_at_call 63;refine(zK H.o' hc hu).mono ?_;rintro e w1 ⟨rfl,h1⟩;have H1:=hd' h1;clear h1)
      (go_ret)
      rw[HV.o'];exact⟨rfl,H1.o'⟩
     ·skip;by_cases k5:k=5
      ·subst k5;simp only[Int.reduceEq,dY,dM]at hv;have HV:=hd' hv;clear hv;go_enter uq,uo
       go_wp2_with (go_at_call 64;refine(acI H.o' hu).mono ?_;rintro e w1 ⟨rfl,h1⟩;have H1:=hd' h1;clear h1)
       (go_ret)
       rw[HV.o'];exact⟨rfl,H1.o'⟩
      ·skip;by_cases k6:k=6
       ·subst k6;simp only[Int.reduceEq,dY,dM]at hv;have HV:=hd' hv;clear hv;go_enter uq,uo
        go_wp2_with (go_at_call 65;refine(AL H.o' hc hu hw).mono ?_;rintro e w1 ⟨rfl,h1⟩;have H1:=hd' h1;clear h1)
        (go_ret)
        rw[HV.o'];exact⟨rfl,H1.o'⟩
       ·skip;by_cases k7:k=7
        ·subst k7;simp only[Int.reduceEq,dY,dM]at hv;have HV:=hd' hv;clear hv;go_enter uq,uo
         go_wp2_with (go_at_call 66;refine(Sa H.o' hc hu).mono ?_;rintro e w1 ⟨rfl,h1⟩;have H1:=hd' h1;clear h1)
         (go_ret)
         rw[HV.o'];exact⟨rfl,H1.o'⟩
        ·skip;by_cases k8:k=8
         ·subst k8;simp only[Int.reduceEq,dY,dM]at hv;have HV:=hd' hv;clear hv;go_enter uq,uo
          go_wp2_with (go_at_call 67;refine(R9 H.o' hc hu).mono ?_;rintro e w1 ⟨rfl,h1⟩;have H1:=hd' h1;clear h1)
          (go_ret)
          rw[HV.o'];exact⟨rfl,H1.o'⟩
         ·skip;by_cases k9:k=9
          ·subst k9;simp only[Int.reduceEq,dY,dM]at hv;have HV:=hd' hv;clear hv;go_enter uq,uo
           go_wp2_with (go_at_call 68;refine(acJ H.o' hc hu hw).mono ?_;rintro e w1 ⟨rfl,h1⟩;have H1:=hd' h1;clear h1)
           (go_ret)
           rw[HV.o'];exact⟨rfl,H1.o'⟩
          ·skip;by_cases k10:k=10
           ·subst k10;simp only[Int.reduceEq,dY,dM]at hv;have HV:=hd' hv;clear hv;go_enter uq,uo
            go_wp2_with (go_at_call 69;refine(afD H.o' hc hu hw).mono ?_;rintro e w1 ⟨rfl,h1⟩;have H1:=hd' h1;clear h1)
            (go_ret)
            rw[HV.o'];exact⟨rfl,H1.o'⟩
           ·skip;by_cases k11:k=11
            ·subst k11;simp only[Int.reduceEq,dY,dM]at hv;have HV:=hd' hv;clear hv;go_enter uq,uo
             go_wp2_with (go_at_call 70;refine(acL H.o' hc hu).mono ?_;rintro e w1 ⟨rfl,h1⟩;have H1:=hd' h1;clear h1)
             (go_ret)
             rw[HV.o'];exact⟨rfl,H1.o'⟩
            ·skip;have e0:(k==0)=false:=aV.2 k0;have e1:(k==1)=false:=aV.2 k1;have e2:(k==2)=false:=aV.2 k2;have e3:(k==3)=false:=aV.2 k3;have e4:(k==4)=false:=aV.2 k4;have e5:(k==5)=false:=aV.2 k5;have e6:(k==6)=false:=aV.2 k6;have e7:(k==7)=false:=aV.2 k7;have e8:(k==8)=false:=aV.2 k8;have e9:(k==9)=false:=aV.2 k9;have e10:(k==10)=false:=aV.2 k10;have e11:(k==11)=false:=aV.2 k11;simp only[k0,k1,k2,k3,k4,k5,k6,k7,k8,k9,k10,k11,dM]at hv;clear k0 k1 k2 k3 k4 k5 k6 k7 k8 k9 k10 k11;have HV:=hd' hv;clear hv;go_enter uq,uo
             go_wp2_with (go_at_call 71;refine(YV H.o' hc hu).mono ?_;rintro e w1 ⟨rfl,h1⟩;have H1:=hd' h1;clear h1)
             (go_ret)
             rw[HV.o'];exact⟨rfl,H1.o'⟩
end
end
section
theorem Zl (s:ae) (w:af) (hs:s.size<=maxLen) :
 Calls prog 98 #[.string s] w λe w'=>e= .returned (.string ⟨(kK s.toList).toArray⟩)/\Below w.heap.size w w':=by
 obtain⟨c,W,Nh,hb,hsz,hrow,hcc⟩:=wG (P:=prog) w 9 73 5 s jK yC qC;have hsl:=aR s;unfold maxLen at hs;have HB:=hd' hb;have HR:=hd' hrow;have HZ:=hd' hsz;have HL:=hd' hsl;clear hb hrow hsz hsl;go_enter func98,ntmps98
 go_wp2
 go_loopw [10] (λi wr=> ∃k:Nat,k<=s.size/\i= .int .i64 k/\Below w.heap.size w wr/\w.heap.size<wr.heap.size/\Row wr w.heap.size (bZ (ny k s.toList))) (λi _=>s.size-(intOf i).toNat)
 case atStart=>exact⟨0,bD _,rfl,HB.o',by rw[HZ.o'];omega,by rw[Dk];exact HR.o'⟩
 case round =>
  obtain⟨k,hk,rfl,hb,hz,hr⟩:=hrel;clear Nh HB HR HZ;by_cases hlt:k<s.size
  ·have hkl:k<s.toList.length:=by rw[HL.o'];exact hlt
   obtain⟨x,hx⟩: ∃x:Nat,x=s.toList[k].toNat:=⟨_,rfl⟩;have hx255:x<=255:=by have:=s.toList[k].toNat_lt;omega
   have hcell:wr.cell? ⟨w.heap.size,k,none⟩=some (.int .u8 x):=by rw[hx];exact hr.cell (tY k _ hkl)
   have hfz:wr.frozen? ⟨w.heap.size,k,none⟩=false:=hr.frozen (by rw[dP,qc];exact hkl);have hl:=Gv s.toList[k];rw[<-hx]at hl;have HX:=hd' hl;have Hl:=hd' hx;have HB:=hd' hb;have HR:=hd' hr;clear hl hx hb hr;go_wp2
   ·go_roundw
    case rel =>
     exact⟨k+1,by omega,by go_num,HB.o'.setCell (ay _) _,by rw[pK];exact hz,by
      rw[<-lK k _ hkl (.int .u8 (x+32)) (by rw[HX.o',au ⟨by assumption,by assumption⟩])]
      exact HR.o'.set k _⟩
    case measure=>simp[intOf];omega
   ·go_roundw
    case rel=>exact⟨k+1,by omega,by go_num,HB.o',hz,by rw[<-kv k _ hkl (by rw[HX.o',aj (by omega),Hl.o'])];exact HR.o'⟩
    case measure=>simp[intOf];omega
   ·go_roundw
    case rel=>exact⟨k+1,by omega,by go_num,HB.o',hz,by rw[<-kv k _ hkl (by rw[HX.o',aj (by omega),Hl.o'])];exact HR.o'⟩
    case measure=>simp[intOf];omega
  ·obtain rfl:k=s.size:=by omega
   have hback:=uQ (P:=prog) wr 73 9 5 w.heap.size c (ny s.size s.toList) s.size (by rw[qc,HL.o']) yC qC jK hr;have HB:=hd' hb;clear hb hr;go_wp2
   go_ret;refine⟨mI ?_,HB.o'⟩;rw[<-HL.o',Gs]
theorem abS (s:ae):(⟨(kK s.toList).toArray⟩:ae)=aC.LY s:=rfl
section
variable {E:BE} {ws w w':af} {c:Nat} {s:Int} {b b':aC} {m m':aO}
theorem Vl (h:Ok c s b) (x:Int):(bq b.S.T x).size<=maxLen:=(uN h.at' x).1
theorem RQ (m:aO) (b:aC) (l:List Int) (k:Nat) (h:k+1<l.length):aC.gX m b (l.take (k+2)).reverse =
 if aX b.S.T l[k+1]=0 then b.fE m
 else if(aC.LY (bq b.S.T l[k+1])).toList=m.ah.toList then(b.ui l[k+1],m,false)
 else aC.gX m b (l.take (k+1)).reverse:=by
 have h1:(l.take (k+2)).reverse=l[k+1]::(l.take (k+1)).reverse:=by rw[jL h,pO,xe,xc]
 have h2:(l.take (k+1)).reverse=l[k]::(l.take k).reverse:=by rw[jL (show k<l.length by omega),pO,xe,xc]
 rw[h1,h2,aC.gX]
theorem Vx (m:aO) (b:aC) (l:List Int) (k:Nat) (h:k<=1):aC.gX m b (l.take k).reverse=(b,m,false):=by
 cases l with
 |nil=>simp[aC.gX]
 |cons x r =>
  rcases Nat.le_one_iff_eq_zero_or_eq_one.1 h with rfl|rfl
  ·simp[aC.gX]
  ·simp[aC.gX]
theorem SQ (m:aO):(aC.bR m).aA=m.aA:=by unfold aC.bR;split <;>rfl
theorem uW {p:Prop} [Decidable p] {r q:aC×aO} {l:List dD} (h1:r.2.aA=l) (h2:q.2.aA=l):(if p then r else q).2.aA=l:=by
 by_cases h:p
 ·rw[au h];exact h1
 ·rw[aj h];exact h2
theorem bO {p:Prop} [Decidable p] {r q:aC×aO×Bool} {l:List dD} (h1:r.2.1.aA=l) (h2:q.2.1.aA=l):(if p then r else q).2.1.aA=l:=by
 by_cases h:p
 ·rw[au h];exact h1
 ·rw[aj h];exact h2
theorem U6 (b:aC) (m:aO):(b.opens m).2.aA=m.aA:=by
 rw[aC.opens.eq_1];refine uW rfl (uW rfl (uW rfl (uW rfl (uW rfl (uW rfl (uW rfl (uW ?_ (uW rfl (uW rfl rfl)))))))));show(if m.ah.toList==([105,109,97,103,101]:List ax)then({m with ah:=(⟨#[105,109,103]⟩:ae)}:aO)else m).aA=m.aA;split <;>rfl
theorem wJ (b:aC) (m:aO):(b.eO m).2.1.aA=m.aA:=by
 unfold aC.eO;exact bO rfl (bO (U6 b m) (bO rfl rfl))
theorem Tc (b:aC) (m:aO):(b.uf m).2.1.aA=m.aA:=wJ _ m
theorem yY (b:aC) (m:aO):(b.iE m).2.1.aA=m.aA:=by
 unfold aC.iE;exact bO rfl (bO rfl (bO rfl (bO rfl (bO rfl (bO rfl (bO (bO rfl rfl) (bO rfl (bO rfl (bO rfl (Tc b m))))))))))
theorem Uu (b:aC) (m:aO):(b.fE m).2.1.aA=m.aA:=by
 have hb:=SQ m;unfold aC.fE;refine bO ?_ (bO ?_ (bO ?_ (bO ?_ (bO (wJ b m) (bO ?_ (bO (yY b m) (bO ?_ (bO ?_ (bO ?_ (bO ?_ (bO ?_ ?_)))))))))))
 ·unfold aC.oh;simp only;exact bO hb (bO hb (bO hb hb))
 ·unfold aC.om;simp only;exact bO hb (bO hb (bO hb hb))
 ·unfold aC.rU;simp only;exact bO hb (bO hb (bO hb (bO hb (bO hb hb))))
 ·unfold aC.kE;simp only;exact bO hb (bO hb (bO hb (bO hb (bO hb hb))))
 ·unfold aC.qf;exact bO rfl rfl
 ·unfold aC.iW;exact bO (bO rfl rfl) (bO rfl (wJ b m))
 ·unfold aC.iV;simp only;exact bO hb (bO hb (bO hb (bO hb hb)))
 ·unfold aC.oM;simp only;exact bO (bO rfl rfl) (bO (bO rfl rfl) (bO (bO rfl rfl) (bO rfl (yY b m))))
 ·unfold aC.uj;exact bO rfl (bO rfl (bO (bO rfl rfl) (bO rfl (yY b m))))
 ·unfold aC.oN;exact bO (bO rfl rfl) (bO (bO rfl rfl) (bO rfl (bO (bO rfl rfl) (wJ b m))))
 ·unfold aC.lU;simp only;exact bO hb (bO hb hb)
theorem acB (h:SM E ws c s b m w) (hc:c<=100000) (hu:b.used+m.aL.size<=9223372036854775807) (hw:b.iJ.size+m.aL.size<=9223372036854775807):Calls prog 58 #[.pointer (some ⟨E.bb,0,none⟩),.pointer (some ⟨E.mb,0,none⟩)] w λr w'=>r= .returned (.bool (aC.gX m b b.S.l.reverse).2.2)/\SM E ws (c+1) s (aC.gX m b b.S.l.reverse).1 (aC.gX m b b.S.l.reverse).2.1 w':=by
 have H:=hd' h;have hlen:=H.o'.ok.len.1;obtain⟨-,d1, -⟩:=H.o'.sx.bc;have ze:=hd' (Te H.o');have HNS:=hd' (Vl H.o'.ok);obtain⟨l,hL⟩: ∃l,l=b.S.l:=⟨_,rfl⟩;have HLB:=hd' hL;rw[<-hL]at hlen ze |-;have HV:Hid (aC.gX m b l.reverse=aC.gX m b (l.take l.length).reverse):=hd' (by rw[iH (ay _)]);generalize aC.gX m b l.reverse=Q0 at *;clear h hL;go_enter func58,ntmps58
 go_wp2_with (go_at_call 97;refine ze.o'.mono ?_;rintro e w1 ⟨v,rfl,ho,hb,h1⟩;obtain⟨va,vc,rfl,hv1,hv2,hv3,hat⟩:=fJ ho;have H1:=hd' (H.o'.wide hb);have HA:=hd' (Uv H.o' hb ho hat);have HB:=hd' hb;clear ho hb h1 hat hv3)
 have HU:Hid (∀b1 u,SM (E.wide w.heap.size w1.heap.size) w1 c s b1 m u->SM E ws c s b1 m u):=hd' λb1 u hu=>H.o'.Xt HB.o' hu rfl
 have HC:Hid (∀b1 u,SM (E.wide w.heap.size w1.heap.size) w1 c s b1 m u->u.cell? ⟨E.bb,0,none⟩=some (.pointer (some ⟨E.tb,0,none⟩))/\u.cell? ⟨E.bb,1,none⟩=some (.pointer (some ⟨E.sb,0,none⟩))/\u.cell? ⟨E.mb,1,none⟩=some (.string m.ah)):=hd' λb1 u hu=>⟨hu.sx.bc.1,hu.sx.bc.2.1,hu.sx.mc.2.1⟩
 have HWh:Hid (∀b1 u x,SM (E.wide w.heap.size w1.heap.size) w1 c s b1 m u->Calls prog 41 #[.pointer (some ⟨E.tb,0,none⟩),.int .i64 x] u λr w'=> ∃v,r= .returned (.tuple #[.int .i64 (aX b1.S.T x),.string (bq b1.S.T x),v])/\SM (E.wide w.heap.size w1.heap.size) w1 c s b1 m w'):=hd' λb1 u x hu=>(Ku hu x).mono λ_ _ ⟨v,hr,_,_,hs⟩=>⟨v,hr,hs⟩
 have HRu:Hid (∀u,SM (E.wide w.heap.size w1.heap.size) w1 c s b m u->Calls prog 39 #[.pointer (some ⟨E.bb,0,none⟩),.pointer (some ⟨E.mb,0,none⟩)] u λr w'=>r= .returned (.bool (b.fE m).2.2)/\SM E ws (c+1) s (b.fE m).1 (b.fE m).2.1 w'):=hd' λu hs=>(BX hs hc hu hw).mono λ_ _ ⟨hr,hx⟩=>⟨hr,H.o'.Xt HB.o' hx (Uu b m)⟩
 have HPo:Hid (∀b1 u,SM (E.wide w.heap.size w1.heap.size) w1 c s b1 m u->Calls prog 56 #[.pointer (some ⟨E.sb,0,none⟩)] u λr w'=>r= .returned (.int .i64 b1.top)/\SM (E.wide w.heap.size w1.heap.size) w1 c s b1.pop m w'):=hd' λb1 u hu=>vS hu
 have HAk:Hid (∀b1 u,SM (E.wide w.heap.size w1.heap.size) w1 c s b1 m u->rX (OM (E.wide w.heap.size w1.heap.size)) u va (bB l)):=hd' λb1 u hu=>HA.o'.kept hu.sx.keep
 have Xa:Hid (∀b1 u,SM (E.wide w.heap.size w1.heap.size) w1 c s b1 m u->SM (E.wide w.heap.size w1.heap.size) w1 c s b1 m u.drew):=hd' λb1 u hu=>hu.drew
 have HWo:Hid (∀b1 u u',SM (E.wide w.heap.size w1.heap.size) w1 c s b1 m u->Below u.heap.size u u'->SM (E.wide w.heap.size w1.heap.size) w1 c s b1 m u'):=hd' λb1 u u' hu hb=>hu.world hb
 generalize SM (E.wide w.heap.size w1.heap.size) w1 c s=SS at *;go_loopw [6] (λi wr=> ∃k:Nat,k<=l.length/\i= .int .i64 ((k:Int)-1)/\Hid (SS b m wr)/\Hid (Q0=aC.gX m b (l.take k).reverse)) (λi _=>(intOf i+1).toNat)
 case atStart=>exact⟨l.length,ay _,rfl,H1,HV⟩
 case round =>
  obtain⟨k,hk,rfl,HR,KJ⟩:=hrel;by_cases hk1:k<=1
  ·have HE:=hd' (Vx m b l k hk1);have hi: ¬(0:Int)<(k:Int)-1:=by omega
   clear hk hk1;go_wp2_with fail
   go_ret;rw[KJ.o',HE.o'];exact⟨rfl,(HU.o' _ _ HR.o').more (by omega) (by omega)⟩
  ·obtain⟨k,rfl⟩: ∃j,k=j+2:=⟨k-2,by omega⟩;clear hk1;have hlt:k+1<l.length:=by omega
   obtain⟨bb,o,rfl⟩:=HA.o'.at.tq (by intro h;have:=aW List.length h;rw[eu,kQ]at this;omega);have hx:=(HAk.o' _ _ HR.o').at.get (fw l (k+1) hlt);have e1:((k+2:Nat):Int)-1=((k+1:Nat):Int):=by omega
   rw[e1];obtain⟨d0, -⟩:=HC.o' _ _ HR.o';have HST:=hd' (RQ m b l k hlt);have HXl:=hd' (show l[k+1]∈l from kH hlt);obtain⟨j,hj⟩: ∃j,j=k+1:=⟨_,rfl⟩;obtain⟨x,Sb⟩: ∃x,x=l[k+1]:=⟨_,rfl⟩;rw[<-Sb]at hx HST HXl
   have HG:Hid (∀b1 u,SS b1 m u->u.cell? ⟨bb,o+(k+1),none⟩=some (.int .i64 x)):=hd' λb1 u hu=>by
    rw[Sb];exact(HAk.o' _ _ hu).at.get (fw l (k+1) hlt)
   rw[<-hj]at hx HG e1 |-;have HJ:=hd' hj;have hjl:j<l.length:=by omega
   have hj0:(0:Int)<(j:Int):=by omega
   have hnx:=HNS.o' x;have HW:=hd' (HWh.o' b wr.drew x (Xa.o' _ _ HR.o'));clear Sb hj hlt hk e1;go_wp2_with fail
   go_region_law (first
    |(go_simp;go_at_call 41;refine HW.o'.mono ?_
      rintro e w2 ⟨v,rfl,h2⟩;have H2:=hd' h2
      clear h2))
   all_goals
    try simp only[Act.put,jA,jC,jB,dV,dF,dK]
    clear HW;have HSm:=hd' (λu=>Zl (bq b.S.T x) u hnx);rw[abS]at HSm;generalize aX b.S.T x=xs at *;generalize bq b.S.T x=xn at *;generalize aC.LY xn=sx at *;obtain⟨-,d1',g1⟩:=HC.o' _ _ H2.o';by_cases hx0:xs=0
    ·subst hx0;have hst:=HST.o';rw[au rfl]at hst;have HQ:Hid (Q0=b.fE m):=hd' (by rw[KJ.o',hst]);clear hst HST;go_wp2_with (go_at_call 39;refine(HRu.o' _ H2.o').mono ?_;rintro e w3 ⟨rfl,h3⟩;have H3:=hd' h3;clear h3)
     (go_ret)
     rw[HQ.o'];exact⟨rfl,H3.o'⟩
    ·have hx1:(xs==0)=false:=aV.2 hx0;have hst:=HST.o';rw[aj hx0]at hst;have ajh:=hd' hst;clear hx0 hst HST;have q1:w2.drew.cell? ⟨E.mb,1,none⟩=some (.string m.ah):=g1;have HSd:=hd' (HSm.o' w2.drew);by_cases hsn:sx.toList=m.ah.toList
     ·have hst:=ajh.o';rw[au hsn]at hst;have HQ:Hid (Q0=(b.ui x,m,false)):=hd' (by rw[KJ.o',hst]);have HX:Hid (x∈b.S.l):=hd' (HLB.o'▸HXl.o');clear hst ajh;go_wp2_with fail
      go_region_held3 (λu=>u.cell? ⟨E.mb,1,none⟩=some (.string m.ah))
       (first|exact q1|exact p1)
       ((go_at_call 98;refine HSd.o'.mono ?_;rintro e w5 ⟨rfl,hb5⟩;have p1:=aM hb5 q1;have H5:=hd' (HWo.o' _ _ _ (Xa.o' _ _ H2.o') hb5);clear hb5))
      all_goals
       try simp only[Act.put,jA,jC,jB,dV,dF,dK]
       go_wp2_with fail
       go_loopg [] b.S.l.length (λn w6=>Hid (∃L:List Int,L.length=n/\SS (b.oP L) m w6/\x∈L/\b.ui x=(b.oP L).ui x))
       case atStart=>exact hd' ⟨b.S.l,rfl,H5.o',HX.o',rfl⟩
       case round =>
        obtain⟨L,hL1,hL2,hL3,hL4⟩:=hrel.o';obtain⟨L0,y,rfl⟩:=Vr hL3;have HLa:=hd' hL1;have HLb:=hd' hL2;have HLc:=hd' hL3;have HLd:=hd' hL4;clear hL1 hL2 hL3 hL4
        rename af=>wz
        have htop:aC.top (b.oP (L0++ [y]))=y:=by show((L0++ [y]).getLast?.getD 0)=y;simp
        have VM:aC.pop (b.oP (L0++ [y]))=b.oP L0:=by unfold aC.pop;show b.oP ((L0++ [y]).dropLast)=_;simp
        have HP:=hd' (HPo.o' _ _ (Xa.o' _ _ HLb.o'));rw[htop,VM]at HP;clear htop VM;have r1:=(HC.o' _ _ (Xa.o' _ _ HLb.o')).2.1;have r0:=HG.o' _ _ (Xa.o' _ _ HLb.o');by_cases hyx:y=x
        ·subst hyx;go_wp2_with fail
         go_region_held3 (λu=>u.cell? ⟨E.bb,1,none⟩=some (.pointer (some ⟨E.sb,0,none⟩))/\u.cell? ⟨bb,o+j,none⟩=some (.int .i64 y))
          (first|exact⟨r1,r0⟩|exact⟨t1,t0⟩)
          ((go_at_call 56;refine HP.o'.mono ?_;rintro e w7 ⟨rfl,h7⟩;have t1:=(HC.o' _ _ h7).2.1;have t0:=HG.o' _ _ h7;have H7:=hd' h7;clear h7))
         all_goals
          try simp only[Act.put,jA,jC,jB,dV,dF,dK]
          go_wp2_with fail
          (go_ret)
          rw[HQ.o',HLd.o',Mt];exact⟨rfl,(HU.o' _ _ H7.o').more (by omega) (by omega)⟩
        ·have hyb:(y !=x)=true:=by simpa using hyx
         have HM:=hd' (Ms b L0 hyx)
         have Ty:Hid (x∈L0):=hd' (by
          rcases fB.1 HLc.o' with h|h
          ·exact h
          ·exact absurd (dG.1 h).symm hyx)
         clear hyx;go_wp2_with fail
         go_region_held3 (λu=>u.cell? ⟨E.bb,1,none⟩=some (.pointer (some ⟨E.sb,0,none⟩))/\u.cell? ⟨bb,o+j,none⟩=some (.int .i64 x))
          (first|exact⟨r1,r0⟩|exact⟨t1,t0⟩)
          ((go_at_call 56;refine HP.o'.mono ?_;rintro e w7 ⟨rfl,h7⟩;have t1:=(HC.o' _ _ h7).2.1;have t0:=HG.o' _ _ h7;have H7:=hd' h7;clear h7))
         all_goals
          try simp only[Act.put,jA,jC,jB,dV,dF,dK]
          go_wp2_with fail
          go_roundg L0.length
          case measure=>have:=HLa.o';rw[fC,sS]at this;omega
          case rel=>exact hd' ⟨L0,rfl,H7.o',Ty.o',by rw[HLd.o',HM.o']⟩
     ·have hst:=ajh.o';rw[aj hsn]at hst;have HQ:Hid (Q0=aC.gX m b (l.take j).reverse):=hd' (by rw[KJ.o',hst,HJ.o']);have hsf:(sx.toList==m.ah.toList)=false:=by simpa using hsn
      clear hst ajh;go_wp2_with fail
      go_region_held3 (λu=>u.cell? ⟨E.mb,1,none⟩=some (.string m.ah))
       (first|exact q1|exact p1)
       ((go_at_call 98;refine HSd.o'.mono ?_;rintro e w5 ⟨rfl,hb5⟩;have p1:=aM hb5 q1;have H5:=hd' (HWo.o' _ _ _ (Xa.o' _ _ H2.o') hb5);clear hb5))
      all_goals
       try simp only[Act.put,jA,jC,jB,dV,dF,dK]
       go_wp2_with fail
       go_roundw
       case rel=>exact⟨j,by omega,by go_num,H5,HQ⟩
       case measure=>simp[intOf]
end
end
section
section
variable (ah:ae) (aA:List dD) (a:Option Addr) (c:Nat) (self:Bool) (aL:ae) (w:af)
theorem Ws (hin:tQ zT ah=true) :
 Calls prog 55 #[nC 2 ah a aA.length c self aL] w λe w'=>e= .returned (.bool (kL 2 ah aA))/\Below w.heap.size w w':=by
 have HP:Hid (kL 2 ah aA=true):=by show _=_;rw[kL,aj (by decide),au rfl,hin];rfl
 have h:=zJ hin;clear hin;simp only[zT,dS,mY,nO,oF]at h;rcases h with h|h|h|h|h|h|h|h|h|h|h|h|h|h|h|h|h|h|h|h|h|h|h|h|h|h|h|h|h|h|h|h|h|h|h|h|h|h|h|h|h|h|h|h
 all_goals
  as_aux_lemma =>
   go_enter Ig,Hz
   go_wp2_with fail
   go_ret;exact⟨bJ HP.o'.symm,(aQ _ _).alloc (ay _) _⟩
theorem Zn (aH:Int) (hl:aA.length<=maxLen) (ha:At w a (bz aA)) :
 Calls prog 55 #[nC aH ah a aA.length c self aL] w λe w'=>e= .returned (.bool (kL aH ah aA))/\Below w.heap.size w w':=by
 by_cases h3:aH=3
 ·subst h3;exact Zm ah aA a c self aL w
 ·by_cases h2:aH=2
  ·subst h2;cases hin:tQ zT ah
   ·by_cases hf:ah.toList=([102,111,110,116]:List ax)
    ·exact Wt ah aA a c self aL w hin hf hl ha
    ·exact ac9 ah aA a c self aL w hin (by simpa using hf)
   ·exact Ws ah aA a c self aL w hin
  ·exact Wq ah aA a c self aL w aH (by simpa using h3) (by simpa using h2)
end
end
end Go.Proofs.YtnlbcifhedjbfaaGreatDoor
