/- Texts joined for a claim: CuPw: plain laws and contracts. No conditions beyond those that each lemma types. -/
import Derived.Test.YtgepobccoffnaaaGreatDoorQ44
import Derived.Test.YtgepobccoffnaaaGreatDoorQ45
set_option linter.unusedVariables false
set_option linter.unusedSimpArgs false
set_option maxRecDepth 100000
set_option maxHeartbeats 8000000
namespace Go.Proofs.YtgepobccoffnaaaGreatDoor
open Go.RowKit Mem
theorem dot_app (s:ByteArray):(⟨#[46]⟩++s:ByteArray).toList=46::s.toList:=by
 rw[ByteArray.toList_eq,ByteArray.data_append,Array.toList_append,ByteArray.toList_eq]
 rfl
theorem dot_read (s:ByteArray):Rd.putF false (⟨#[46]⟩++s:ByteArray).toList=46::Rd.putF false s.toList:=by
 rw[dot_app,Rd.putF_char (by decide) (by decide)]
 rfl
theorem at_cellsP {w:World} {X:Nat} {cur:Array Value} {e:TypeId} (h:w.heap[X]?=some (.cells cur e (0,0))):AtF Non w (some ⟨X,0,none⟩) cur.toList:=fun j u hj =>
 let⟨b,o,ha,hc⟩:=(Row.at (show Row w X cur.toList from⟨cur,e,0,0,h,List.take_length,.inr rfl⟩)) j u hj
 ⟨b,o,ha,fun h=>h,hc⟩
theorem want_node {w:World} (X:Nat) {t:ByteArray} (hX:w.heap[X]?=some (.cells #[.int .i64 2,.int .i64 0,.string ⟨#[]⟩,.slice none 0 0,.string t,.slice none 0 0] 26 (0,0))) (Y:Nat)
 (hY:w.heap[Y]?=some (.cells #[.int .i64 1,.int .i64 0,.string (⟨#[104,101,97,100]⟩:ByteArray),.slice none 0 0,.string ⟨#[]⟩,.slice none 0 0,.int .i64 1,.int .i64 0,.string (⟨#[98,111,100,121]⟩:ByteArray),.slice none 0 0,.string ⟨#[]⟩,.slice (some ⟨X,0,none⟩) 1 1] 26 (0,0))) :
 NodeC Non w (nodeV 1 0 (⟨#[104,116,109,108]⟩:ByteArray) none 0 0 ⟨#[]⟩ (some ⟨Y,0,none⟩) 2 2) (plainT t):=by
 have h0: ∀k s nm tx,NodeC Non w (nodeV k s nm none 0 0 tx none 0 0) (.mk k s nm [] tx []):=fun k s nm tx =>
  NodeC.mk (kids:= []) (attrs:= []) [] (Nat.le_refl _) (Nat.zero_le _) (fun _=>rfl) (fun j u hj=>by simp[pairsV]at hj) (Nat.le_refl _) (Nat.zero_le _) (fun _=>rfl) (fun j u hj=>by simp at hj) rfl (fun i h=>by simp at h)
 have hb:NodeC Non w (nodeV 1 0 (⟨#[98,111,100,121]⟩:ByteArray) none 0 0 ⟨#[]⟩ (some ⟨X,0,none⟩) 1 1) (.mk 1 0 (⟨#[98,111,100,121]⟩:ByteArray) [] ⟨#[]⟩ [.mk 2 0 ⟨#[]⟩ [] t []]):=by
  refine NodeC.mk (kids:= [.mk 2 0 ⟨#[]⟩ [] t []]) (attrs:= []) [nodeV 2 0 ⟨#[]⟩ none 0 0 t none 0 0] (Nat.le_refl _) (Nat.zero_le _) (fun _=>rfl) (fun j u hj=>by simp[pairsV]at hj) (Nat.le_refl _) (by decide) (fun h=>by cases h) (at_cellsP hX) rfl fun i h h'=> ?_
  cases i with
  |zero=>exact h0 _ _ _ _
  |succ i=>simp at h
 refine NodeC.mk (kids:= [.mk 1 0 (⟨#[104,101,97,100]⟩:ByteArray) [] ⟨#[]⟩ [],.mk 1 0 (⟨#[98,111,100,121]⟩:ByteArray) [] ⟨#[]⟩ [.mk 2 0 ⟨#[]⟩ [] t []]]) (attrs:= []) [nodeV 1 0 (⟨#[104,101,97,100]⟩:ByteArray) none 0 0 ⟨#[]⟩ none 0 0,nodeV 1 0 (⟨#[98,111,100,121]⟩:ByteArray) none 0 0 ⟨#[]⟩ (some ⟨X,0,none⟩) 1 1] (Nat.le_refl _) (Nat.zero_le _) (fun _=>rfl) (fun j u hj=>by simp[pairsV]at hj) (Nat.le_refl _) (by decide) (fun h=>by cases h) (at_cellsP hY) rfl fun i h h'=> ?_
 match i,h with
 |0,_=>exact h0 _ _ _ _
 |1,_=>exact hb
theorem lawBuildPlain (s:ByteArray) (w:World) (hs:s.size≤1048576) :
 Calls Tryz.prog 4 #[.string s] w fun e w'=>e= .returned (.bool true)∧Below w.heap.size w w':=by
 have HS:=Lib.hid (shown17_any w)
 have hul:=Rd.putF_len s.toList false
 have hok:Rd.OkB (46::Rd.putF false s.toList):=by rw[←dot_read];exact Rd.putF_ok _ _
 have hR:=fun W=>Rd.Read_any (⟨#[46]⟩++s:ByteArray) W (by rw[ByteArray.size_append];show 1+s.size≤_;omega)
 rw[dot_read]at hR
 rw[size_toList]at hul
 obtain⟨u,hu⟩: ∃u,u=Rd.putF false s.toList:=⟨_,rfl⟩
 rw[←hu]at hul hok hR
 have hE:=fun W=>Rd.Escape12_any (Rd.strB (46::u)) false W (by rw[Rd.strB_size,List.length_cons];omega)
 rw[Rd.toList_strB]at hE
 have hB:=plain_B u hok (by omega)
 obtain⟨t,ht⟩: ∃t,t=Rd.strB (46::u):=⟨_,rfl⟩
 obtain⟨x,hx⟩: ∃x,x=Rd.strB (Rd.escS false (46::u)):=⟨_,rfl⟩
 rw[←ht]at hR hE hB
 rw[←hx]at hE hB
 have HR:=Lib.hid hR
 have HE:=Lib.hid hE
 have HB:=Lib.hid hB
 have hno: ¬9223372036854775807<1+s.size:=by omega
 clear hR hE hB hok ht hx hu hul
 go_enter Tryz.func4,Tryz.ntmps4
 go_wp2_with fail
 refine HS.out.mono ?_
 rintro e w1 ⟨rfl,hb1⟩
 have HB1:=Lib.hid hb1
 clear hb1
 dsimp only
 go_wp2_with fail
 refine(HR.out w1).mono ?_
 rintro e w2 ⟨rfl,hb2⟩
 have HB2:=Lib.hid (belowCall HB1.out hb2)
 clear hb2
 dsimp only
 go_wp2_with fail
 refine(HE.out w2).mono ?_
 rintro e w3 ⟨rfl,hb3⟩
 have HB3:=Lib.hid (belowCall HB2.out hb3)
 clear hb3
 dsimp only
 go_wp2_with fail
 refine(HB.out w3).mono ?_
 rintro e w4 ⟨cs,rfl,hn4,hb4⟩
 obtain⟨f0,f1,f2,f3,f4,f5,f6,f7,f8,f9,rfl⟩:=nodeC_form hn4
 have HN4:=Lib.hid (hn4.other (G:=Non) fun _ _ hx=>hx.elim)
 have HB4:=Lib.hid (belowCall HB3.out hb4)
 clear hb4 hn4
 dsimp only[nodeV]
 go_wp2_with fail
 refine(nsame_any 1048576 (plainT t) (plainT t) _ (nodeV f0 f1 f2 f3 f4 f5 f6 f7 f8 f9) (nodeV 1 0 (⟨#[104,116,109,108]⟩:ByteArray) none 0 0 ⟨#[]⟩ (some ⟨w4.heap.size+1+1,0,none⟩) 2 2) ?_ ?_ ?_).mono ?_
 ·rw[show ntCount (plainT t)=4 by kernel_rfl];decide
 ·exact HN4.out.kept (((((Keeps.refl _ _).alloc _).alloc _).alloc _).alloc _)
 ·refine want_node (w4.heap.size+1) ?_ (w4.heap.size+1+1) ?_
  ·rw[Below.heap_alloc _ _ _ (by simp),Below.heap_alloc _ _ _ (by simp)]
   exact heap_new_at (by simp)
  ·rw[Below.heap_alloc _ _ _ (by simp)]
   exact heap_new_at (by simp)
 ·rintro e w6 ⟨rfl,hb6⟩
  rw[sameB_yes]
  have HB6:=Lib.hid (belowCall ((((HB4.out.alloc HB4.out.size _).alloc (Nat.le_trans HB4.out.size (by simp)) _).alloc (Nat.le_trans HB4.out.size (by simp;omega)) _).alloc (Nat.le_trans HB4.out.size (by simp;omega)) _) hb6)
  clear hb6
  dsimp only
  go_wp2_with fail
  go_ret
  exact⟨rfl,HB6.out⟩
end Go.Proofs.YtgepobccoffnaaaGreatDoor
