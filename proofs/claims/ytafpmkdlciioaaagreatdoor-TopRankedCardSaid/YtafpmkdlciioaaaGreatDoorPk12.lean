import Derived.Test.YtafpmkdlciioaaaGreatDoorPk11
import Derived.Test.YtafpmkdlciioaaaGreatDoorPk09
import Derived.Test.YtafpmkdlciioaaaGreatDoorPk04
set_option maxHeartbeats 16000000
set_option maxRecDepth 100000
namespace Go.Proofs.YtafpmkdlciioaaaGreatDoor
open Go.RowKit
theorem callsT_pos:∀ b,1≤callsT b
 | 0=>Nat.le_refl _
 | b+1=>by rw [callsT];omega
theorem covK_nil (C:Nat) (Ns L:List Nat) (k0:Nat):∀ b,covK C Ns L k0 b []=true
 | 0=>rfl
 | b+1=>by rw [covK,if_pos rfl]
theorem covK_step {C:Nat} {Ns L:List Nat} {k0 b:Nat} {o:List (Nat×Nat)} {c:Nat×Nat} (h0:o≠[]) (hg:¬ (b+1)*gainM C Ns L o < o.length) (hc:pickK (arK C Ns L k0) o none=some c) :
  covK C Ns L k0 (b+1) o=(arK C Ns L k0 c).any fun k=>covK C Ns L k0 b (lessL C Ns o (L.getD k 0)):=by
 rw [covK,if_neg h0,if_neg hg,hc]
theorem covK_full {C:Nat} {Ns L:List Nat} {k0 b:Nat} {o:List (Nat×Nat)} (h0:o≠[]) (hg:(b+1)*gainM C Ns L o < o.length):covK C Ns L k0 (b+1) o=false:=by
 rw [covK,if_neg h0,if_pos hg]
theorem any_drop {α:Type} {l:List α} {t:Nat} {x:α} (f:α→Bool) (h:l[t]?=some x):(l.drop t).any f=(f x||(l.drop (t+1)).any f):=by
 obtain ⟨h1,rfl⟩:=List.getElem?_eq_some_iff.1 h
 rw [List.drop_eq_getElem_cons h1,List.any_cons]
theorem under_less {C:Nat} {Ns Os:List Nat} (h:Under Ns Os) (s:Nat):Under Ns (lessO C Ns Os s):=by
 refine ⟨by rw [lessO_len];exact h.1,fun i hi j hj=>?_⟩
 rw [lessO_len] at hi
 refine h.2 i hi j ?_
 rw [lessO_get hi] at hj
 split at hj
 ·rw [testBit_minusN,Bool.and_eq_true] at hj;exact hj.1
 ·exact hj
theorem under_cells {Ns Os:List Nat} (h:Under Ns Os):∀ d∈cellsOf Os,d∈cellsOf Ns:=fun d hd=>by
 obtain ⟨h1,h2⟩:=mem_cellsOf.1 hd
 exact mem_cellsOf.2 ⟨by rw [← h.1];exact h1,h.2 _ h1 _ h2⟩
theorem IsSr.node {w:World} {gs base q C:Nat} {vL:Value} {Ns L:List Nat} {nd:Int} (h:IsSr w gs base vL q C Ns L nd) (nd':Int):IsSr (w.setCell ⟨gs,2,none⟩ (.int .i64 nd')) gs base vL q C Ns L nd':=by
 obtain ⟨h1,h2⟩:=h
 exact ⟨h1.set_ 2 _,h2.put h1 (by decide) (by decide) 2 _⟩
theorem OwnX.but {w w':World} {base g:Nat} {t:TypeId} {cs:Array Value} {v:Value} {ks:List Nat} (h:OwnX w base v ks) (hB:Blk w g t cs) (ht:t≠3) (k:But (some g) w w'):OwnX w' base v ks:=own_butT h hB ht k
theorem nd_ok {nd:Nat} (h:nd+1≤1000000):¬ (1000000:Int) < (nd:Int)+1:=by
 have h2:((nd+1:Nat):Int)≤((1000000:Nat):Int):=Int.ofNat_le.2 h
 rw [Int.natCast_add] at h2
 exact Int.not_lt.2 h2
theorem cov_ar {nd TB b:Nat} {bi:Int} (hnd:nd+(1+8*TB)≤1000000) (hT1:1≤TB) (hbi:bi=((b+1:Nat):Int)) (hb:b+1≤4096) :
  wrap64 ((nd:Int)+1)=(nd:Int)+1∧¬ (1000000:Int) < (nd:Int)+1∧¬ bi < 1∧wrap64 (bi-1)=bi-1∧bi-1=(b:Int) :=
 ⟨IntWalk.wrap64_in _ ⟨by omega,by omega⟩,nd_ok (by omega),by omega,IntWalk.wrap64_in _ ⟨by omega,by omega⟩,by omega⟩
theorem cov_rd {nd TB ndt t nd':Nat} (hnd:nd+(1+8*TB)≤1000000) (ht:t < 8) (h:ndt≤nd+1+t*TB):ndt+TB≤1000000∧(nd'≤ndt+TB→nd'≤nd+(1+8*TB)∧nd'≤nd+1+(t+1)*TB):=by
 have h1:(t+1)*TB≤8*TB:=Nat.mul_le_mul_right _ ht
 rw [Nat.add_mul,Nat.one_mul] at h1 ⊢
 constructor
 ·omega
 ·intro h2;constructor <;> omega
theorem covk_any (gs base:Nat) (vL:Value) (q C:Nat) (Ns L:List Nat) (w0:World) (hg:w0.heap.size≤gs) (hT0:Tab w0) (hl:Ns.length≤4096) (hC:C≤12) (hL:L.length≤4096) (hcl:∀ s∈L,cloN C Ns s=s) (hfew:Few C Ns L) (k0:Nat) :
  ∀ (b:Nat) (bi:Int) (nd:Nat) (Os:List Nat) (base':Nat) (v:Value) (w:World),bi=b→b≤4096→nd+callsT b≤1000000→Below w0.heap.size w0 w→IsSr w gs base vL q C Ns L nd→OwnO w base' v Os→Under Ns Os →
   Calls Tryz.prog 30 #[ptr gs,v,.int .i64 bi,.int .i64 k0] w fun e w'=>∃ nd':Nat,e=.returned (.bool (covK C Ns L k0 b (cellsOf Os)))∧nd≤nd'∧nd'≤nd+callsT b∧IsSr w' gs base vL q C Ns L nd'∧But (some gs) w w'∧Below w0.heap.size w0 w':=by
 intro b
 induction b with
 | zero =>
  intro bi nd Os base' v w hbi hb hnd hw0 hS hO hU
  subst hbi
  rw [callsT] at hnd
  obtain ⟨A,c,rfl⟩:=hO.val
  have HSZ:=hideC (size_any base' _ Os w hO (by rw [hU.1];exact hl))
  by_cases h0:cellsOf Os=[]
  ·have hr:covK C Ns L k0 0 (cellsOf Os)=true:=by rw [h0];rfl
   rw [hr]
   rw [h0] at HSZ
   clear h0 hr
   go_enter Tryz.func30,Tryz.ntmps30
   go_wp2_with fail
   refine HSZ.out.mono ?_
   rintro e W1 ⟨rfl,hb1⟩
   go_wp2_with fail
   go_ret
   exact ⟨nd,rfl,Nat.le_refl _,by rw [callsT];omega,hS.below hb1,(But.refl _ _).below hb1,hw0.trans (hb1.mono hw0.size)⟩
  ·have hr:covK C Ns L k0 0 (cellsOf Os)=false:=decide_eq_false h0
   rw [hr]
   have hn0:(cellsOf Os).length≠0:=fun e=>h0 (List.eq_nil_of_length_eq_zero e)
   obtain ⟨n,hn⟩:∃ n,n=(cellsOf Os).length:=⟨_,rfl⟩
   rw [← hn] at hn0 HSZ
   have hn0':((n:Int) == 0)=false:=by rw [beq_eq_false_iff_ne];omega
   have hn0'':¬ ((n:Int)=0):=by omega
   clear h0 hr hn hn0
   have hw1:wrap64 ((nd:Int)+1)=(nd:Int)+1:=IntWalk.wrap64_in _ ⟨by omega,by omega⟩
   go_enter Tryz.func30,Tryz.ntmps30
   go_wp2_with fail
   refine HSZ.out.mono ?_
   rintro e W1 ⟨rfl,hb1⟩
   have hS1:=hS.below hb1
   obtain ⟨hB,hK⟩:=id hS1
   have c2:=hB.cell 2
   have f2:=hB.frozen 2
   have l2:=hB.lt
   go_wp2_with fail
   go_ret
   refine ⟨nd+1,rfl,by omega,by rw [callsT];omega,hS1.node _,((But.refl _ _).below hb1).trans (But.setCell W1 ⟨gs,2,none⟩ _),(hw0.trans (hb1.mono hw0.size)).setCell (p:=⟨gs,2,none⟩) hg _⟩
 | succ b ih =>
  intro bi nd Os base' v w hbi hb hnd hw0 hS hO hU
  have hT1:=callsT_pos b
  have hTe:callsT (b+1)=1+8*callsT b:=rfl
  rw [hTe] at hnd ⊢
  obtain ⟨TB,hTB⟩:∃ x,x=callsT b:=⟨_,rfl⟩
  rw [← hTB] at hnd hT1 ih ⊢
  clear hTB hTe
  have HIH:=Lib.hid ih
  clear ih
  obtain ⟨A,c,rfl⟩:=hO.val
  have HSZ:=hideC (size_any base' _ Os w hO (by rw [hU.1];exact hl))
  by_cases h0:cellsOf Os=[]
  ·have hr:covK C Ns L k0 (b+1) (cellsOf Os)=true:=by rw [h0,covK_nil]
   rw [hr]
   rw [h0] at HSZ
   clear h0 hr
   go_enter Tryz.func30,Tryz.ntmps30
   go_wp2_with fail
   refine HSZ.out.mono ?_
   rintro e W1 ⟨rfl,hb1⟩
   go_wp2_with fail
   go_ret
   exact ⟨nd,rfl,Nat.le_refl _,by omega,hS.below hb1,(But.refl _ _).below hb1,hw0.trans (hb1.mono hw0.size)⟩
  ·have hn0:(cellsOf Os).length≠0:=fun e=>h0 (List.eq_nil_of_length_eq_zero e)
   have hOl:0 < Os.length:=by
    refine Nat.pos_of_ne_zero fun e=>h0 ?_
    rw [List.eq_nil_of_length_eq_zero e];rfl
   obtain ⟨pc,hpc,hpo,_⟩:=pickK_mem (arK C Ns L k0) h0
   have hfw:=hfew k0 (cellsOf Os) pc (under_cells hU) hpc
   have hcs:=fun hgn=>covK_step (C:=C) (Ns:=Ns) (L:=L) (k0:=k0) (b:=b) h0 hgn hpc
   have hcf:=fun hgn=>covK_full (C:=C) (Ns:=Ns) (L:=L) (k0:=k0) (b:=b) h0 hgn
   obtain ⟨r,hr⟩:∃ r,r=covK C Ns L k0 (b+1) (cellsOf Os):=⟨_,rfl⟩
   rw [← hr] at hcs hcf ⊢
   have HCF:=Lib.hid hcf
   obtain ⟨n,hn⟩:∃ n,n=(cellsOf Os).length:=⟨_,rfl⟩
   rw [← hn] at hn0 HSZ
   have hn0':((n:Int) == 0)=false:=by rw [beq_eq_false_iff_ne];omega
   have hn0'':¬ ((n:Int)=0):=by omega
   have H0:=Lib.hid h0;have HFW:=Lib.hid hfw;have HCS:=Lib.hid hcs;have HU:=Lib.hid hU
   have HPC:=Lib.hid hpc
   clear h0 hr hn hn0 hfw hcs hU hpc hcf
   obtain ⟨hw1,hnd1,hbi1,hwb,hbie⟩:=cov_ar hnd hT1 hbi hb
   have hbi2:decide (bi < 1)=false:=decide_eq_false hbi1
   have hnd2:decide ((1000000:Int) < (nd:Int)+1)=false:=decide_eq_false hnd1
   have HBI:=Lib.hid hbie
   clear hbie
   have HBB:=Lib.hid hbi
   clear hbi
   go_enter Tryz.func30,Tryz.ntmps30
   go_wp2_with fail
   refine HSZ.out.mono ?_
   rintro e W1 ⟨rfl,hb1⟩
   have hS1:=hS.below hb1
   obtain ⟨hB,hK⟩:=id hS1
   have c2:=hB.cell 2
   have f2:=hB.frozen 2
   have l2:=hB.lt
   have hS2:=hS1.node ((nd:Int)+1)
   have hbut2:=((But.refl (some gs) w).below hb1).trans (But.setCell W1 ⟨gs,2,none⟩ (.int .i64 ((nd:Int)+1)))
   have hw2:=(hw0.trans (hb1.mono hw0.size)).setCell (p:=⟨gs,2,none⟩) hg (.int .i64 ((nd:Int)+1))
   have hO2:=(hO.below hb1).but hB (by decide) (by decide) (But.setCell W1 ⟨gs,2,none⟩ (.int .i64 ((nd:Int)+1)))
   have HBO:=hideC (bound_any gs base base' vL q C Ns L Os _ _ (b+1) _ hS2 hO2 HU.out.1 hl hC hL hcl hb (hT0.below hw2))
   rw [← HBB.out] at HBO
   obtain ⟨W2,hW2⟩:∃ V,V=W1.setCell ⟨gs,2,none⟩ (.int .i64 ((nd:Int)+1)):=⟨_,rfl⟩
   have hB2:Blk W2 gs 85 #[ptr q,vL,.int .i64 ((nd:Int)+1)]:=by rw [hW2];exact hB.set_ 2 _
   have HW2:=Lib.hid hW2
   rw [← hW2] at hS2 hbut2 hw2 hO2 HBO
   clear hW2
   go_wp2_with fail
   rw [← HW2.out]
   with_reducible refine HBO.out.mono ?_
   rintro e W3 ⟨rfl,hb3⟩
   have hS3:=hS2.below hb3
   have hbut3:=hbut2.trans ((But.refl (some gs) W2).below hb3)
   have hw3:=hw2.trans (hb3.mono hw2.size)
   have hO3:=hO2.below hb3
   have hB3:=hB2.below hb3 hB2.lt
   clear hS2 hbut2 hw2 hO2 HBO c2 f2 l2 hb3 hB2 hB
   by_cases hgn:(b+1)*gainM C Ns L (cellsOf Os) < (cellsOf Os).length
   ·obtain rfl:r=false:=HCF.out hgn
    rw [decide_eq_true hgn]
    clear hgn
    go_wp2_with fail
    go_ret
    exact ⟨nd+1,rfl,Nat.le_succ _,Nat.add_le_add_left (by omega) _,hS3,hbut3,hw3⟩
   ·have hcs:=HCS.out hgn
    rw [decide_eq_false hgn]
    have hce:=cell_any gs base base' vL q C Ns L Os _ _ k0 W3 hS3 hO3 hL (by rw [HU.out.1];exact hl) (hT0.below hw3)
    rw [HPC.out] at hce
    have hfw:=HFW.out
    have hmem:=fun k (hk:k∈arK C Ns L k0 pc)=>(mem_arK.1 hk).1
    obtain ⟨l,hle⟩:∃ l,l=arK C Ns L k0 pc:=⟨_,rfl⟩
    obtain ⟨F,hF⟩:∃ F:Nat→Bool,F=fun k=>covK C Ns L k0 b (lessL C Ns (cellsOf Os) (L.getD k 0)):=⟨_,rfl⟩
    have hFk:=fun k=>congrFun hF k
    have hsp:(∀ k∈arK C Ns L k0 pc,lessL C Ns (cellsOf Os) (L.getD k 0)=[])→∀ k∈arK C Ns L k0 pc,F k=true:=fun h k hk=>by rw [hF];dsimp only;rw [h k hk,covK_nil]
    rw [← hF] at hcs
    have hce2:Calls Tryz.prog 78 #[ptr gs,.slice A Os.length c,.int .i64 k0] W3 fun e w'=>∃ A c,e=.returned (.tuple #[.int .i64 (pc.1:Int),.int .i64 (pc.2:Int),.slice A (arK C Ns L k0 pc).length c]) ∧
      OwnX w' W3.heap.size (.slice A (arK C Ns L k0 pc).length c) (arK C Ns L k0 pc)∧Below W3.heap.size W3 w':=hce
    rw [← hle] at hcs hce2 hfw hmem hsp
    have hsp2:l.length≤8∨∀ k∈l,F k=true:=hfw.imp id hsp
    have HCE:=hideC hce2;have HC2:=Lib.hid hcs;have HSP:=Lib.hid hsp2;have HME:=Lib.hid hmem;have HFK:=Lib.hid hFk
    clear hgn hcs hce hce2 hfw hmem hle hF hFk hsp hsp2 HPC HFW HCS HCF
    go_wp2_with fail
    with_reducible refine HCE.out.mono ?_
    rintro e W4 ⟨A4,c4,rfl,hX,hb4⟩
    have hS4:=hS3.below hb4
    have hbut4:=hbut3.trans ((But.refl (some gs) W3).below hb4)
    have hw4:=hw3.trans (hb4.mono hw3.size)
    have hO4:=hO3.below hb4
    have hB4:=hB3.below hb4 hB3.lt
    clear hS3 hbut3 hw3 hO3 HCE hb4 hB3
    go_wp2_with fail
    refine wp_loopF (β:=Nat×Nat) (fun x f=>#[ptr gs,.slice A Os.length c,.int .i64 bi,.int .i64 (k0:Int),f 4,f 5,f 6,f 7,.bool false,f 9,f 10,f 11,f 12,f 13,f 14,f 15,f 16,f 17,f 18,f 19,f 20,f 21,f 22,f 23,f 24,f 25,f 26,f 27,f 28,f 29,f 30,f 31,f 32,f 33,f 34,f 35,f 36,f 37,f 38,f 39,f 40,f 41,f 42,f 43,f 44,f 45,f 46,.slice A4 l.length c4,.int .i64 (l.length:Int),.int .i64 (x.1:Int),f 50,f 51,f 52,f 53,f 54,f 55,f 56,f 57,f 58,f 59,f 60,f 61,f 62,f 63,f 64,f 65,f 66,f 67])
     (fun x ds W=>ds=[]∧x.1≤l.length∧(x.1=0∨l.length≤8)∧IsSr W gs base vL q C Ns L x.2∧But (some gs) W4 W∧Below w0.heap.size w0 W∧nd≤x.2∧x.2≤nd+1+x.1*TB∧l.any F=(l.drop x.1).any F) (fun x=>l.length-x.1) (0,nd+1) rfl
     ⟨rfl,Nat.zero_le _,.inl rfl,hS4,But.refl _ _,hw4,Nat.le_succ _,Nat.le_add_right _ _,rfl⟩ ?_
    rintro ⟨t,ndt⟩ f ds W ⟨rfl,ht,ht8,hSW,hbW,hwW,hn1,hn2,han⟩
    dsimp only at ht ht8 hSW hn1 hn2 han ⊢
    by_cases hlt:t < l.length
    ·obtain ⟨k,hk⟩:∃ k,l[t]?=some k:=⟨_,List.getElem?_eq_getElem hlt⟩
     have hkL:=HME.out k (List.mem_of_getElem? hk)
     have hXW:=hX.but hB4 (by decide) hbW
     obtain ⟨gX,oX,rfl,hgX,dX⟩:=hXW.at hk
     have hOW:=hO4.but hB4 (by decide) (by decide) hbW
     obtain ⟨hBW,hKW⟩:=id hSW
     obtain ⟨AL,cL,rfl⟩:=hKW.val
     obtain ⟨s,hs⟩:∃ s,L[k]?=some s:=⟨_,List.getElem?_eq_getElem hkL⟩
     have hgd:L.getD k 0=s:=by rw [List.getD_eq_getElem?_getD,hs];rfl
     obtain ⟨gr,off,A1,c1,A2,c2,rfl,hgr,d0,d1,s1,s2⟩:=(hKW.isK (by omega)).at hs
     obtain ⟨X,hX0⟩:∃ X,X=havN C Ns s:=⟨_,rfl⟩
     rw [← hX0] at d0 s1
     have hany:=any_drop F hk
     have hFk:=HFK.out k
     have hFm:=fun h:∀ k∈l,F k=true=>h k (List.mem_of_getElem? hk)
     rw [hgd,← cellsOf_less] at hFk
     rw [hany] at han
     obtain ⟨rk,hrk⟩:∃ x,x=F k:=⟨_,rfl⟩
     rw [← hrk] at han hFk hFm
     have HAN:=Lib.hid han;have HRK:=Lib.hid hFk;have HFM:=Lib.hid hFm;have HT8:=Lib.hid ht8
     have cW:=hBW.cell 1
     have HWI:=hideC (without_cov base' (.slice A Os.length c) C Ns Os s X A1 c1 A2 c2 W hOW hOl HU.out.1 hl hX0 s1 s2 (hT0.below hwW))
     clear han hFk hrk hany hFm hk hs hgd hX0 s1 s2 ht8 hXW
     go_wp2_with fail
     with_reducible refine HWI.out.mono ?_
     rintro e W5 ⟨v5,rfl,hO5,hb5⟩
     have hS5:=hSW.below hb5
     have hbW5:=hbW.trans ((But.refl (some gs) W).below hb5)
     have hw5:=hwW.trans (hb5.mono hwW.size)
     have htt:t < 8:=by
      rcases HT8.out with h | h
      ·rw [h];decide
      ·omega
     obtain ⟨hq1,hq2⟩:=cov_rd (nd':=0) hnd htt hn2
     have HIC:=hideC (HIH.out (bi-1) ndt (lessO C Ns Os s) _ v5 W5 HBI.out (by omega) hq1 hw5 hS5 hO5 (under_less HU.out s))
     rw [← HRK.out] at HIC
     obtain ⟨A5,c5,rfl⟩:=hO5.val
     clear hq1 hq2 hS5 hSW hwW hOW hBW hKW hO5 d0 d1 cW dX HWI
     cases rk with
     | true =>
      have hrt:r=true:=by rw [HC2.out,HAN.out];rfl
      subst hrt
      go_wp2_with fail
      with_reducible refine HIC.out.mono ?_
      rintro e W6 ⟨nd6,rfl,hn61,hn62,hS6,hbut6,hw6⟩
      go_wp2_with fail
      go_ret
      exact ⟨nd6,rfl,Nat.le_trans hn1 hn61,((cov_rd hnd htt hn2).2 hn62).1,hS6,(hbut4.trans hbW5).trans hbut6,hw6⟩
     | false =>
      have hl8:l.length≤8:=HSP.out.elim id fun h=>by have:=HFM.out h;cases this
      have HA2:=Lib.hid (show l.any F=(l.drop (t+1)).any F by rw [HAN.out];rfl)
      go_wp2_with fail
      with_reducible refine HIC.out.mono ?_
      rintro e W6 ⟨nd6,rfl,hn61,hn62,hS6,hbut6,hw6⟩
      go_wp2_with fail
      exact ⟨(t+1,nd6),rfl,⟨by first | rfl | trivial,hlt,.inr hl8,hS6,hbW5.trans hbut6,hw6,Nat.le_trans hn1 hn61,((cov_rd hnd htt hn2).2 hn62).2,HA2.out⟩,by show l.length-(t+1) < l.length-t;omega⟩
    ·obtain rfl:t=l.length:=by omega
     have hrf:r=false:=by rw [HC2.out,han,List.drop_length];rfl
     subst hrf
     have hl8:l.length≤8:=ht8.elim (fun h=>by rw [h];decide) id
     have hml:l.length*TB≤8*TB:=Nat.mul_le_mul_right _ hl8
     clear han hlt
     go_wp2_with fail
     go_ret
     exact ⟨ndt,rfl,hn1,by omega,hSW,hbut4.trans hbW,hwW⟩
theorem callsT_mono:∀ {a b:Nat},a≤b→callsT a≤callsT b
 | 0,b,_=>callsT_pos b
 | a+1,0,h=>by omega
 | a+1,b+1,h=>by
  have:=callsT_mono (a:=a) (b:=b) (by omega)
  rw [callsT,callsT];omega
theorem own_grownT {W W':World} {base base2 size size2 n m:Nat} {e e2:TypeId} {v u:Value} {xs ys:List Value} (h:W.ownsRow base e size v n xs) (hu:W.ownsRow base2 e2 size2 u m ys) (hne:e≠e2) (hg:W.grownBy W' u.ownBlock):W'.ownsRow base e size v n xs :=
 ⟨h.1,h.2.imp id fun ⟨g,cap,cur,hv,hgb,hb,r⟩=>⟨g,cap,cur,hv,hgb,(hg.block g (Array.getElem?_eq_some_iff.1 hb).1 (own_ne hu (show Blk W g e cur from hb) hne)).trans hb,r⟩⟩
theorem OwnO.grown {W W':World} {base base2 size2 m:Nat} {e2:TypeId} {v u:Value} {Os:List Nat} {ys:List Value} (h:OwnO W base v Os) (hu:W.ownsRow base2 e2 size2 u m ys) (hne:58≠e2) (hne2:146≠e2) (hg:W.grownBy W' u.ownBlock):OwnO W' base v Os:=by
 obtain ⟨vs,h1,h2⟩:=h
 exact ⟨vs,own_grownT h1 hu hne hg,h2.keep (KeepW.grown hg hu hne2)⟩
theorem But.grownO {w W W':World} {gs size m:Nat} {e:TypeId} {u:Value} {ys:List Value} (h:But (some gs) w W) (hu:W.ownsRow w.heap.size e size u m ys) (hg:W.grownBy W' u.ownBlock):But (some gs) w W' :=
 ⟨Nat.le_trans h.1 hg.size,fun g hg' hne=>(hg.block g (Nat.lt_of_lt_of_le hg' h.1) fun e=>by have:=(hu.lt g e.symm).1;omega).trans (h.2 g hg' hne)⟩
def atL (L ks:List Nat):List Nat:=ks.map fun k=>L.getD k 0
theorem least_ar {nd K T n:Nat} (h:nd+K*T≤1000000) {k ndk:Nat} (hk:k < K) (hn:ndk≤nd+k*T) {t:Nat} (ht:t≤T) (h2:n≤ndk+t):ndk+t≤1000000∧n≤nd+(k+1)*T:=by
 have h3:(k+1)*T≤K*T:=Nat.mul_le_mul_right _ hk
 rw [Nat.add_mul,Nat.one_mul] at h3 ⊢
 constructor <;> omega
theorem leastc_any (gs base:Nat) (vL:Value) (q C:Nat) (Ns L:List Nat) (w0:World) (hg:w0.heap.size≤gs) (hT0:Tab w0) (hl:Ns.length≤4096) (hC:C≤12) (hL:L.length≤4096) (hcl:∀ s∈L,cloN C Ns s=s) (hfew:Few C Ns L)
  (b nd:Nat) (Os:List Nat) (base':Nat) (v:Value) (w:World) (hb:b≤4096) (hnd:nd+L.length*callsT (b-1)≤1000000) (hw0:Below w0.heap.size w0 w) (hS:IsSr w gs base vL q C Ns L nd) (hO:OwnO w base' v Os) (hU:Under Ns Os) (hR:Ns.length=0→L=[]) :
  Calls Tryz.prog 31 #[ptr gs,v,.int .i64 b] w fun e w'=>∃ v' nd',e=.returned v'∧OwnK w' w.heap.size v' C Ns (atL L (leastK C Ns L L.length 0 b (cellsOf Os)))∧nd≤nd'∧nd'≤nd+L.length*callsT (b-1)∧IsSr w' gs base vL q C Ns L (nd':Nat)∧But (some gs) w w'∧Below w0.heap.size w0 w':=by
 obtain ⟨i0,hi0,hz0,hz1,hz2⟩:=info_parts info_con
 obtain ⟨res,hres⟩:∃ r,r=leastK C Ns L L.length 0 b (cellsOf Os):=⟨_,rfl⟩
 rw [← hres]
 obtain ⟨hB0,hK0⟩:=hS
 obtain ⟨A,c,rfl⟩:=hO.val
 have hKb:=fun W (hbut:But (some gs) w W)=>hK0.but hB0 (by decide) (by decide) hbut
 have hK0v:=hK0.val
 obtain ⟨AL,cL,rfl⟩:=hK0v
 have HKB:=Lib.hid hKb;have HRES:=Lib.hid hres;have HU:=Lib.hid hU;have HO:=Lib.hid hO;have HCL:=Lib.hid hcl;have HFW:=Lib.hid hfew;have HR:=Lib.hid hR
 clear hres hKb hK0 hU hcl hfew hO hR
 have hs0:w0.heap.size≤w.heap.size:=hw0.size
 go_enter Tryz.func31,Tryz.ntmps31
 go_wp2_with fail
 refine wp_loopF (β:=Nat×Int×Nat×Option Addr×Nat×List Nat×Value×List Nat×Nat) (fun x f=>#[ptr gs,.slice x.2.2.2.1 Os.length x.2.2.2.2.1,.int .i64 x.2.1,f 3,f 4,f 5,.slice none 0 0,x.2.2.2.2.2.2.1,.int .i64 (x.1:Int),f 9,f 10,f 11,f 12,f 13,f 14,f 15,f 16,f 17,f 18,f 19,f 20,f 21,f 22,f 23,f 24,f 25,f 26,f 27,f 28,f 29,f 30,f 31,f 32,f 33,f 34,f 35,f 36,f 37,f 38,f 39,f 40,f 41,f 42,f 43,f 44,f 45,f 46,f 47,f 48,f 49,f 50,f 51,f 52])
  (fun x ds W=>ds=[]∧x.1≤L.length∧x.2.1=(x.2.2.1:Int)∧x.2.2.1≤b∧x.2.2.2.2.2.1.length=Os.length∧OwnO W 0 (.slice x.2.2.2.1 Os.length x.2.2.2.2.1) x.2.2.2.2.2.1∧Under Ns x.2.2.2.2.2.1∧OwnK W w.heap.size x.2.2.2.2.2.2.1 C Ns (atL L x.2.2.2.2.2.2.2.1)∧x.2.2.2.2.2.2.2.1.length≤x.1 ∧
   res=x.2.2.2.2.2.2.2.1 ++ leastK C Ns L (L.length-x.1) x.1 x.2.2.1 (cellsOf x.2.2.2.2.2.1)∧nd≤x.2.2.2.2.2.2.2.2∧x.2.2.2.2.2.2.2.2≤nd+x.1*callsT (b-1)∧Blk W gs 85 #[ptr q,.slice AL L.length cL,.int .i64 (x.2.2.2.2.2.2.2.2:Int)]∧But (some gs) w W∧Below w0.heap.size w0 W) (fun x=>L.length-x.1) (0,(b:Int),b,A,c,Os,.slice none 0 0,[],nd) rfl
  ⟨rfl,Nat.zero_le _,rfl,Nat.le_refl _,rfl,HO.out.low (Nat.zero_le _),HU.out,OwnK.nil _ _ _ _,Nat.le_refl _,by rw [List.nil_append,Nat.sub_zero];exact HRES.out,Nat.le_refl _,Nat.le_add_right _ _,hB0,But.refl _ _,hw0⟩ ?_
 rintro ⟨k,bi,bk,Ao,co,Ok,v7,ks,ndk⟩ f ds W ⟨rfl,hk,hbi,hbk,hOl,hOW,hUW,hKW,hksl,hre,hn1,hn2,hBW,hbW,hwW⟩
 dsimp only at hk hbi hbk hOl hOW hUW hKW hksl hre hn1 hn2 hBW ⊢
 have cW:=hBW.cell 1
 obtain ⟨A7,c7,rfl⟩:=hKW.val
 by_cases hlt:k < L.length
 ·by_cases hb0:0 < bk
  ·obtain ⟨m,rfl⟩:∃ m,bk=m+1:=⟨bk-1,by omega⟩
   obtain ⟨s,hs⟩:∃ s,L[k]?=some s:=⟨_,List.getElem?_eq_getElem hlt⟩
   have hgd:L.getD k 0=s:=by rw [List.getD_eq_getElem?_getD,hs];rfl
   have hKL:=HKB.out W hbW
   obtain ⟨gr,off,A1,c1,A2,c2,rfl,hgr,d0,d1,s1,s2⟩:=(hKL.isK (by omega)).at hs
   obtain ⟨X,hX0⟩:∃ X,X=havN C Ns s:=⟨_,rfl⟩
   rw [← hX0] at d0 s1
   have hpos:0 < Ok.length:=by
    rw [hUW.1]
    refine Nat.pos_of_ne_zero fun e=>?_
    have:=HR.out e
    rw [this] at hlt;exact absurd hlt (by simp)
   have hWI:=without_cov 0 _ C Ns Ok s X A1 c1 A2 c2 W hOW hpos hUW.1 hl hX0 s1 s2 (hT0.below hwW)
   have hsub:L.length-k=(L.length-(k+1))+1:=by omega
   rw [hsub,leastK,if_neg (by omega),hgd,← cellsOf_less,show m+1-1=m by omega] at hre
   obtain ⟨rk,hrk⟩:∃ x,x=covK C Ns L (k+1) m (cellsOf (lessO C Ns Ok s)):=⟨_,rfl⟩
   rw [← hrk] at hre
   have hbp:0 < bi:=by omega
   have hbd:decide (0 < bi)=true:=decide_eq_true hbp
   have hwb:wrap64 (bi-1)=bi-1:=IntWalk.wrap64_in _ ⟨by omega,by omega⟩
   have hbm:bi-1=(m:Int):=by omega
   have htm:callsT m≤callsT (b-1):=callsT_mono (by omega)
   have HWI:=hideC hWI;have HRE:=Lib.hid hre;have HRK:=Lib.hid hrk;have HBM:=Lib.hid hbm;have HWB:=Lib.hid hwb;have HBI:=Lib.hid hbi;have HUW:=Lib.hid hUW;have HS:=Lib.hid hs;have HGD:=Lib.hid hgd;have HX0:=Lib.hid hX0;have HOL:=Lib.hid hOl
   have hksl2:ks.length≤4096:=by omega
   have HN:=Lib.hid (fun nd' (h:nd'≤ndk+callsT m)=>least_ar hnd hlt hn2 htm h)
   have hq1:ndk+callsT m≤1000000:=(least_ar hnd hlt hn2 htm (Nat.le_refl _)).1
   have HQ1:=Lib.hid hq1
   clear hWI hre hrk hbm hbi hUW hs hgd hX0 hOl hq1 hsub htm
   go_wp2_with fail
   with_reducible refine HWI.out.mono ?_
   rintro e W5 ⟨v5,rfl,hO5,hb5⟩
   have hB5:=hBW.below hb5 hBW.lt
   have hbW5:=hbW.trans ((But.refl (some gs) W).below hb5)
   have hw5:=hwW.trans (hb5.mono hwW.size)
   have hOW5:=hOW.below hb5
   have hKW5:=hKW.below hb5
   have s15:=s1.below hb5
   have s25:=s2.below hb5
   have d05:=onB hb5 d0
   have d15:=onB hb5 d1
   have hS5:IsSr W5 gs base (.slice (some ⟨gr,off,none⟩) L.length cL) q C Ns L ndk:=⟨hB5,HKB.out W5 hbW5⟩
   obtain ⟨A5,c5,rfl⟩:=hO5.val
   have hIC:=covk_any gs base _ q C Ns L w0 hg hT0 hl hC hL HCL.out HFW.out (k+1) m (bi-1) ndk (lessO C Ns Ok s) _ _ W5 HBM.out (by omega) HQ1.out hw5 hS5 hO5 (under_less HUW.out s)
   rw [← HRK.out,Int.natCast_add,Int.natCast_one] at hIC
   have HIC:=hideC hIC
   have hle5:(lessO C Ns Ok s).length=Os.length:=by rw [lessO_len];exact HOL.out
   rw [hle5] at HIC hO5 ⊢
   have c5':=hB5.cell 1
   clear hIC HWI hbW hwW hOW hKW hBW s1 s2 d0 d1 cW hle5
   go_wp2_with fail
   with_reducible refine HIC.out.mono ?_
   rintro e W6 ⟨nd6,rfl,hn61,hn62,hS6,hbut6,hw6⟩
   have hbW6:=hbW5.trans hbut6
   have hO6:=hO5.but hB5 (by decide) (by decide) hbut6
   have hOW6:=hOW5.but hB5 (by decide) (by decide) hbut6
   have hKW6:=hKW5.but hB5 (by decide) (by decide) hbut6
   obtain ⟨hB6,hKL6⟩:=hS6
   have hn63:=(HN.out nd6 hn62).2
   have hn64:=Nat.le_trans hn1 hn61
   clear hB5 hbW5 hw5 hOW5 hKW5 s15 s25 d05 d15 hO5 hbut6 hn61 hn62 HIC c5' hS5
   cases rk with
   | false =>
    have hre:=HRE.out
    rw [if_neg (by simp)] at hre
    have HR2:=Lib.hid hre
    clear hre
    go_wp2_with fail
    exact ⟨(k+1,bi,m+1,Ao,co,Ok,_,ks,nd6),rfl,⟨by first | rfl | trivial,hlt,HBI.out,hbk,HOL.out,hOW6,HUW.out,hKW6,Nat.le_succ_of_le hksl,HR2.out,hn64,hn63,hB6,hbW6,hw6⟩,by show L.length-(k+1) < L.length-k;omega⟩
   | true =>
    have hre:=HRE.out
    rw [if_pos rfl] at hre
    have HR2:=Lib.hid (show res=(ks ++ [k]) ++ leastK C Ns L (L.length-(k+1)) (k+1) m (cellsOf (lessO C Ns Ok s)) by rw [hre];simp)
    have hat:atL L (ks ++ [k])=atL L ks ++ [s]:=by unfold atL;rw [List.map_append];simp only [List.map_cons,List.map_nil,HGD.out]
    have HAT:=Lib.hid hat
    clear hre hat
    obtain ⟨gr',off',A1',c1',A2',c2',e,hgr',d0',d1',s1',s2'⟩:=(hKL6.isK (by omega)).at HS.out
    cases e
    rw [← HX0.out] at d0' s1'
    have c6:=hB6.cell 1
    obtain ⟨vs,hown0,hsets⟩:=hKW6
    have hll:(atL L ks).length≤4096:=by unfold atL;rw [List.length_map];exact hksl2
    have hba:Below W6.heap.size W6 (W6.alloc (.cells #[.slice A1' (nw X) c1',.slice A2' (nw s) c2'] 98)):=(Below.refl _ _).alloc (Nat.le_refl _) _
    have hlocs:=own_below hown0 hba
    have hB7:=hB6.below hba hB6.lt
    have hO7:=hO6.below hba
    have hbW7:=hbW6.trans ((But.refl (some gs) W6).below hba)
    have hw7:=hw6.trans (hba.mono hw6.size)
    have s17:=s1'.below hba
    have s27:=s2'.below hba
    have HS7:=Lib.hid (hsets.below hba)
    have hsz:w.heap.size≤W6.heap.size:=hbW6.1
    clear hown0 hsets hba hO6 hOW6 hbW6 s1' s2' hKL6
    go_wp2_with (at_builtin;refine wpList_append_own _ rfl _ _ 80 rfl (w.heap.size) 98 i0 (.agg #[.slice none 0 0,.slice none 0 0]) 2 48 Tryz.underlying80 hi0 hz0 hz1 hz2 rfl (by decide) _ _ _ rfl (hlocs) ⟨W6.heap.size,0,none⟩ 1 1 [.slice A1' (nw X) c1',.slice A2' (nw s) c2'] rfl rfl (World.news_of_block (Blk.new _ _ _)) (by simp [Value.oneCell']) (by unfold maxLen;omega) (by omega) (by first | omega | (simp;omega)) ?_;intro v' w3 hown' hgrow _)
    obtain ⟨hK,hkw⟩:=OwnK.push (s:=s) HS7.out hlocs hgrow hown' rfl (by rw [← HX0.out];exact s17) s27
    rw [← HAT.out] at hK
    exact ⟨(k+1,bi-1,m,A5,c5,lessO C Ns Ok s,v',ks ++ [k],nd6),by first | rfl | (rw [HWB.out];rfl),⟨by first | rfl | trivial,hlt,HBM.out,Nat.le_of_succ_le hbk,by show (lessO C Ns Ok s).length=Os.length;rw [lessO_len];exact HOL.out,(hO7.low (Nat.zero_le _)).grown hlocs (by decide) (by decide) hgrow,under_less HUW.out s,hK,by rw [List.length_append];exact Nat.succ_le_succ hksl,HR2.out,hn64,hn63,hB7.grown hgrow (own_ne hlocs hB7 (by decide)),hbW7.grownO hlocs hgrow,hw7.grown hgrow hw7.size (fun q hq=>Nat.le_trans hs0 (hlocs.lt q hq).1)⟩,by show L.length-(k+1) < L.length-k;omega⟩
  ·obtain rfl:bk=0:=by omega
   obtain rfl:bi=0:=hbi
   have hr:res=ks:=by
    rw [hre,show L.length-k=(L.length-(k+1))+1 by omega,leastK,if_pos rfl,List.append_nil]
   rw [← hr] at hKW
   have hk1:k*callsT (b-1)≤L.length*callsT (b-1):=Nat.mul_le_mul_right _ hk
   have HN:=Lib.hid (Nat.le_trans hn2 (Nat.add_le_add_left hk1 _))
   have HK:=Lib.hid hKW
   have hll:(atL L res).length=(atL L ks).length:=by rw [hr]
   rw [← hll]
   clear hre hr hk1 hn2 hll
   go_wp2_with fail
   go_ret
   exact ⟨_,ndk,rfl,by first | exact HK.out | skip,hn1,HN.out,⟨hBW,HKB.out W hbW⟩,hbW,hwW⟩
 ·obtain rfl:k=L.length:=by omega
  have hr:res=ks:=by rw [hre,Nat.sub_self,leastK,List.append_nil]
  rw [← hr] at hKW
  have HN:=Lib.hid hn2
  have HK:=Lib.hid hKW
  have hll:(atL L res).length=(atL L ks).length:=by rw [hr]
  rw [← hll]
  clear hre hr hn2 hbi hll
  go_wp2_with fail
  go_ret
  exact ⟨_,ndk,rfl,by first | exact HK.out | skip,hn1,HN.out,⟨hBW,HKB.out W hbW⟩,hbW,hwW⟩
end Go.Proofs.YtafpmkdlciioaaaGreatDoor
namespace Go.Proofs.YtafpmkdlciioaaaGreatDoor
open Go.RowKit
attribute [local go_sem] Oper.semAt_some
def foolP (C:Nat) (Ns:List Nat) (l:List (Int×Int)):Bool:=!(l.any fun c=>!mhas C Ns c.1 c.2)&&apartB C Ns l
theorem fool_any (q C:Nat) (Ns:List Nat) (v:Value) (l:List (Int×Int)) (w:World) (h:IsMat w q C Ns) (hp:IsPairs w v l) :
  Calls Tryz.prog 131 #[ptr q,v] w fun e w'=>e=.returned (.bool (foolP C Ns l))∧Below w.heap.size w w':=by
 have hmf:∀ (fn:Fn) (first cap:Array Value) (W:World),(Instr.makeFunc fn first cap).run Tryz.prog W=.ok (.func fn first cap) W:=fun _ _ _ _=>rfl
 have hfp:foolP C Ns l=(!(l.any fun c=>!mhas C Ns c.1 c.2)&&apartB C Ns l):=rfl
 have hc:=fun W (hW:Below w.heap.size w W) g t (hg:Blk W g t #[ptr q])=>contains_fool (.pointer (some ⟨g,0,none⟩)) (fun c=>!mhas C Ns c.1 c.2) v l W (hp.below hW) fun W' hW' c=>fool1_any (some ⟨q,0,none⟩) C Ns g t c W' ((h.below hW).below hW').mv (hg.below hW' hg.lt)
 have ha:=fun W (hW:Below w.heap.size w W)=>apart_any (some ⟨q,0,none⟩) C Ns v l W (h.below hW).mv (hp.below hW)
 obtain ⟨x,hx⟩:∃ x,x=l.any fun c=>!mhas C Ns c.1 c.2:=⟨_,rfl⟩
 obtain ⟨y,hy⟩:∃ y,y=apartB C Ns l:=⟨_,rfl⟩
 rw [← hx] at hfp hc
 rw [← hy] at hfp ha
 rw [hfp]
 have HC:=Lib.hid hc;have HA:=Lib.hid ha
 clear hc ha hx hy hfp
 obtain ⟨A,d,rfl,-⟩:=id hp
 go_enter Tryz.func131,Tryz.ntmps131
 go_wp2_with fail
 refine absC1 fun W0 hX hb0 hz=>?_
 have hC:=HC.out W0 hb0 _ _ hX
 refine hC.mono ?_
 rintro e W1 ⟨rfl,hb1⟩
 have b1:=hb0.trans (hb1.mono hb0.size)
 have hX1:=hX.below hb1 hX.lt
 have x0:=hX1.cell 0
 clear hC hz hX hb1
 cases x with
 | true =>
  go_wp2_with fail
  go_ret
  exact ⟨rfl,b1⟩
 | false =>
  have HA1:=hideC (HA.out W1 b1)
  go_wp2_with fail
  refine HA1.out.mono ?_
  rintro e W2 ⟨rfl,hb2⟩
  go_wp2_with fail
  go_ret
  exact ⟨rfl,b1.trans (hb2.mono b1.size)⟩
end Go.Proofs.YtafpmkdlciioaaaGreatDoor
