import Derived.Test.YtafpmkdlciioaaaGreatDoorPk21
import Derived.Test.YtafpmkdlciioaaaGreatDoorPk12
import Derived.Test.YtafpmkdlciioaaaGreatDoorPk05
import Derived.Test.YtafpmkdlciioaaaGreatDoorPk18
import Derived.Test.YtafpmkdlciioaaaGreatDoorPk20
import Derived.Test.YtafpmkdlciioaaaGreatDoorPk15
import Derived.Test.YtafpmkdlciioaaaGreatDoorPk08
import Derived.Test.YtafpmkdlciioaaaGreatDoorPk16
set_option maxHeartbeats 8000000
set_option maxRecDepth 100000
namespace Go.Proofs.YtafpmkdlciioaaaGreatDoor
open Go.RowKit
attribute [local go_sem] Oper.semAt_some
def firstBad (P:List Nd):Option Nat:=(List.range P.length).find? (badN P)
theorem firstBad_none {P:List Nd} (h:∀ n,n < P.length→badN P n=false):firstBad P=none:=by
 unfold firstBad
 rw [List.find?_eq_none]
 intro n hn
 rw [h n (List.mem_range.1 hn)];simp
theorem firstBad_some {P:List Nd} {n:Nat} (hn:n < P.length) (hb:badN P n=true) (h:∀ m,m < n→badN P m=false):firstBad P=some n:=by
 unfold firstBad
 rw [List.find?_range_eq_some]
 exact ⟨hb,List.mem_range.2 hn,fun m hm=>by rw [h m hm];rfl⟩
theorem form_ok {P:List Nd} (h:∀ n,n < P.length→badN P n=false):FormOK P:=fun n hn=>by
 have hb:=h n hn
 unfold badN at hb
 rw [Bool.or_eq_false_iff] at hb
 obtain ⟨h1,h2⟩:=hb
 obtain ⟨k1,k2,_,_⟩:=badH_parts h1
 refine ⟨⟨k1,k2⟩,fun c hc=>?_⟩
 obtain ⟨i,hi,e⟩:=List.getElem_of_mem hc
 rw [List.any_eq_false] at h2
 have:=h2 i (List.mem_range.2 hi)
 have e2:(P.getD n default).ch.getD i 0=c:=by rw [List.getD_eq_getElem?_getD,List.getElem?_eq_getElem hi,e];rfl
 rw [e2] at this
 unfold badC at this
 simp only [Bool.or_eq_true,decide_eq_true_eq,not_or] at this
 omega
def checkP (C:Nat) (Ns:List Nat) (size:Int) (P:List Nd):Int×Int :=
 if size < 0∨256 < size∨P.length < 1∨5000 < P.length then (2,0)
 else match firstBad P with
  | some n=>(2,(n:Int))
  | none=>if size=0 then (1,0) else nodeP C Ns P P.length (0:Nat) (size-1) Ns
namespace Mix2
theorem check_any (q C:Nat) (Ns:List Nat) (size:Int) (A:Option Addr) (c0:Nat) (P:List Nd) (w:World) (h:IsMat w q C Ns) (hin:rowsIn C Ns) (hnd:IsNodes w A P) (hT:Tab w) :
  Calls Tryz.prog 11 #[ptr q,proofV size A P.length c0] w fun e w'=>e=.returned (.tuple #[.int .u8 (checkP C Ns size P).1,.int .i64 (checkP C Ns size P).2])∧Below w.heap.size w w':=by
 obtain ⟨i0,hi0,hz0,hz1,hz2⟩:=info_parts info_set
 have hlN:Ns.length≤4096:=h.2.1
 obtain ⟨r,hr⟩:∃ r,r=checkP C Ns size P:=⟨_,rfl⟩
 rw [← hr]
 have HR:=Lib.hid hr
 clear hr
 go_enter Tryz.func11,Tryz.ntmps11
 by_cases hbad:size < 0∨256 < size∨P.length < 1∨5000 < P.length
 ·have hr:r=(2,0):=by rw [HR.out];unfold checkP;rw [if_pos hbad]
  have HR2:=Lib.hid hr
  clear hr HR
  by_cases h1:size < 0
  ·clear hbad
   go_wp2_with fail
   go_ret2
   exact ⟨by rw [HR2.out];rfl,(Below.refl _ _).alloc (Nat.le_refl _) _⟩
  ·by_cases h2:256 < size
   ·clear hbad
    go_wp2_with fail
    go_ret2
    exact ⟨by rw [HR2.out];rfl,(Below.refl _ _).alloc (Nat.le_refl _) _⟩
   ·by_cases h3:P.length < 1
    ·clear hbad
     go_wp2_with fail
     go_ret2
     exact ⟨by rw [HR2.out];rfl,(Below.refl _ _).alloc (Nat.le_refl _) _⟩
    ·have h4:5000 < P.length:=by omega
     clear hbad
     go_wp2_with fail
     go_ret2
     exact ⟨by rw [HR2.out];rfl,(Below.refl _ _).alloc (Nat.le_refl _) _⟩
 ·have h1:¬ size < 0:=fun e=>hbad (.inl e)
  have h2:¬ 256 < size:=fun e=>hbad (.inr (.inl e))
  have h3:¬ P.length < 1:=fun e=>hbad (.inr (.inr (.inl e)))
  have h4:¬ 5000 < P.length:=fun e=>hbad (.inr (.inr (.inr e)))
  have hr:=HR.out
  unfold checkP at hr
  rw [if_neg hbad] at hr
  have HR2:=Lib.hid hr
  clear hr HR hbad
  go_wp2_with fail
  refine absC1 fun W0 hX hb0 hz=>?_
  obtain ⟨X,hXe⟩:∃ X,X=w.heap.size:=⟨_,rfl⟩
  rw [← hXe] at hX ⊢
  clear hXe hz
  refine (form_any A c0 P W0 (hnd.below hb0) (by omega)).mono ?_
  rintro e W1 ⟨fr,rfl,hfr,hb1⟩
  have b1:=hb0.trans (hb1.mono hb0.size)
  have hX1:=hX.below hb1 hX.lt
  have x0:=hX1.cell 0
  have x1:=hX1.cell 1
  rcases hfr with ⟨rfl,hgood⟩ | ⟨n,hn,rfl,hbn,hbm⟩
  ·have hf:=firstBad_none hgood
   have hfo:=form_ok hgood
   have hr:=HR2.out
   rw [hf] at hr
   dsimp only at hr
   have HR3:=Lib.hid hr
   clear hr hf hgood HR2
   by_cases h0:size=0
   ·have hr:=HR3.out
    rw [if_pos h0] at hr
    have HR4:=Lib.hid hr
    clear hr HR3
    subst h0
    go_wp2_with fail
    go_ret2
    exact ⟨by rw [HR4.out];rfl,b1⟩
   ·have hr:=HR3.out
    rw [if_neg h0] at hr
    have HR4:=Lib.hid hr
    clear hr HR3
    have h0b:(size == 0)=false:=by rw [beq_eq_false_iff_ne];exact h0
    go_wp2_with fail
    refine (rows_any q C Ns W1 (h.below b1)).mono ?_
    rintro e w' ⟨rfl,rfl⟩
    clear x0 x1
    go_wp2_with fail
    refine wp_loopF (β:=Nat×Value) (fun s f=>#[ptr q,f 1,f 2,.pointer (some ⟨X,0,none⟩),.int .u8 0,.int .i64 0,f 6,s.2,f 8,f 9,f 10,f 11,f 12,f 13,f 14,f 15,f 16,f 17,f 18,f 19,f 20,f 21,f 22,f 23,f 24,f 25,f 26,f 27,f 28,f 29,f 30,f 31,f 32,f 33,f 34,f 35,f 36,f 37,f 38,f 39,f 40,f 41,f 42,.int .i64 (Ns.length:Int),.int .i64 (s.1:Int),f 45,f 46,f 47,f 48,f 49,f 50,f 51,f 52,f 53,f 54,f 55,f 56,f 57,f 58,f 59,f 60,f 61,f 62,f 63])
     (fun s ds W=>s.1≤Ns.length∧ds=[]∧Below W1.heap.size W1 W∧∃ vs,W.ownsRow W1.heap.size 58 1 s.2 s.1 vs∧Sets W vs (Ns.take s.1)) (fun s=>Ns.length-s.1) (0,.slice none 0 0) rfl
     ⟨Nat.zero_le _,rfl,Below.refl _ _,[],World.ownsRow_nil _ _ _ _,by simpa using Sets.nil _⟩ ?_
    rintro ⟨k,v⟩ f ds W ⟨hk,rfl,hbW,vs,hown,hsets⟩
    dsimp only at hk hown hsets ⊢
    have bW:=b1.trans (hbW.mono b1.size)
    by_cases hlt:k < Ns.length
    ·have hrow:=row_any q C Ns k W (h.below bW)
     rw [mrow,if_pos (by omega),Int.toNat_natCast] at hrow
     have htk:Ns.take (k+1)=Ns.take k ++ [Ns.getD k 0]:=by rw [List.take_add_one,List.getElem?_eq_getElem hlt,List.getD_eq_getElem?_getD,List.getElem?_eq_getElem hlt];rfl
     obtain ⟨N,hN⟩:∃ N,N=Ns.getD k 0:=⟨_,rfl⟩
     rw [← hN] at hrow htk
     have HROW:=hideC (res3 rfl hrow)
     have HTK:=Lib.hid htk
     clear hrow htk hN
     go_wp2_with fail
     refine HROW.out.mono ?_
     rintro e wr ⟨A3,n3,c3,rfl,s3,hb3⟩
     have hb13:=hbW.trans (hb3.mono hbW.size)
     have hown3:=own_below hown hb3
     have hsets3:=hsets.below hb3
     have hsz:=hb13.size
     clear HROW hown hsets hb3
     have hloc:=own_below hown3 ((Below.refl wr.heap.size wr).alloc (Nat.le_refl _) (.cells #[.slice A3 n3 c3] 58))
     go_wp2_with (at_builtin;refine wpList_append_own _ rfl _ _ 67 rfl (W1.heap.size) 58 i0 (.agg #[.slice none 0 0]) 1 24 Tryz.underlying67 hi0 hz0 hz1 hz2 rfl (by decide) _ _ _ rfl (hloc) ⟨wr.heap.size,0,none⟩ 1 1 [.slice A3 n3 c3] rfl rfl (cell_one_new _ _ _) (by simp [Value.oneCell']) (by unfold maxLen;omega) (by omega) (by simp;omega) ?_;intro v' w3 hown' hgrow _)
     have hb9:=(hb13.alloc hb13.size (.cells #[.slice A3 n3 c3] 58)).grown hgrow (by simp;omega) (fun q hq=>(hloc.lt q hq).1)
     have hs9:=((hsets3.snoc s3).below ((Below.refl wr.heap.size wr).alloc (Nat.le_refl _) (.cells #[.slice A3 n3 c3] 58))).keep (KeepW.grown hgrow hloc (by decide))
     exact ⟨(k+1,v'),rfl,⟨by show k+1≤Ns.length;omega,by first | rfl | trivial,hb9,_,hown',by show Sets _ _ (Ns.take (k+1));rw [HTK.out];exact hs9⟩,by show Ns.length-(k+1) < Ns.length-k;omega⟩
    ·obtain rfl:k=Ns.length:=by omega
     rw [List.take_length] at hsets
     obtain ⟨A9,c9,rfl,hlc,-,hrow9,-⟩:=row_of_own hown
     have hXW:=hX1.below hbW hX1.lt
     have x0:=hXW.cell 0
     have x1:=hXW.cell 1
     have hni:NI W q C Ns A P A9 vs Ns:=⟨h.below bW,hin,hnd.below bW,hfo,hrow9,hsets,rfl,hT.below bW⟩
     have hnode:=node_any q C Ns A c0 P P.length 0 (size-1) A9 c9 vs Ns W (by omega) (by omega) (by omega) (by omega) hlc hni
     rw [← HR4.out] at hnode
     have HN:=hideC hnode
     have hsw:wrap64 (size-1)=size-1:=IntWalk.wrap64_in _ ⟨by omega,by omega⟩
     clear hnode hown hrow9 hsets hni
     obtain ⟨r1,r2⟩:=r
     go_wp2_with fail
     refine HN.out.mono ?_
     rintro e w5 ⟨rfl,hb5⟩
     go_wp2_with fail
     go_ret2
     exact ⟨rfl,bW.trans (hb5.mono bW.size)⟩
  ·have hf:=firstBad_some hn hbn hbm
   have hr:=HR2.out
   rw [hf] at hr
   dsimp only at hr
   have HR3:=Lib.hid hr
   clear hr hf hbm hbn HR2
   go_wp2_with fail
   go_ret2
   exact ⟨by rw [HR3.out];rfl,b1⟩
end Mix2
end Go.Proofs.YtafpmkdlciioaaaGreatDoor
namespace Go.Proofs.YtafpmkdlciioaaaGreatDoor
open Go.RowKit
theorem of_lit {w:World} {g:Nat} (xs:List Int) (N:Nat) (hN:setOf xs=N) (hl:xs.length≤1000000) (hB:Blk w g 3 (xs.map (Value.int .i64)).toArray) :
  Calls Tryz.prog 21 #[.slice (some ⟨g,0,none⟩) xs.length xs.length] w fun e w'=>∃ A n c,e=.returned (.agg #[.slice A n c])∧IsSet w' (.slice A n c) N∧Below w.heap.size w w':=by
 refine (of_any _ _ xs w (Row.of_blk hB fun k u hu=>by rw [List.getElem?_toArray];exact hu) hl).mono ?_
 rintro e w' ⟨r,rfl,hr,hb⟩
 obtain ⟨A,c,rfl,_⟩:=id hr
 rw [← hN]
 exact ⟨_,_,_,rfl,hr,hb⟩
theorem eq_same {w:World} {v u:Value} {N:Nat} (hs:IsSet w v N) (ho:IsSet w u N) :
  Calls Tryz.prog 23 #[.agg #[v],.agg #[u]] w fun e w'=>e=.returned (.bool true)∧Below w.heap.size w w':=by
 have:=equal_any v u N N w hs ho
 rwa [decide_eq_true rfl] at this
theorem ofm_lit {w:World} {g:Nat} (vs:List Value) (Ns:List Nat) (C:Nat) (hB:Blk w g 58 vs.toArray) (hs:Sets w vs Ns) (hC:C≤256) (hn:Ns.length≤256) (hin:rowsIn C Ns) :
  Calls Tryz.prog 20 #[.int .i64 C,.slice (some ⟨g,0,none⟩) Ns.length Ns.length] w fun e w'=>∃ q,e=pair (ptr q) 0∧IsMat w' q C Ns∧Below w.heap.size w w':=by
 refine (ofm_any (some ⟨g,0,none⟩) Ns.length C vs Ns w (Row.of_blk hB fun k u hu=>by rw [List.getElem?_toArray];exact hu) hs hC hn).mono ?_
 rintro e w' (⟨_,h,_⟩ | ⟨q,rfl,_,hm,_,hb⟩)
 ·exact absurd hin h
 ·exact ⟨q,rfl,hm,hb⟩
theorem Sets.one {w:World} {v1:Value} {N1:Nat} (h1:IsSet w v1 N1):Sets w [v1] [N1]:=(Sets.nil w).snoc h1
namespace Mix2
end Mix2
end Go.Proofs.YtafpmkdlciioaaaGreatDoor
namespace Go.Proofs.YtafpmkdlciioaaaGreatDoor
open Go.RowKit
attribute [local go_sem] Oper.semAt_some
theorem awc_1:sizeM 1 [1]=1∧minC 1 [1]=[1]∧((closL 1 [1]).length:Int)≤10∧usersN 1 [1] [1]=[1]:=by decide +kernel
theorem awc_2:validN 1 [1] 1 [1] 1 [1]=true:=by decide +kernel
theorem awc_3:rowsIn 1 [1]:=by
 intro k hk
 simp at hk
 subst hk;decide +kernel
theorem awakeC (w:World) (hT:Tab w) :
  Calls Tryz.prog 4 #[] w fun e w'=>e=.returned (.bool true)∧Below w.heap.size w w':=by
 go_enter Tryz.func4,Tryz.ntmps4
 go_wp2_with fail
 refine (hierarchy_new w hT).mono ?_
 rintro e u1 ⟨lk,rfl,hH,b⟩
 go_upto_region 2 with fail
 refine abs2 fun u2 BR BP hb hz=>?_
 obtain ⟨gr,hgr⟩:∃ x,x=u1.heap.size:=⟨_,rfl⟩
 rw [← hgr] at BR BP ⊢
 replace b:=b.trans (hb.mono b.size)
 replace hH:=hH.below hb
 have hR1:IsR1 u2 gr:=BR
 have lp:=BP.lt
 have p0:=BP.cell 0;have p1:=BP.cell 1;have p2:=BP.cell 2;have p3:=BP.cell 3;have p4:=BP.cell 4;have p5:=BP.cell 5
 have HF:=hideC (forward_h lk gr u2 (hT.below b) hH hR1)
 rw [pV_eq] at HF
 clear hz hb hgr BR
 go_wp2_with fail
 refine HF.out.mono ?_
 rintro e u3 ⟨⟨A3,c3,rfl⟩,hb⟩
 replace b:=b.trans (hb.mono b.size)
 replace hH:=hH.below hb;replace hR1:=hR1.below hb;replace BP:=BP.below hb BP.lt
 clear hb HF p0 p1 p2 p3 p4 p5 lp
 go_wp2_with fail
 refine absC1 fun u4 BI hb hz=>?_
 replace b:=b.trans (hb.mono b.size)
 replace hH:=hH.below hb;replace hR1:=hR1.below hb;replace BP:=BP.below hb BP.lt
 clear hb hz
 refine (of_lit [0] 1 (by decide) (by decide) BI).mono ?_
 rintro e u5 ⟨A5,n5,c5,rfl,s5,hb⟩
 replace b:=b.trans (hb.mono b.size)
 replace hH:=hH.below hb;replace hR1:=hR1.below hb;replace BP:=BP.below hb BP.lt
 clear hb BI
 go_wp2_with fail
 refine absC1 fun u6 BS hb hz=>?_
 replace b:=b.trans (hb.mono b.size)
 replace hH:=hH.below hb;replace hR1:=hR1.below hb;replace BP:=BP.below hb BP.lt
 replace s5:=s5.below hb
 clear hb hz
 refine (ofm_lit [.slice A5 n5 c5] [1] 1 BS (Sets.one s5) (by decide) (by decide) awc_3).mono ?_
 rintro e u7 ⟨q,rfl,hM,hb⟩
 replace b:=b.trans (hb.mono b.size)
 replace hH:=hH.below hb;replace hR1:=hR1.below hb;replace BP:=BP.below hb BP.lt
 clear hb BS s5
 have HM:=hideC (Mix2.minimal_any q 1 [1] 10 u7 hM awc_3 (by decide) (by decide) awc_1.2.2.1 (hT.below b))
 rw [awc_1.1,awc_1.2.1,awc_1.2.2.2] at HM
 go_wp2_with fail
 refine HM.out.mono ?_
 rintro e u8 ⟨u,r,A,n,c,rfl,hu,hr,-,hb⟩
 replace b:=b.trans (hb.mono b.size)
 replace hH:=hH.below hb;replace hR1:=hR1.below hb;replace BP:=BP.below hb BP.lt;replace hM:=hM.below hb
 clear hb HM
 go_upto_region 5 with fail
 refine abs2 fun u9 B6 B7 hb hz=>?_
 obtain ⟨g6,hg6⟩:∃ x,x=u8.heap.size:=⟨_,rfl⟩
 rw [← hg6] at B6 B7 ⊢
 replace b:=b.trans (hb.mono b.size)
 replace hH:=hH.below hb;replace hR1:=hR1.below hb;replace BP:=BP.below hb BP.lt;replace hM:=hM.below hb
 have hu9:=hu.mat.below hb;have hr9:=hr.mat.below hb
 clear hz hb hg6 hu hr B7
 have lp:=BP.lt
 have p0:=BP.cell 0;have p1:=BP.cell 1;have p2:=BP.cell 2;have p3:=BP.cell 3;have p4:=BP.cell 4;have p5:=BP.cell 5
 have HU:=hideC (Mix2.upper_h lk gr u9 (hT.below b) hH hR1)
 rw [pV_eq] at HU
 go_wp2_with fail
 refine HU.out.mono ?_
 rintro e u10 ⟨r10,rfl,s10,hb⟩
 replace b:=b.trans (hb.mono b.size)
 replace hM:=hM.below hb;replace hu9:=hu9.below hb;replace hr9:=hr9.below hb;replace B6:=B6.below hb B6.lt
 obtain ⟨A10,c10,rfl,_⟩:=id s10
 clear hb HU p0 p1 p2 p3 p4 p5 lp BP hR1 hH
 go_wp2_with fail
 refine absC1 fun u11 BI hb hz=>?_
 replace b:=b.trans (hb.mono b.size)
 replace hM:=hM.below hb;replace hu9:=hu9.below hb;replace hr9:=hr9.below hb;replace B6:=B6.below hb B6.lt
 replace s10:=s10.below hb
 clear hb hz
 refine (of_lit [1] 2 (by decide) (by decide) BI).mono ?_
 rintro e u12 ⟨A12,n12,c12,rfl,s12,hb⟩
 replace b:=b.trans (hb.mono b.size)
 replace hM:=hM.below hb;replace hu9:=hu9.below hb;replace hr9:=hr9.below hb;replace B6:=B6.below hb B6.lt
 replace s10:=s10.below hb
 clear hb BI
 have HE:=hideC (eq_same s10 s12)
 go_wp2_with fail
 refine HE.out.mono ?_
 rintro e u13 ⟨rfl,hb⟩
 replace b:=b.trans (hb.mono b.size)
 replace hM:=hM.below hb;replace hu9:=hu9.below hb;replace hr9:=hr9.below hb;replace B6:=B6.below hb B6.lt
 have k0:=B6.cell 0;have k1:=B6.cell 1;have l6:=B6.lt
 have HV:=hideC (valid_any q u r 1 1 1 [1] [1] [1] u13 hM hu9 hr9 awc_3 (hT.below b))
 rw [awc_2] at HV
 clear hb HE s10 s12
 go_wp2_with fail
 refine HV.out.mono ?_
 rintro e u14 ⟨rfl,hb⟩
 go_wp2_with fail
 go_ret
 exact ⟨rfl,b.trans (hb.mono b.size)⟩
end Go.Proofs.YtafpmkdlciioaaaGreatDoor
namespace Go.Proofs.YtafpmkdlciioaaaGreatDoor
open Go.RowKit
theorem under_refl (Ns:List Nat):Under Ns Ns:=⟨rfl,fun _ _ _ h=>h⟩
theorem firstBad_all {P:List Nd} (h:firstBad P=none):∀ n,n < P.length→badN P n=false:=fun n hn=>by
 unfold firstBad at h
 rw [List.find?_eq_none] at h
 have:=h n (List.mem_range.2 hn)
 simpa using this
theorem check_sound {C:Nat} {Ns:List Nat} (hC:C≤12) (hl:Ns.length≤4096) (hin:rowsIn C Ns) {size:Int} {P:List Nd} (h:(checkP C Ns size P).1=1):size=0∨(1≤size∧¬ Cov C Ns (size-1).toNat (cellsOf Ns)):=by
 unfold checkP at h
 by_cases hb:size < 0∨256 < size∨P.length < 1∨5000 < P.length
 ·rw [if_pos hb] at h;exact absurd h (by simp)
 ·rw [if_neg hb] at h
  cases hf:firstBad P with
  | some n=>rw [hf] at h;exact absurd h (by simp)
  | none =>
   rw [hf] at h
   dsimp only at h
   by_cases h0:size=0
   ·exact .inl h0
   ·rw [if_neg h0] at h
    refine .inr ⟨by omega,?_⟩
    rw [nodeP_eq hC hl hin P _ _ _ _ (under_refl Ns)] at h
    exact nodeR_sound hl (form_ok (firstBad_all hf)) P.length 0 (size-1) _ (by omega) (by omega) (by omega) h
theorem mem_chOf {P:List Nd} {c:Int} (h:c∈chOf P):∃ (i:Nat) (x:Nd),P[i]?=some x∧c∈x.ch:=by
 unfold chOf at h
 obtain ⟨x,hx,hc⟩:=List.mem_flatMap.1 h
 obtain ⟨i,hi,e⟩:=List.getElem_of_mem hx
 exact ⟨i,x,by rw [List.getElem?_eq_getElem hi,e],hc⟩
theorem chOf_at {P:List Nd} {n:Nat} {x:Nd} (hx:P[n]?=some x):chOf P=earl P n ++ x.ch ++ chOf (P.drop (n+1)):=by
 obtain ⟨hn,e⟩:=List.getElem?_eq_some_iff.1 hx
 have:P=P.take n ++ x :: P.drop (n+1):=by
  conv=>lhs;rw [← List.take_append_drop n P,List.drop_eq_getElem_cons hn,e]
 conv=>lhs;rw [this]
 rw [chOf_append]
 show _=(P.take n).flatMap Nd.ch ++ _ ++ _
 rw [List.append_assoc]
 congr 1
theorem tree_form {P:List Nd} (h:Tree P 0):∀ n,n < P.length→badN P n=false:=fun n hn=>by
 obtain ⟨h1,h2⟩:=h
 obtain ⟨x,hx⟩:∃ x,P[n]?=some x:=⟨_,List.getElem?_eq_getElem hn⟩
 have hxd:P.getD n default=x:=by rw [List.getD_eq_getElem?_getD,hx];rfl
 obtain ⟨⟨⟨k1,k2⟩,k3⟩,k4⟩:=h1 n hn
 rw [hxd] at k1 k2 k3 k4
 have hnd:(chOf P).Nodup:=h2.nodup_iff.2 (by
  unfold List.Nodup
  rw [List.pairwise_map]
  exact (List.nodup_range' (step:=1) (by omega)).imp fun h e=>h (Int.ofNat.inj e))
 have hearl:0 < n→(n:Int)∈earl P n:=fun h0=>by
  have hm:(n:Int)∈chOf P:=h2.mem_iff.2 (List.mem_map.2 ⟨n,by rw [List.mem_range'_1];omega,rfl⟩)
  obtain ⟨i,y,hy,hc⟩:=mem_chOf hm
  have hi:=(List.getElem?_eq_some_iff.1 hy).1
  have hb:=(h1 i hi).2 (n:Int) (by rw [List.getD_eq_getElem?_getD,hy];exact hc)
  unfold earl
  rw [List.mem_flatMap]
  exact ⟨y,List.mem_of_getElem? (i:=i) (by rw [List.getElem?_take,if_pos (by omega)];exact hy),hc⟩
 unfold badN
 rw [hxd,Bool.or_eq_false_iff]
 constructor
 ·unfold badH
  have e1:decide (x.kind < 1)=false:=decide_eq_false (by omega)
  have e2:decide (3 < x.kind)=false:=decide_eq_false (by omega)
  have e3:(decide (x.kind≠1)&&decide (0 < x.ch.length))=false:=by
   by_cases hk:x.kind=1
   ·simp [hk]
   ·rw [k3 hk];simp
  have e4:(decide (0 < n)&&!decide ((n:Int)∈earl P n))=false:=by
   by_cases h0:0 < n
   ·rw [decide_eq_true (hearl h0)];simp
   ·rw [decide_eq_false h0];rfl
  rw [e1,e2,e3,e4];rfl
 ·rw [List.any_eq_false]
  intro i hi
  rw [List.mem_range] at hi
  have hc:x.ch.getD i 0=x.ch[i]:=by rw [List.getD_eq_getElem?_getD,List.getElem?_eq_getElem hi];rfl
  have hm:x.ch[i]∈x.ch:=List.getElem_mem hi
  have hb:=k4 _ hm
  rw [hc]
  unfold badC
  have e1:decide (x.ch[i]≤(n:Int))=false:=decide_eq_false (by omega)
  have e2:decide ((P.length:Int)≤x.ch[i])=false:=decide_eq_false (by omega)
  have e3:decide (x.ch[i]∈earl P n ++ x.ch.take i)=false:=decide_eq_false fun hmem=>by
   rw [chOf_at hx] at hnd
   have hnd2:=(List.nodup_append.1 hnd).1
   have hsp:earl P n ++ x.ch=(earl P n ++ x.ch.take i) ++ x.ch[i] :: x.ch.drop (i+1):=by
    conv=>lhs;rw [← List.take_append_drop i x.ch,List.drop_eq_getElem_cons hi]
    rw [List.append_assoc]
   rw [hsp,List.nodup_append] at hnd2
   exact hnd2.2.2 _ hmem _ (List.mem_cons_self ..) rfl
  rw [e1,e2,e3];simp
theorem At.lt {P:List Nd} {off:Nat} {L:List Nd} (h:At P off L) (hL:0 < L.length):off < P.length:=by
 obtain ⟨pre,post,rfl,rfl⟩:=h
 simp;omega
section
variable {C:Nat} {Ns L:List Nat}
theorem kidsQ_len {R:Nat→Nat→List Nd→Prop}:∀ {l:List Nat} {off:Nat} {K:List Nd} {ch:List Int},KidsQ R off l K ch→ch.length=l.length
 | [],_,_,_,h=>by obtain ⟨-,rfl⟩:=h;rfl
 | _ :: _,_,_,_,h=>by obtain ⟨Q,K',ch',_,h2,-,rfl⟩:=h;rw [List.length_cons,List.length_cons,kidsQ_len h2]
theorem kidsQ_tree {R:Nat→Nat→List Nd→Prop} (hR:∀ off k Q,R off k Q→Tree Q off∧0 < Q.length):∀ {l:List Nat} {off:Nat} {K:List Nd} {ch:List Int},KidsQ R off l K ch →
  (∀ i,i < K.length→((1≤(K.getD i default).kind∧(K.getD i default).kind≤3)∧((K.getD i default).kind≠1→(K.getD i default).ch=[]))∧∀ c∈(K.getD i default).ch,((off+i:Nat):Int) < c∧c < ((off+K.length:Nat):Int)) ∧
  (ch ++ chOf K).Perm ((List.range' off K.length).map Int.ofNat)∧∀ c∈ch,(off:Int)≤c∧c < ((off+K.length:Nat):Int)
 | [],off,K,ch,h=>by obtain ⟨rfl,rfl⟩:=h;simp [chOf]
 | s :: l,off,K,ch,h=>by
  obtain ⟨Q,K',ch',h0,h2',rfl,rfl⟩:=h
  obtain ⟨⟨h1,h2⟩,hp⟩:=hR off s Q h0
  obtain ⟨k1,k2,k3⟩:=kidsQ_tree hR h2'
  refine ⟨fun i hi=>?_,?_,fun c hc=>?_⟩
  ·rw [List.length_append] at hi ⊢
   by_cases h:i < Q.length
   ·have e:(Q ++ K').getD i default=Q.getD i default:=by rw [List.getD_eq_getElem?_getD,List.getD_eq_getElem?_getD,List.getElem?_append_left h]
    rw [e]
    exact ⟨(h1 i h).1,fun c hc=>by have:=(h1 i h).2 c hc;omega⟩
   ·have e:(Q ++ K').getD i default=K'.getD (i-Q.length) default:=by rw [List.getD_eq_getElem?_getD,List.getD_eq_getElem?_getD,List.getElem?_append_right (by omega)]
    rw [e]
    exact ⟨(k1 _ (by omega)).1,fun c hc=>by have:=(k1 _ (by omega)).2 c hc;omega⟩
  ·rw [chOf_append,List.length_append,range_cut,List.map_append]
   have e:List.range' off Q.length=off :: List.range' (off+1) (Q.length-1):=by
    conv=>lhs;rw [show Q.length=(Q.length-1)+1 by omega,List.range'_succ]
   rw [e,List.map_cons,List.cons_append,List.cons_append]
   refine List.Perm.cons _ ?_
   rw [← List.append_assoc]
   refine (List.perm_append_comm.append_right _).trans ?_
   rw [List.append_assoc]
   exact h2.append k2
  ·rw [List.length_append]
   rcases List.mem_cons.1 hc with rfl | hc
   ·omega
   ·have:=k3 c hc;omega
theorem kidsQ_ok {R:Nat→Nat→List Nd→Prop} {g:Nat→Int→Int×Int} {P:List Nd} {lo:Nat} {f:Nat→Nat}:∀ {l:List Nat} {off:Nat} {K:List Nd} {ch:List Int},KidsQ R off l K ch→lo≤off→At P off K →
  (∀ k∈l,∀ off Q,lo≤off→R off k Q→At P off Q→g (f k) (off:Int)=(1,0))→kidsF g ((l.map f).zip ch)=(1,0)
 | [],_,_,_,h,_,_,_=>by obtain ⟨-,rfl⟩:=h;rfl
 | s :: l,off,K,ch,h,hlo,hat,hg=>by
  obtain ⟨Q,K',ch',h0,h2,rfl,rfl⟩:=h
  have h1:=hg s (by simp) off Q hlo h0 hat.left
  rw [List.map_cons,List.zip_cons_cons,kidsF,h1,if_neg (by simp)]
  exact kidsQ_ok h2 (by omega) hat.right fun k hk=>hg k (by simp [hk])
theorem tree_one {x:Nd} {off:Nat} (h1:1≤x.kind∧x.kind≤3) (h2:x.ch=[]):Tree [x] off:=by
 refine ⟨fun i hi=>?_,by simp [chOf,h2]⟩
 obtain rfl:i=0:=by simpa using hi
 refine ⟨⟨h1,fun _=>h2⟩,fun c hc=>?_⟩
 have e:([x].getD 0 default).ch=[]:=h2
 rw [e] at hc;simp at hc
theorem gq_tree:∀ (b off:Nat) (o:List (Nat×Nat)) (Q:List Nd),GQ C Ns L b off o Q→Tree Q off∧0 < Q.length
 | 0,off,o,Q,h=>by
  obtain ⟨cells,_,_,rfl⟩:=h
  exact ⟨tree_one ⟨by show (1:Int)≤2;decide,by show (2:Int)≤3;decide⟩ rfl,by simp⟩
 | b+1,off,o,Q,h=>by
  obtain ⟨cells,_,h⟩:=h
  rcases h with ⟨_,rfl⟩ | ⟨_,⟨_,rfl⟩ | ⟨_,c,K,ch,_,hk,rfl⟩⟩
  ·exact ⟨tree_one ⟨by show (1:Int)≤2;decide,by show (2:Int)≤3;decide⟩ rfl,by simp⟩
  ·exact ⟨tree_one ⟨by show (1:Int)≤3;decide,by show (3:Int)≤3;decide⟩ rfl,by simp⟩
  ·obtain ⟨k1,k2,k3⟩:=kidsQ_tree (R:=fun off k Q=>GQ C Ns L b off (lessL C Ns o (L.getD k 0)) Q) (fun off k Q hq=>gq_tree b off _ Q hq) hk
   refine ⟨⟨fun i hi=>?_,?_⟩,by simp⟩
   ·rw [List.length_cons] at hi ⊢
    cases i with
    | zero=>exact ⟨⟨⟨by simp,by simp⟩,fun h=>by simp at h⟩,fun c hc=>by have:=k3 c hc;omega⟩
    | succ i=>exact ⟨(k1 i (by omega)).1,fun c hc=>by have:=(k1 i (by omega)).2 c hc;omega⟩
   ·rw [List.length_cons,Nat.add_sub_cancel]
    exact k2
theorem foolP_apart {l:List (Int×Int)} (h:foolP C Ns l=true):apartB C Ns l=true:=by
 unfold foolP at h;rw [Bool.and_eq_true] at h;exact h.2
theorem foolF_ok:∀ (o l:List (Nat×Nat)),apartB C Ns (cz l)=true→apartB C Ns (cz (o.foldl (foolS C Ns) l))=true∧∀ c∈o.foldl (foolS C Ns) l,c∈l∨c∈o
 | [],l,h=>⟨h,fun c hc=>.inl hc⟩
 | d :: o,l,h=>by
  rw [List.foldl_cons]
  have hs:apartB C Ns (cz (foolS C Ns l d))=true∧∀ c∈foolS C Ns l d,c∈l∨c=d:=by
   unfold foolS
   split
   ·rename_i hf
    exact ⟨foolP_apart hf,fun c hc=>by simpa using hc⟩
   ·exact ⟨h,fun c hc=>.inl hc⟩
  obtain ⟨h1,h2⟩:=foolF_ok o _ hs.1
  refine ⟨h1,fun c hc=>?_⟩
  rcases h2 c hc with h3 | h3
  ·rcases hs.2 c h3 with h4 | rfl
   ·exact .inl h4
   ·exact .inr (by simp)
  ·exact .inr (by simp [h3])
theorem foolL_ok (o:List (Nat×Nat)):apartB C Ns (cz (foolL C Ns o))=true∧∀ c∈foolL C Ns o,c∈o:=by
 obtain ⟨h1,h2⟩:=foolF_ok (C:=C) (Ns:=Ns) o [] (by simp [cz,apartB])
 exact ⟨h1,fun c hc=>by
  rcases h2 c hc with h | h
  ·simp at h
  ·exact h⟩
theorem cellsG_ok {b:Nat} {o cells:List (Nat×Nat)} (h:CellsG C Ns b o cells):apartB C Ns (cz cells)=true∧∀ c∈cells,c∈o:=by
 unfold CellsG at h
 split at h
 ·rcases h with rfl | ⟨c,d,hc,hd,rfl,hf⟩
  ·exact ⟨by simp [cz,apartB],by simp⟩
  ·refine ⟨foolP_apart hf,fun x hx=>?_⟩
   simp only [List.mem_cons,List.mem_nil_iff,or_false] at hx
   rcases hx with rfl | rfl
   ·exact hc
   ·exact hd
 ·subst h;exact foolL_ok o
theorem cz_in {o cells:List (Nat×Nat)} (h:∀ c∈cells,c∈o):(cz cells).all (isIn o)=true:=by
 rw [List.all_eq_true]
 intro x hx
 obtain ⟨c,hc,rfl⟩:=List.mem_map.1 hx
 exact isIn_iff.2 ⟨c,h c hc,rfl⟩
theorem fool_node {P:List Nd} {f off b:Nat} {o cells:List (Nat×Nat)} (hap:apartB C Ns (cz cells)=true) (hin:∀ c∈cells,c∈o) (hlt:b < cells.length) (hat:At P off [⟨2,0,0,[],cz cells⟩]):nodeR C Ns P (f+1) off b o=(1,0):=by
 have hg:=hat.get (i:=0) (by simp)
 rw [Nat.add_zero] at hg
 have hx:P.getD off default=⟨2,0,0,[],cz cells⟩:=hg
 have hl:(cz cells).length=cells.length:=by simp [cz]
 rw [nodeR,Int.toNat_natCast,hx]
 rw [if_pos rfl,if_neg (by rw [cz_in hin];simp),if_neg (by rw [hap];simp [hl];omega)]
theorem most_gain (o:List (Nat×Nat)):mostL C Ns o≤gainM C Ns (allL C Ns) o:=by
 unfold mostL
 refine foldl_max_bound _ _ _ (Nat.zero_le _) fun x hx=>?_
 obtain ⟨s,hs,rfl⟩:=List.mem_map.1 hx
 rw [List.mem_filter,decide_eq_true_eq,List.mem_range] at hs
 have hcnt:=count_less (C:=C) (Ns:=Ns) o s
 by_cases h0:o.countP (inS C Ns s)=0
 ·omega
 ·obtain ⟨c,hc,hi⟩:=List.countP_pos_iff.1 (Nat.pos_of_ne_zero h0)
  have hsm:s∈allL C Ns:=by
   unfold allL
   rw [mem_allTo]
   unfold inS at hi
   rw [Bool.and_eq_true] at hi
   refine ⟨hs.1,fun e=>?_,?_⟩
   ·rw [e] at hi;simp at hi
   ·unfold oneS
    rw [Bool.and_eq_true,decide_eq_true_eq,Bool.not_eq_true',decide_eq_false_iff_not]
    exact ⟨hs.2,fun e=>by rw [e] at hi;simp at hi⟩
  obtain ⟨k,hk,e⟩:=List.getElem_of_mem hsm
  have:=gainM_ge (C:=C) (Ns:=Ns) (L:=allL C Ns) (o:=o) hk
  rw [getD_at hk,e] at this
  omega
theorem filter_get {p:Nat→Bool} (l:List Nat):((List.range l.length).filter fun k=>p (l.getD k 0)).map (fun k=>l.getD k 0)=l.filter p:=by
  have:((List.range l.length).map fun k=>l.getD k 0)=l:=by
   refine List.ext_getElem (by simp) fun i h1 h2=>?_
   simp [List.getD_eq_getElem?_getD,h2]
  conv=>rhs;rw [← this]
  rw [List.filter_map]
  rfl
theorem arK_con {c:Nat×Nat}:(arK C Ns (allL C Ns) 0 c).map (fun k=>(allL C Ns).getD k 0)=conL C Ns c.1 c.2:=by
 rw [← allL_con,← filter_get]
 unfold arK
 congr 1
theorem pick_in {ar:Nat×Nat→List Nat} {o:List (Nat×Nat)} {c:Nat×Nat} (h:pickK ar o none=some c):c∈o:=by
 have hne:o≠[]:=fun e=>by rw [e] at h;simp [pickK] at h
 obtain ⟨c',h1,h2,_⟩:=pickK_mem ar hne
 rw [h] at h1
 cases h1;exact h2
theorem gq_ok (hC:C≤12) {P:List Nd}:∀ (b f off:Nat) (o:List (Nat×Nat)) (Q:List Nd),P.length≤f+off→GQ C Ns (allL C Ns) b off o Q→At P off Q→nodeR C Ns P f off b o=(1,0)
 | 0,f,off,o,Q,hf,h,hat=>by
  have hlt:=hat.lt (gq_tree _ _ _ _ h).2
  obtain ⟨f,rfl⟩:∃ f',f=f'+1:=⟨f-1,by omega⟩
  obtain ⟨cells,hc,hpos,rfl⟩:=h
  obtain ⟨h1,h2⟩:=cellsG_ok hc
  exact fool_node h1 h2 hpos hat
 | b+1,f,off,o,Q,hf,h,hat=>by
  have hlt:=hat.lt (gq_tree _ _ _ _ h).2
  obtain ⟨f,rfl⟩:∃ f',f=f'+1:=⟨f-1,by omega⟩
  obtain ⟨cells,hc,h⟩:=h
  obtain ⟨h1,h2⟩:=cellsG_ok hc
  rcases h with ⟨hlen,rfl⟩ | ⟨_,⟨hcnt,rfl⟩ | ⟨_,c,K,ch,hpick,hk,rfl⟩⟩
  ·exact fool_node h1 h2 hlen hat
  ·have hg:=hat.get (i:=0) (by simp)
   rw [Nat.add_zero] at hg
   have hx:P.getD off default=⟨3,0,0,[],[]⟩:=hg
   rw [nodeR,Int.toNat_natCast,hx]
   have hm:=Nat.mul_le_mul_left (b+1) (most_gain (C:=C) (Ns:=Ns) o)
   have hno:¬ (12 < C∨(o.length:Int)≤((b+1:Nat):Int)*(mostL C Ns o:Int)):=by
    rw [← Int.natCast_mul];omega
   rw [if_neg (by simp),if_pos rfl,if_neg hno]
  ·have hg:=hat.get (i:=0) (by simp)
   have ht:=hat.tail
   rw [Nat.add_zero] at hg
   have hx:P.getD off default=⟨1,(c.1:Int),(c.2:Int),ch,[]⟩:=hg
   have hin:isIn o ((c.1:Int),(c.2:Int))=true:=isIn_iff.2 ⟨_,pick_in hpick,rfl⟩
   have hlen:(conL C Ns c.1 c.2).length=ch.length:=by rw [← arK_con,List.length_map,kidsQ_len hk]
   rw [nodeR,Int.toNat_natCast,hx]
   rw [if_neg (by simp),if_neg (by simp),if_neg (by simp [hin]),if_neg (by omega)]
   dsimp only
   rw [Int.toNat_natCast,Int.toNat_natCast,if_neg (by simp [hlen]),← arK_con]
   refine kidsQ_ok (lo:=off+1) hk (Nat.le_refl _) ht fun k _ off' Q hlo hq h'=>?_
   rw [show ((b+1:Nat):Int)-1=(b:Int) by omega]
   exact gq_ok hC b f off' _ Q (by omega) hq h'
theorem min_check (hC:C≤12) (hl:Ns.length≤4096) (hin:rowsIn C Ns) {P:List Nd} (hP:P.length≤5000) (hsz:sizeM C Ns≤256) (h0:sizeM C Ns=0→P=[⟨3,0,0,[],[]⟩]) (h:∀ b,sizeM C Ns=b+1→GQ C Ns (allL C Ns) b 0 (cellsOf Ns) P):checkP C Ns (sizeM C Ns:Nat) P=(1,0):=by
 have htr:Tree P 0∧0 < P.length:=by
  rcases Nat.eq_zero_or_pos (sizeM C Ns) with e | e
  ·rw [h0 e];exact ⟨tree_one ⟨by show (1:Int)≤3;decide,by show (3:Int)≤3;decide⟩ rfl,by simp⟩
  ·exact gq_tree _ _ _ _ (h (sizeM C Ns-1) (by omega))
 unfold checkP
 rw [if_neg (by omega),firstBad_none (tree_form htr.1)]
 dsimp only
 by_cases e:sizeM C Ns=0
 ·rw [if_pos (by omega)]
 ·rw [if_neg (by omega),nodeP_eq hC hl hin P _ _ _ _ (under_refl Ns)]
  rw [show ((sizeM C Ns:Nat):Int)-1=((sizeM C Ns-1:Nat):Int) by omega]
  exact gq_ok hC _ _ 0 _ P (by omega) (h (sizeM C Ns-1) (by omega)) ⟨[],[],by simp,rfl⟩
theorem min_worse (hC:C≤12) (hl:Ns.length≤4096) (hin:rowsIn C Ns) (P:List Nd):(checkP C Ns ((sizeM C Ns:Nat)+1:Int) P).1≠1:=fun h=>by
 obtain ⟨h1,h2⟩:=minK_spec (C:=C) hl hin
 rcases check_sound hC hl hin h with e | ⟨_,e⟩
 ·omega
 ·rw [show ((sizeM C Ns:Nat)+1-1:Int).toNat=sizeM C Ns by omega] at e
  exact e ⟨minC C Ns,by rw [h1];exact Nat.le_refl _,minC_clo,h2⟩
theorem ch_le {x:Nd}:∀ (P:List Nd),x∈P→x.ch.length≤(chOf P).length
 | [],h=>by simp at h
 | y :: P,h=>by
  show x.ch.length≤(y.ch ++ chOf P).length
  rw [List.length_append]
  rcases List.mem_cons.1 h with rfl | h
  ·omega
  ·have:=ch_le P h;omega
theorem foolF_ln:∀ (o l:List (Nat×Nat)),(o.foldl (foolS C Ns) l).length≤l.length+o.length
 | [],l=>Nat.le_refl _
 | d :: o,l=>by
  rw [List.foldl_cons,List.length_cons]
  have h1:=foolF_ln o (foolS C Ns l d)
  have h2:(foolS C Ns l d).length≤l.length+1:=by unfold foolS;split <;> simp
  omega
theorem cellsG_len {b B:Nat} {o cells:List (Nat×Nat)} (h:CellsG C Ns b o cells) (h2:2≤B) (hB:o.length≤B):cells.length≤B:=by
 unfold CellsG at h
 split at h
 ·rcases h with rfl | ⟨c,d,_,_,rfl,_⟩
  ·exact Nat.zero_le _
  ·exact h2
 ·subst h
  have:=foolF_ln (C:=C) (Ns:=Ns) o []
  rw [List.length_nil,Nat.zero_add] at this
  unfold foolL;omega
theorem kidsQ_mem {R:Nat→Nat→List Nd→Prop} {p:Nd→Prop} (hR:∀ off k Q,R off k Q→∀ x∈Q,p x):∀ {l:List Nat} {off:Nat} {K:List Nd} {ch:List Int},KidsQ R off l K ch→∀ x∈K,p x
 | [],_,_,_,h,x,hx=>by obtain ⟨rfl,-⟩:=h;simp at hx
 | _ :: _,_,_,_,h,x,hx=>by
  obtain ⟨Q,K',ch',h1,h2,rfl,-⟩:=h
  rcases List.mem_append.1 hx with hx | hx
  ·exact hR _ _ _ h1 x hx
  ·exact kidsQ_mem hR h2 x hx
theorem gq_cells {B:Nat} (h2:2≤B):∀ (b off:Nat) (o:List (Nat×Nat)) (Q:List Nd),GQ C Ns L b off o Q→o.length≤B→∀ x∈Q,x.cells.length≤B
 | 0,off,o,Q,h,hB,x,hx=>by
  obtain ⟨cells,hc,_,rfl⟩:=h
  obtain rfl:=List.mem_singleton.1 hx
  show (cz cells).length≤B
  unfold cz;rw [List.length_map]
  exact cellsG_len hc h2 hB
 | b+1,off,o,Q,h,hB,x,hx=>by
  obtain ⟨cells,hc,h⟩:=h
  rcases h with ⟨_,rfl⟩ | ⟨_,⟨_,rfl⟩ | ⟨_,c,K,ch,_,hk,rfl⟩⟩
  ·obtain rfl:=List.mem_singleton.1 hx
   show (cz cells).length≤B
   unfold cz;rw [List.length_map]
   exact cellsG_len hc h2 hB
  ·obtain rfl:=List.mem_singleton.1 hx
   exact Nat.zero_le _
  ·rcases List.mem_cons.1 hx with rfl | hx
   ·exact Nat.zero_le _
   ·exact kidsQ_mem (p:=fun x=>x.cells.length≤B) (R:=fun off k Q=>GQ C Ns L b off (lessL C Ns o (L.getD k 0)) Q) (fun off k Q hq=>gq_cells h2 b off _ Q hq (Nat.le_trans (lessL_len ..) hB)) hk x hx
theorem tree_ok {P:List Nd} (h:Tree P 0) (hP:P.length≤5000) (hc:∀ x∈P,x.cells.length≤1000):∀ x∈P,NdOK x:=fun x hx=>by
 obtain ⟨i,hi,e⟩:=List.getElem_of_mem hx
 have h1:=(h.1 i hi).1.1
 have e2:P.getD i default=x:=by rw [List.getD_eq_getElem?_getD,List.getElem?_eq_getElem hi,e];rfl
 rw [e2] at h1
 have h3:=ch_le P hx
 have h4:=h.2.length_eq
 rw [List.length_map,List.length_range'] at h4
 have h5:=hc x hx
 exact ⟨by omega,by omega,by omega,by omega⟩
theorem min_nodes (hC:C≤5) (hR:Ns.length≤5) (hin:rowsIn C Ns) {P:List Nd} (hP:P.length≤5000) (h0:sizeM C Ns=0→P=[⟨3,0,0,[],[]⟩]) (h:∀ b,sizeM C Ns=b+1→GQ C Ns (allL C Ns) b 0 (cellsOf Ns) P):∀ x∈P,NdOK x:=by
 rcases Nat.eq_zero_or_pos (sizeM C Ns) with e | e
 ·rw [h0 e]
  intro x hx
  obtain rfl:=List.mem_singleton.1 hx
  exact ⟨by show 0≤_;omega,by show 0≤_;omega,by decide,by decide⟩
 ·have hq:=h (sizeM C Ns-1) (by omega)
  have hcl:=cells_small hR hC hin (under_self Ns)
  exact tree_ok (gq_tree _ _ _ _ hq).1 hP (gq_cells (by omega) _ _ _ _ hq hcl)
theorem GN.nodes_is {w:World} {base:Nat} {v:Value} {P:List Nd} {vss:List (List Value)} (h:GN w base v P vss) (hok:∀ x∈P,NdOK x):∃ A c,v=.slice A P.length c∧P.length≤c∧IsNodes w A P:=by
 obtain ⟨A,c,rfl,hr,hc,_⟩:=RowN.of_own h.own
 refine ⟨A,c,rfl,hc,vss,h.len,fun k x hx=>?_,hr⟩
 obtain ⟨vs,e,v3,v4,rfl,q3,q4⟩:=h.nodes k x hx
 obtain ⟨A1,c1,rfl,r1,_,_⟩:=RowN.of_own q3
 obtain ⟨A2,c2,rfl,r2,hc2,_⟩:=RowN.of_own q4
 obtain ⟨o1,o2,o3,o4⟩:=hok x (List.mem_of_getElem? hx)
 exact ⟨_,e,A1,c1,A2,c2,rfl,r1,r2,hc2,o2,o1,o3,o4⟩
theorem MinP.check {w:World} {v:Value} (h:MinP w v C Ns) (hC:C≤5) (hR:Ns.length≤5) (hin:rowsIn C Ns) :
  ∃ (P:List Nd) (A:Option Addr) (c:Nat),v=.slice A P.length c∧IsNodes w A P∧checkP C Ns (sizeM C Ns:Nat) P=(1,0)∧(checkP C Ns ((sizeM C Ns:Nat)+1:Int) P).1≠1:=by
 obtain ⟨base,vss,P,h1,h2,h3,h4⟩:=h
 obtain ⟨A,c,e,_,h5⟩:=h1.nodes_is (min_nodes hC hR hin h2 h3 h4)
 have hs:=sizeM_le (C:=C) (Ns:=Ns) (by omega) hin
 exact ⟨P,A,c,e,h5,min_check (by omega) (by omega) hin h2 (by omega) h3 h4,min_worse (by omega) (by omega) hin P⟩
end
end Go.Proofs.YtafpmkdlciioaaaGreatDoor
