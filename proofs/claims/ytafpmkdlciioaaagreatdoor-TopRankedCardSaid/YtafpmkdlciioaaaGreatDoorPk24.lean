import Derived.Test.YtafpmkdlciioaaaGreatDoorPk17
import Derived.Test.YtafpmkdlciioaaaGreatDoorPk22
import Derived.Test.YtafpmkdlciioaaaGreatDoorPk23
import Derived.Test.YtafpmkdlciioaaaGreatDoorPk03
import Derived.Test.YtafpmkdlciioaaaGreatDoorPk05
import Derived.Deep.DeepCutAuto
import Derived.Deep.CutBlock
set_option maxHeartbeats 40000000
set_option maxRecDepth 100000
namespace Go.Proofs.YtafpmkdlciioaaaGreatDoor
open Go.RowKit
theorem clos_100t {C:Nat} (Ns:List Nat) (hC:C≤5):((closL C Ns).length:Int)≤100:=by
 have h1:=closL_len C Ns
 have h2:2 ^ C≤2 ^ 5:=Nat.pow_le_pow_right (by omega) hC
 omega
theorem both_zero {a b:Nat} (h:decide (a=0)=decide (b=0)):(((a:Int) == 0) == ((b:Int) == 0))=true:=by
 have h':=decide_eq_decide.1 h
 by_cases ha:a=0
 ·have hb:=h'.1 ha
  subst ha hb
  rfl
 ·have hb:¬ b=0:=fun e=>ha (h'.2 e)
  have e1:((a:Int) == 0)=false:=by simpa using ha
  have e2:((b:Int) == 0)=false:=by simpa using hb
  rw [e1,e2];rfl
namespace Mix2
theorem ranked_walk (v:Value) (R C:Nat) (zs:List Int) (w:World) (hT:Tab w) (h:IsRaw w v R C zs) :
  Calls Tryz.prog 3 #[v] w fun e w'=>e=.returned (.bool true)∧Below w.heap.size w w':=by
 have hbd:=h.bd
 obtain ⟨r,c,A0,d0,hv,_⟩:=id h
 subst hv
 have HIN:=hideC h;clear h
 go_enter Tryz.func3,Tryz.ntmps3
 go_wp2_with fail
 refine absC1 fun W0 hX hbel0 hz=>?_
 clear hz
 refine (awakeC W0 (hT.below hbel0)).mono ?_
 rintro e w1 ⟨rfl,hb1⟩
 have b1:=hbel0.trans (hb1.mono hbel0.size)
 replace hX:=hX.below hb1 hX.lt
 have x0:=hX.cell 0
 have x1:=hX.cell 1
 have x2:=hX.cell 2
 have HM:=hideC (make_raw _ R C zs w1 (HIN.out.below b1))
 go_wp2_with fail
 refine HM.out.mono ?_
 rintro e w2 ⟨A2,c2,rfl,hI,hb2⟩
 have b:=b1.trans (hb2.mono b1.size)
 obtain ⟨M,hMd⟩:∃ M,M=rawM R C zs:=⟨_,rfl⟩
 have hML:M.length=R:=by rw [hMd,mat_len]
 rw [← hMd] at hI
 subst hML
 obtain ⟨hR5,hC5⟩:=hbd
 have hnl:(nsOf C M).length=M.length:=nsTo_len ..
 have hin:=rowsIn_nsOf C M (by omega)
 clear hMd HM HIN hbel0 hb1 hb2 b1 x0 x1 x2 hX
 go_upto_region 4 with fail
 refine abs1 fun w3 BT hb hz=>?_
 clear hz
 replace b:=b.trans (hb.mono b.size);replace hI:=hI.below hb
 clear hb
 have t0:=BT.cell 0
 have t1:=BT.cell 1
 go_wp2_with fail
 refine (matrixl_any C A2 c2 M _ hI (by omega) (by omega)).mono ?_
 rintro e w4 ⟨q,rfl,hq,-,hb⟩
 replace b:=b.trans (hb.mono b.size);replace hI:=hI.below hb;replace BT:=BT.below hb BT.lt
 clear hb t0 t1
 have HIR:=Lib.hid hI
 obtain ⟨Ns,hNs⟩:∃ N,N=nsOf C M:=⟨_,rfl⟩
 have HNS:=Lib.hid hNs
 rw [← hNs] at hq hin hnl
 have hN5:Ns.length≤5:=by omega
 have hl:Ns.length≤4096:=by omega
 clear hNs hnl
 have hM1:=minimal_any q C Ns 100 w4 hq hin hN5 hC5 (clos_100t Ns hC5) (hT.below b)
 obtain ⟨hlen,-⟩:=minK_spec (C:=C) hl hin
 have hm32:(minC C Ns).length≤4096:=Nat.le_trans (minC_len hC5) (by decide)
 have hnv:=min_valid hl hin hm32
 have hnr:=users_rowsG (C:=C) (Ns:=Ns) hm32
 have hnc:=min_rowsC (C:=C) (Ns:=Ns)
 have hnn:=norm_len hl hin hm32
 have hg25:=greC_len hin hN5 hC5
 have hgv:=greC_facts hl hin (Nat.le_trans hg25 (by decide))
 have hgr:=users_rowsG (C:=C) (Ns:=Ns) (M:=greC C Ns) (Nat.le_trans hg25 (by decide))
 have hsl:=simp_len hl hin (Nat.le_trans hg25 (by decide))
 have hbl:=bestP_le (C:=C) hl hin
 have hzo:=zero_ones (C:=C) hl hin
 have hG:=fun W (hb:Below w.heap.size w W) (h:IsMat W q C Ns)=>greedyc_any q C Ns W h hin hN5 hC5 (hT.below hb)
 have huC:(usersN C Ns (minC C Ns)).length=Ns.length:=by unfold usersN;rw [mtrans_len]
 have huG:(usersN C Ns (greC C Ns)).length=Ns.length:=by unfold usersN;rw [mtrans_len]
 have hsT:=sizeM_trans (C:=C) hl (by omega) hin
 have hsz5:=sizeM_le (C:=C) hl hin
 obtain ⟨U1,hU1⟩:∃ x,x=usersN C Ns (minC C Ns):=⟨_,rfl⟩
 obtain ⟨UG,hUG⟩:∃ x,x=usersN C Ns (greC C Ns):=⟨_,rfl⟩
 rw [← hU1] at hM1 hnv hnr hnn huC
 rw [← hUG] at hgv hgr hsl huG
 have HG:=Lib.hid hG
 clear hG
 obtain ⟨M1,hM1e⟩:∃ x,x=minC C Ns:=⟨_,rfl⟩
 rw [← hM1e] at hM1 hnv hnr hnn hnc hlen hm32
 obtain ⟨G,hGe⟩:∃ x,x=greC C Ns:=⟨_,rfl⟩
 have HGX:=HG
 have HGE:=Lib.hid hGe
 have HUG:=Lib.hid hUG
 rw [← hGe] at hgv hgr hsl hg25
 obtain ⟨K,hK⟩:∃ x,x=simQ (validQ C Ns) (roleQ G.length UG G G.length):=⟨_,rfl⟩
 rw [← hK] at hsl
 obtain ⟨K2,hK2⟩:∃ x,x=normL (roleQ M1.length U1 M1 M1.length):=⟨_,rfl⟩
 rw [← hK2] at hnn
 have HK:=Lib.hid hK;have HK2:=Lib.hid hK2
 have HSZ:=Lib.hid hlen.symm
 clear hU1 hUG hM1e hGe hK hK2
 obtain ⟨sz,hsz⟩:∃ s,s=sizeM C Ns:=⟨_,rfl⟩
 rw [← hsz] at hM1 hlen hnn hsl hbl hzo hsz5
 have HSE:=Lib.hid hsz
 have HF:=Lib.hid (And.intro hlen (And.intro hnn (And.intro hsl (And.intro hbl (And.intro hzo (And.intro hsz5 (And.intro hm32 hg25)))))))
 have HMV:=Lib.hid (And.intro hnv (And.intro hnr (And.intro hnc (And.intro hgv (And.intro hgr (And.intro huC huG))))))
 have HST:=Lib.hid hsT
 have HM1:=hideC hM1
 clear hM1 hlen hnn hsl hbl hzo hsz5 hm32 hg25 hnv hnr hnc hgv hgr huC huG hsT hsz hI
 go_wp2_with fail
 refine HM1.out.mono ?_
 rintro e w5 ⟨u1,r1,A1,n1,c1,rfl,hu1,hr1,hp1,hb⟩
 replace b:=b.trans (hb.mono b.size);replace BT:=BT.below hb BT.lt;replace hq:=hq.below hb
 obtain ⟨P,AP,cP,hPv,hnd,hchk,hworse⟩:=hp1.check hC5 hN5 hin
 cases hPv
 rw [← HSE.out] at hchk hworse
 have HI5:=Lib.hid (HIR.out.below hb)
 clear HM1 hb hp1 HIR
 have b5:=Below.refl w5.heap.size w5
 have hgw0:=b.size
 have HQ5:=Lib.hid hq;have HND5:=Lib.hid hnd;have HT5:=Lib.hid BT
 go_upto_region 6 with fail
 refine abs2 fun w6 B5 B6 hb hz=>?_
 clear hz
 replace b:=b.trans (hb.mono b.size);replace b5:=b5.trans (hb.mono b5.size);replace BT:=BT.below hb BT.lt;replace hq:=hq.below hb;replace hu1:=hu1.below hb;replace hr1:=hr1.below hb;replace hnd:=hnd.below hb
 obtain ⟨g5,hg5⟩:∃ x,x=w5.heap.size:=⟨_,rfl⟩
 rw [← hg5] at B5 B6 ⊢
 have HGW:=Lib.hid (show w.heap.size≤g5 by rw [hg5];exact hgw0)
 have HG5:=Lib.hid hg5
 clear hb hg5 hgw0
 have HGR:=hideC (HG.out w6 b hq)
 rw [← HUG.out,← HGE.out] at HGR
 go_wp2_with fail
 refine HGR.out.mono ?_
 rintro e w7 ⟨ug,rg,rfl,hug,hrg,hb⟩
 replace b:=b.trans (hb.mono b.size);replace b5:=b5.trans (hb.mono b5.size);replace BT:=BT.below hb BT.lt;replace hq:=hq.below hb;replace hu1:=hu1.below hb;replace hr1:=hr1.below hb;replace hnd:=hnd.below hb
 replace B5:=B5.below hb B5.lt;replace B6:=B6.below hb B6.lt
 clear hb HGR HG HGX HGE HUG
 go_upto_region 7 with fail
 refine abs1 fun w8 B8 hb hz=>?_
 clear hz
 replace b:=b.trans (hb.mono b.size);replace b5:=b5.trans (hb.mono b5.size);replace BT:=BT.below hb BT.lt;replace hq:=hq.below hb;replace hu1:=hu1.below hb;replace hr1:=hr1.below hb;replace hnd:=hnd.below hb;replace B5:=B5.below hb B5.lt;replace B6:=B6.below hb B6.lt;replace hug:=hug.below hb;replace hrg:=hrg.below hb
 obtain ⟨g8,hg8⟩:∃ x,x=w7.heap.size:=⟨_,rfl⟩
 rw [← hg8] at B8 ⊢
 clear hb hg8
 have k0:=B5.cell 0;have k1:=B5.cell 1
 have HV1:=hideC (valid_any q u1 r1 C M1.length C Ns U1 M1 w8 hq hu1.mat hr1.mat HMV.out.2.1 (hT.below b))
 rw [HMV.out.1] at HV1
 go_wp2_with fail
 refine HV1.out.mono ?_
 rintro e w9 ⟨rfl,hb⟩
 replace b:=b.trans (hb.mono b.size);replace b5:=b5.trans (hb.mono b5.size);replace BT:=BT.below hb BT.lt;replace hq:=hq.below hb;replace hu1:=hu1.below hb;replace hr1:=hr1.below hb;replace hnd:=hnd.below hb;replace B5:=B5.below hb B5.lt;replace B6:=B6.below hb B6.lt;replace hug:=hug.below hb;replace hrg:=hrg.below hb;replace B8:=B8.below hb B8.lt;clear hb HV1 k0 k1
 have k0:=B8.cell 0;have k1:=B8.cell 1
 have HV2:=hideC (valid_any q ug rg C G.length C Ns UG G w9 hq hug.mat hrg.mat HMV.out.2.2.2.2.1 (hT.below b))
 rw [HMV.out.2.2.2.1.1] at HV2
 go_wp2_with fail
 refine HV2.out.mono ?_
 rintro e w10 ⟨rfl,hb⟩
 replace b:=b.trans (hb.mono b.size);replace b5:=b5.trans (hb.mono b5.size);replace BT:=BT.below hb BT.lt;replace hq:=hq.below hb;replace hu1:=hu1.below hb;replace hr1:=hr1.below hb;replace hnd:=hnd.below hb;replace B5:=B5.below hb B5.lt;replace B6:=B6.below hb B6.lt;replace hug:=hug.below hb;replace hrg:=hrg.below hb;replace B8:=B8.below hb B8.lt;clear hb HV2 k0 k1
 have k1:=B5.cell 1
 have HR1:=hideC (rows_any r1 C M1 w10 hr1.mat)
 rw [HF.out.1] at HR1
 go_wp2_with fail
 refine HR1.out.mono ?_
 rintro e w' ⟨rfl,rfl⟩
 clear HR1 k1
 have k0:=B6.cell 0;have k1:=B6.cell 1
 have hck:=check_any q C Ns (sz:Nat) A1 c1 P w10 hq hin hnd (hT.below b)
 rw [hchk] at hck
 have HCK:=hideC hck
 have HWO:=Lib.hid hworse
 clear hck hchk hworse
 go_wp2_with fail
 refine HCK.out.mono ?_
 rintro e w11 ⟨rfl,hb⟩
 replace b:=b.trans (hb.mono b.size);replace b5:=b5.trans (hb.mono b5.size);replace BT:=BT.below hb BT.lt;replace hq:=hq.below hb;replace hu1:=hu1.below hb;replace hr1:=hr1.below hb;replace hnd:=hnd.below hb;replace B5:=B5.below hb B5.lt;replace B6:=B6.below hb B6.lt;replace hug:=hug.below hb;replace hrg:=hrg.below hb;replace B8:=B8.below hb B8.lt;clear hb HCK k0 k1
 have c0:=B6.cell 0;have f0:=B6.frozen 0;have l6:=B6.lt
 have hs5:sz≤5:=by have:=HF.out.2.2.2.2.2.1;omega
 go_upto_region 12 with fail
 clear c0 f0 l6
 have hg5:=HG5.out
 have hgw:w.heap.size≤g5+1:=by have:=HGW.out;omega
 obtain ⟨w12,hw12⟩:∃ V,V=w11.setCell ⟨g5+1,0,none⟩ (.int .i64 ((sz:Int)+1)):=⟨_,rfl⟩
 replace b:=b.setCell (p:=⟨g5+1,0,none⟩) hgw (.int .i64 ((sz:Int)+1));rw [← hw12] at b
 replace b5:=b5.setCell (p:=⟨g5+1,0,none⟩) (by show w5.heap.size≤g5+1;omega) (.int .i64 ((sz:Int)+1));rw [← hw12] at b5
 replace hug:=hug.put (i:=0) B6 (by decide) (by decide) (by decide) (.int .i64 ((sz:Int)+1));rw [← hw12] at hug
 replace hrg:=hrg.put (i:=0) B6 (by decide) (by decide) (by decide) (.int .i64 ((sz:Int)+1));rw [← hw12] at hrg
 replace hu1:=hu1.put (i:=0) B6 (by decide) (by decide) (by decide) (.int .i64 ((sz:Int)+1));rw [← hw12] at hu1
 replace hr1:=hr1.put (i:=0) B6 (by decide) (by decide) (by decide) (.int .i64 ((sz:Int)+1));rw [← hw12] at hr1
 replace B5:=B5.far (p:=⟨g5+1,0,none⟩) (B5.ne_ B6 (by decide)) (.int .i64 ((sz:Int)+1));rw [← hw12] at B5
 replace B8:=B8.far (p:=⟨g5+1,0,none⟩) (B8.ne_ B6 (by decide)) (.int .i64 ((sz:Int)+1));rw [← hw12] at B8
 replace B6:=B6.set_ 0 (.int .i64 ((sz:Int)+1));rw [← hw12] at B6
 clear hq hnd BT
 have hq:=HQ5.out.below b5
 have hnd:=HND5.out.below b5
 have BT:=HT5.out.below b5 HT5.out.lt
 have hI:=HI5.out.below b5
 rw [← hw12]
 clear hw12 b5 hg5 hgw HG5 HGW HQ5 HND5 HT5 HI5
 have k0:=B6.cell 0;have k1:=B6.cell 1
 have hck:=check_any q C Ns ((sz:Int)+1) A1 c1 P w12 hq hin hnd (hT.below b)
 have hwo:=HWO.out
 obtain ⟨pr,hpr⟩:∃ p,p=checkP C Ns ((sz:Int)+1) P:=⟨_,rfl⟩
 rw [← hpr] at hck hwo
 have HCK:=hideC hck
 have HWO2:=Lib.hid hwo
 clear hck hwo hpr HWO hnd
 go_wp2_with fail
 refine HCK.out.mono ?_
 rintro e w13 ⟨rfl,hb⟩
 replace b:=b.trans (hb.mono b.size);replace hq:=hq.below hb;replace hug:=hug.below hb;replace hrg:=hrg.below hb;replace hu1:=hu1.below hb;replace hr1:=hr1.below hb;replace hI:=hI.below hb;replace B5:=B5.below hb B5.lt;replace B8:=B8.below hb B8.lt;replace B6:=B6.below hb B6.lt;replace BT:=BT.below hb BT.lt
 clear hb HCK k0 k1
 have k0:=B8.cell 0;have k1:=B8.cell 1
 have HSI:=hideC (simplify_any q ug rg C G.length Ns UG G K w13 hq hug.mat hrg.mat HMV.out.2.2.2.2.1 HMV.out.2.2.2.1.2 (hT.below b) (by omega) (by omega) (Nat.le_trans HF.out.2.2.2.2.2.2.2 (by decide)) HMV.out.2.2.2.2.2.2 HMV.out.2.2.2.1.1 HK.out)
 go_wp2_with fail
 refine HSI.out.mono ?_
 rintro e w14 ⟨us,rs,rfl,-,hrs,hb⟩
 replace b:=b.trans (hb.mono b.size);replace hq:=hq.below hb;replace hug:=hug.below hb;replace hrg:=hrg.below hb;replace hu1:=hu1.below hb;replace hr1:=hr1.below hb;replace hI:=hI.below hb;replace B5:=B5.below hb B5.lt;replace B8:=B8.below hb B8.lt;replace B6:=B6.below hb B6.lt;replace BT:=BT.below hb BT.lt
 clear hb HSI k0 k1
 go_upto_region 14 with fail
 refine abs1 fun w15 BS hb hz=>?_
 clear hz
 replace b:=b.trans (hb.mono b.size);replace hq:=hq.below hb;replace hug:=hug.below hb;replace hrg:=hrg.below hb;replace hu1:=hu1.below hb;replace hr1:=hr1.below hb;replace hI:=hI.below hb;replace B5:=B5.below hb B5.lt;replace B8:=B8.below hb B8.lt;replace B6:=B6.below hb B6.lt;replace BT:=BT.below hb BT.lt
 replace hrs:=hrs.below hb
 obtain ⟨gS,hgS⟩:∃ x,x=w14.heap.size:=⟨_,rfl⟩
 rw [← hgS] at BS ⊢
 clear hb hgS hug
 have k6:=B6.cell 0
 have k0:=BT.cell 0;have k1:=BT.cell 1
 have HLE:=hideC (leastr_any C A2 c2 M w15 (by omega) (by omega) hI)
 have hpr:=HWO2.out
 have e0:0 < (sz:Int)∨¬ 0 < (sz:Int):=by omega
 clear HWO2
 rcases e0 with e0 | e0
 all_goals
  go_wp2_with fail
  refine HLE.out.mono ?_
  rintro e w16 ⟨b',rfl,hc1,hc2,-,hb⟩
  rw [← HNS.out] at hc1 hc2
  rw [show b'=sz from (least_eq hl hin hc1 hc2).trans HSE.out.symm]
  replace b:=b.trans (hb.mono b.size);replace hq:=hq.below hb;replace hrg:=hrg.below hb;replace hu1:=hu1.below hb;replace hr1:=hr1.below hb;replace hrs:=hrs.below hb;replace B5:=B5.below hb B5.lt;replace B8:=B8.below hb B8.lt;replace BS:=BS.below hb BS.lt
  clear hb hc1 hc2 k0 k1 k6 hI HLE BT B6
  go_upto_region 16 with fail
  clear e0 hpr
  have HTR:=hideC (trans_any q C Ns w16 hq)
  go_wp2_with fail
  refine HTR.out.mono ?_
  rintro e w17 ⟨qt,rfl,hqt,hb⟩
  replace b:=b.trans (hb.mono b.size);replace hq:=hq.below hb;replace hrg:=hrg.below hb;replace hu1:=hu1.below hb;replace hr1:=hr1.below hb;replace hrs:=hrs.below hb;replace B5:=B5.below hb B5.lt;replace B8:=B8.below hb B8.lt;replace BS:=BS.below hb BS.lt
  clear hb HTR
  have htl:(mtrans C Ns C).length=C:=mtrans_len ..
  have hm2:=minimal_any qt Ns.length (mtrans C Ns C) 100 w17 hqt (rows_trans hl) (by omega) hN5 (clos_100t _ hN5) (hT.below b)
  have hml:=(minK_spec (C:=Ns.length) (Ns:=mtrans C Ns C) (by omega) (rows_trans hl)).1
  rw [HST.out,← HSE.out] at hml
  obtain ⟨MT,hMT⟩:∃ x,x=minC Ns.length (mtrans C Ns C):=⟨_,rfl⟩
  rw [← hMT] at hm2 hml
  have HM2:=hideC hm2
  have HML:=Lib.hid hml
  clear hm2 hml hMT htl
  go_wp2_with fail
  refine HM2.out.mono ?_
  rintro e w18 ⟨u2,r2,A4,n4,c4,rfl,-,hr2,-,hb⟩
  replace b:=b.trans (hb.mono b.size);replace hq:=hq.below hb;replace hrg:=hrg.below hb;replace hu1:=hu1.below hb;replace hr1:=hr1.below hb;replace hrs:=hrs.below hb;replace B5:=B5.below hb B5.lt;replace B8:=B8.below hb B8.lt;replace BS:=BS.below hb BS.lt
  clear hb HM2 hqt
  go_upto_region 17 with fail
  refine abs2 fun w19 BV BU hb hz=>?_
  clear hz
  replace b:=b.trans (hb.mono b.size);replace hq:=hq.below hb;replace hrg:=hrg.below hb;replace hu1:=hu1.below hb;replace hr1:=hr1.below hb;replace hrs:=hrs.below hb;replace B5:=B5.below hb B5.lt;replace B8:=B8.below hb B8.lt;replace BS:=BS.below hb BS.lt
  replace hr2:=hr2.below hb
  obtain ⟨gV,hgV⟩:∃ x,x=w18.heap.size:=⟨_,rfl⟩
  rw [← hgV] at BV BU ⊢
  clear hb hgV BU
  have hbl:=HF.out.2.2.2.1
  have hk1:=HF.out.2.2.1.1
  have hk2:=HF.out.2.2.1.2
  have hn1:¬ ((sz:Int) < ((bestP C Ns).length:Int)):=by omega
  have hn2:¬ ((K.length:Int) < (sz:Int)):=by omega
  have hn3:¬ ((G.length:Int) < (K.length:Int)):=by omega
  have hn4:decide (sz < (bestP C Ns).length)=false:=decide_eq_false (by omega)
  have hn5:decide (K.length < sz)=false:=decide_eq_false (by omega)
  have hn6:decide (G.length < K.length)=false:=decide_eq_false (by omega)
  clear hbl hk1 hk2
  have kV:=BV.cell 1;have kS:=BS.cell 1;have k8:=B8.cell 1
  refine wp_mix (fun V=>Below w19.heap.size w19 V) 32 (by kernel_rfl) (by kernel_rfl) (Below.refl _ _).drew ?_
  have hr:Below w19.heap.size w19 w19.drew:=(Below.refl _ _).drew
  obtain ⟨w20,hw20⟩:∃ V,V=w19.drew:=⟨_,rfl⟩
  rw [← hw20] at hr ⊢
  clear hw20
  have hb:=hr
  replace b:=b.trans (hb.mono b.size);replace hq:=hq.below hb;replace hrg:=hrg.below hb;replace hu1:=hu1.below hb;replace hr1:=hr1.below hb;replace hrs:=hrs.below hb;replace B5:=B5.below hb B5.lt;replace B8:=B8.below hb B8.lt;replace BS:=BS.below hb BS.lt;replace BV:=BV.below hb BV.lt
  replace hr2:=hr2.below hb
  clear hb
  (refine m_q 0 (v:=?_) (by kernel_rfl) rfl rfl (fun W hW=>?_) ?_;rotate_left;(go_simp;first | done | with_reducible rfl);simp only [pt1,pt3,pt4,pt5]);(refine m_q 1 (v:=?_) (by kernel_rfl) rfl rfl (fun W hW=>?_) ?_;rotate_left;(go_simp;first | done | with_reducible rfl);simp only [pt1,pt3,pt4,pt5]);(refine m_q 2 (v:=?_) (by kernel_rfl) rfl rfl (fun W hW=>?_) ?_;rotate_left;(go_simp;first | done | with_reducible rfl);simp only [pt1,pt3,pt4,pt5])
  (refine m_yes 3 (v:=?_) (by kernel_rfl) rfl (by rfl) (fun W hW=>?_) ?_;rotate_left;(go_simp;first | done | with_reducible rfl);simp only [pt1,pt3,pt4,pt5])
  (refine m_yes 4 (v:=?_) (by kernel_rfl) rfl (by rfl) (fun W hW=>?_) ?_;rotate_left;(have z:=onB hW kV;go_simp;first | done | with_reducible rfl);simp only [pt1,pt3,pt4,pt5])
  (refine m_yes 6 (v:=?_) (by kernel_rfl) rfl (by rfl) (fun W hW=>?_) ?_;rotate_left;(go_simp;first | done | with_reducible rfl);simp only [pt1,pt3,pt4,pt5])
  have HR2:=hideC (rows_any r2 _ MT w20 hr2.mat)
  rw [HML.out] at HR2
  refine m_s1 5 (by kernel_rfl) rfl ?_
  go_wp2_with fail
  refine HR2.out.mono ?_
  rintro e w' ⟨rfl,rfl⟩
  go_wp2_with fail
  refine m_keep hr ?_
  clear HR2
  (refine m_yes 7 (v:=?_) (by kernel_rfl) rfl (by rfl) (fun W hW=>?_) ?_;rotate_left;(go_simp;first | done | with_reducible rfl);simp only [pt1,pt3,pt4,pt5])
  (refine m_q 8 (v:=?_) (by kernel_rfl) rfl rfl (fun W hW=>?_) ?_;rotate_left;(go_simp;first | done | with_reducible rfl);simp only [pt1,pt3,pt4,pt5]);(refine m_q 9 (v:=?_) (by kernel_rfl) rfl rfl (fun W hW=>?_) ?_;rotate_left;(go_simp;first | done | with_reducible rfl);simp only [pt1,pt3,pt4,pt5])
  (refine m_yes 10 (v:=?_) (by kernel_rfl) rfl (by rfl) (fun W hW=>?_) ?_;rotate_left;(go_simp;first | done | with_reducible rfl);simp only [pt1,pt3,pt4,pt5])
  (refine m_yes 13 (v:=?_) (by kernel_rfl) rfl (by rfl) (fun W hW=>?_) ?_;rotate_left;(go_simp;first | done | with_reducible rfl);simp only [pt1,pt3,pt4,pt5])
  have HBE:=hideC (best_any q C Ns w20 hq (hT.below b))
  refine m_s1 11 (by kernel_rfl) rfl ?_
  go_wp2_with fail
  refine HBE.out.mono ?_
  rintro e w21 ⟨vb,rfl,⟨Ab,cb,rfl,-,-⟩,hb⟩
  replace b:=b.trans (hb.mono b.size);replace hq:=hq.below hb;replace hrg:=hrg.below hb;replace hu1:=hu1.below hb;replace hr1:=hr1.below hb;replace hrs:=hrs.below hb;replace B5:=B5.below hb B5.lt;replace B8:=B8.below hb B8.lt;replace BS:=BS.below hb BS.lt;replace BV:=BV.below hb BV.lt
  replace hr:=hr.trans (hb.mono hr.size)
  clear hb HBE hr2
  go_wp2_with fail
  refine m_keep hr ?_
  refine m_s1 12 (by kernel_rfl) rfl ?_
  go_wp2_with fail
  refine m_keep hr ?_
  (refine m_yes 14 (v:=?_) (by kernel_rfl) rfl (by rfl) (fun W hW=>?_) ?_;rotate_left;(go_simp;first | done | with_reducible rfl);simp only [pt1,pt3,pt4,pt5])
  (refine m_q 15 (v:=?_) (by kernel_rfl) rfl rfl (fun W hW=>?_) ?_;rotate_left;(go_simp;first | done | with_reducible rfl);simp only [pt1,pt3,pt4,pt5]);(refine m_q 16 (v:=?_) (by kernel_rfl) rfl rfl (fun W hW=>?_) ?_;rotate_left;(go_simp;first | done | with_reducible rfl);simp only [pt1,pt3,pt4,pt5])
  (refine m_yes 17 (v:=?_) (by kernel_rfl) rfl (by rfl) (fun W hW=>?_) ?_;rotate_left;(go_simp;first | done | with_reducible rfl);simp only [pt1,pt3,pt4,pt5])
  (refine m_yes 18 (v:=?_) (by kernel_rfl) rfl (by rfl) (fun W hW=>?_) ?_;rotate_left;(have z:=onB hW kS;go_simp;first | done | with_reducible rfl);simp only [pt1,pt3,pt4,pt5])
  (refine m_yes 20 (v:=?_) (by kernel_rfl) rfl (by rfl) (fun W hW=>?_) ?_;rotate_left;(go_simp;first | done | with_reducible rfl);simp only [pt1,pt3,pt4,pt5])
  have HR2:=hideC (rows_any rs _ _ w21 hrs.mat)
  rw [List.length_map] at HR2
  refine m_s1 19 (by kernel_rfl) rfl ?_
  go_wp2_with fail
  refine HR2.out.mono ?_
  rintro e w' ⟨rfl,rfl⟩
  go_wp2_with fail
  refine m_keep hr ?_
  (refine m_yes 21 (v:=?_) (by kernel_rfl) rfl (by rfl) (fun W hW=>?_) ?_;rotate_left;(go_simp;first | done | with_reducible rfl);simp only [pt1,pt3,pt4,pt5])
  (refine m_q 22 (v:=?_) (by kernel_rfl) rfl rfl (fun W hW=>?_) ?_;rotate_left;(go_simp;first | done | with_reducible rfl);simp only [pt1,pt3,pt4,pt5]);(refine m_q 23 (v:=?_) (by kernel_rfl) rfl rfl (fun W hW=>?_) ?_;rotate_left;(go_simp;first | done | with_reducible rfl);simp only [pt1,pt3,pt4,pt5])
  (refine m_yes 24 (v:=?_) (by kernel_rfl) rfl (by rfl) (fun W hW=>?_) ?_;rotate_left;(go_simp;first | done | with_reducible rfl);simp only [pt1,pt3,pt4,pt5])
  (refine m_yes 25 (v:=?_) (by kernel_rfl) rfl (by rfl) (fun W hW=>?_) ?_;rotate_left;(have z:=onB hW k8;go_simp;first | done | with_reducible rfl);simp only [pt1,pt3,pt4,pt5])
  (refine m_yes 27 (v:=?_) (by kernel_rfl) rfl (by rfl) (fun W hW=>?_) ?_;rotate_left;(go_simp;first | done | with_reducible rfl);simp only [pt1,pt3,pt4,pt5])
  (refine m_yes 28 (v:=?_) (by kernel_rfl) rfl (by rfl) (fun W hW=>?_) ?_;rotate_left;(have z:=onB hW kS;go_simp;first | done | with_reducible rfl);simp only [pt1,pt3,pt4,pt5])
  have HR3:=hideC (rows_any rg _ _ w21 hrg.mat)
  refine m_s1 26 (by kernel_rfl) rfl ?_
  go_wp2_with fail
  refine HR3.out.mono ?_
  rintro e w' ⟨rfl,rfl⟩
  go_wp2_with fail
  refine m_keep hr ?_
  refine m_s1 29 (by kernel_rfl) rfl ?_
  go_wp2_with fail
  refine HR2.out.mono ?_
  rintro e w' ⟨rfl,rfl⟩
  go_wp2_with fail
  refine m_keep hr ?_
  (refine m_yes 30 (v:=?_) (by kernel_rfl) rfl (by rfl) (fun W hW=>?_) ?_;rotate_left;(go_simp;first | done | with_reducible rfl);simp only [pt1,pt3,pt4,pt5])
  (refine m_q 31 (v:=?_) (by kernel_rfl) rfl rfl (fun W hW=>?_) ?_;rotate_left;(go_simp;first | done | with_reducible rfl);simp only [pt1,pt3,pt4,pt5])
  refine m_end (by kernel_rfl) ?_
  clear HR2 HR3 kV kS k8 hr BV BS B8 hrs hrg
  have k0:=B5.cell 0;have k1:=B5.cell 1
  have HNO:=hideC (normal_any u1 r1 M1.length C U1 M1 K2 w21 hu1.mat hr1.mat HMV.out.2.2.1 (by omega) (by have:=HMV.out.2.2.2.2.2.1;omega) (by have:=HF.out.1;have:=HF.out.2.2.2.2.2.1;omega) rfl (hT.below b) HK2.out)
  go_wp2_with fail
  refine HNO.out.mono ?_
  rintro e w22 ⟨u3,r3,rfl,-,hr3,hb⟩
  replace b:=b.trans (hb.mono b.size);replace hq:=hq.below hb
  clear hb HNO k0 k1 hn1 hn2 hn3 hn4 hn5 hn6
  go_upto_region 20 with fail
  refine abs1 fun w23 BN hb hz=>?_
  clear hz
  replace b:=b.trans (hb.mono b.size);replace hq:=hq.below hb
  replace hr3:=hr3.below hb
  clear hb
  have k1:=BN.cell 1
  have HR2:=hideC (rows_any r3 _ _ w23 hr3.mat)
  rw [List.length_map,HF.out.2.1] at HR2
  go_wp2_with fail
  refine HR2.out.mono ?_
  rintro e w' ⟨rfl,rfl⟩
  have HO:=hideC (onesm_any q C Ns w23 hq (hT.below b))
  have hzo:=HF.out.2.2.2.2.1
  clear HR2 k1
  go_wp2_with fail
  refine HO.out.mono ?_
  rintro e w24 ⟨rfl,hb⟩
  go_wp2_with fail
  go_ret
  exact ⟨ret_bool (both_zero hzo),b.trans (hb.mono b.size)⟩
end Mix2
end Go.Proofs.YtafpmkdlciioaaaGreatDoor
