import Derived.Test.YtafpmkdlciioaaaGreatDoorPk19
import Derived.Test.YtafpmkdlciioaaaGreatDoorPk05
import Derived.Test.YtafpmkdlciioaaaGreatDoorPk06
import Derived.Test.YtafpmkdlciioaaaGreatDoorSortL
import Derived.Test.YtafpmkdlciioaaaGreatDoorPk09
import Derived.Test.YtafpmkdlciioaaaGreatDoorPk04
set_option maxHeartbeats 16000000
set_option maxRecDepth 100000
namespace Go.Proofs.YtafpmkdlciioaaaGreatDoor
open Go.RowKit Go.Maps
attribute [local go_sem] Oper.semAt_some
theorem sat_0 (k j:Nat) (v u:Value) (w:World) (hk:Blk w k 58 #[v]) (hj:Blk w j 58 #[u]) (hv:IsSet w v 0) (hu:IsSet w u 0) :
  Calls Tryz.prog 124 #[ruV,ptr k,ptr j] w fun e w'=>e=.returned (.bool true)∧Below w.heap.size w w':=by
 have qk:=hk.cell 0
 have lk:=hk.lt
 obtain ⟨A,c,rfl,_⟩:=id hv
 obtain ⟨A2,c2,rfl,_⟩:=id hu
 unfold ruV
 go_enter Tryz.func124,Tryz.ntmps124
 go_wp2_with fail
 refine absC1 fun W h2 hb hz=>?_
 have HH:=hideC (ans1 (b:=false) (by decide) (has_any _ 0 1 W (hv.below hb)))
 clear hz qk lk
 refine HH.out.mono ?_
 rintro e w1 ⟨rfl,hb1⟩
 have b1:=hb.trans (hb1.mono hb.size)
 have h21:=h2.below hb1 h2.lt
 have q1:=h21.cell 1
 have qj:=(hj.below b1 hj.lt).cell 0
 have HW:=hideC (ans1 (b:=true) (by decide) (within_any (.slice none 0 0) _ 0 0 w1 (IsSet.empty _) (hu.below b1)))
 clear HH h2 hb hb1
 go_wp2_with fail
 refine HW.out.mono ?_
 rintro e w2 ⟨rfl,hb2⟩
 go_wp2_with fail
 go_ret
 exact ⟨rfl,b1.trans (hb2.mono b1.size)⟩
theorem sat_2 (k:Nat) (j:Value) (v:Value) (w:World) (hk:Blk w k 58 #[v]) (hv:IsSet w v 2) :
  Calls Tryz.prog 124 #[ruV,ptr k,j] w fun e w'=>e=.returned (.bool false)∧Below w.heap.size w w':=by
 have qk:=hk.cell 0
 have lk:=hk.lt
 obtain ⟨A,c,rfl,_⟩:=id hv
 unfold ruV
 go_enter Tryz.func124,Tryz.ntmps124
 go_wp2_with fail
 refine absC1 fun W h2 hb hz=>?_
 have HH:=hideC (ans1 (b:=true) (by decide) (has_any _ 2 1 W (hv.below hb)))
 clear hz qk lk
 refine HH.out.mono ?_
 rintro e w1 ⟨rfl,hb1⟩
 go_wp2_with fail
 go_ret
 exact ⟨rfl,hb.trans (hb1.mono hb.size)⟩
namespace Mix2
theorem saturation_h (lk g:Nat) (w:World) (hT:Tab w) (hH:IsH w lk) (hR1:IsR1 w g) :
  Calls Tryz.prog 72 #[pV lk g] w fun e w'=>(∃ r u,e=.returned (.tuple #[.agg #[r],u])∧IsSet w' r 2)∧Below w.heap.size w w':=by
 have HT0:=Lib.hid hT;have HH0:=Lib.hid hH;have HR0:=Lib.hid hR1
 unfold pV
 go_enter Tryz.func72,Tryz.ntmps72
 go_upto_region 1 with fail
 refine abs2 fun u1 B1 B2 hb hz=>?_
 have q2:=B1.cell 2
 have l1:=B1.lt
 have HGW:=Lib.hid hb.size
 have HZ0:=Lib.hid hz
 clear hz
 replace hT:=hT.below hb;replace hH:=hH.below hb;replace hR1:=hR1.below hb
 go_upto_region 2 with fail
 refine abs1 fun u2 B4 hb2 hz=>?_
 clear hz q2 l1
 have b:=hb.trans (hb2.mono hb.size)
 replace B1:=B1.below hb2 B1.lt;replace B2:=B2.below hb2 B2.lt
 replace hT:=hT.below hb2;replace hH:=hH.below hb2;replace hR1:=hR1.below hb2
 clear hb hb2
 go_wp2_with fail
 refine wp_loop_rounds 2 ?_
 rw [rounds_succ]
 have q1:=B1.cell 1
 have q4:=B4.cell 0
 go_wp2_with fail
 have HC:=hideC (res3 rfl (closure_h lk _ 0 u2 hT hH (IsSet.empty u2) no_bits))
 refine HC.out.mono ?_
 rintro e u3 ⟨A3,n3,c3,rfl,s3,hb⟩
 replace b:=b.trans (hb.mono b.size)
 replace B1:=B1.below hb B1.lt;replace B2:=B2.below hb B2.lt;replace B4:=B4.below hb B4.lt
 replace hT:=hT.below hb;replace hH:=hH.below hb;replace hR1:=hR1.below hb
 clear hb HC q1 q4
 have q3:=B1.cell 3
 have l1:=B1.lt
 go_wp2_with fail
 refine absC1 fun u4 B6 hb hz=>?_
 replace b:=b.trans (hb.mono b.size)
 replace B1:=B1.below hb B1.lt;replace B2:=B2.below hb B2.lt;replace B4:=B4.below hb B4.lt
 replace hT:=hT.below hb;replace hH:=hH.below hb;replace hR1:=hR1.below hb
 replace s3:=s3.below hb
 clear hb hz q3 l1
 have HI:=hideC (index_rsat (ptr u1.heap.size) (ptr u3.heap.size) true g 1 u4 hR1 (sat_0 _ _ _ _ u4 B4 B6 (IsSet.empty _) s3))
 rw [if_pos rfl] at HI
 refine HI.out.mono ?_
 rintro e u5 ⟨rfl,hb⟩
 replace b:=b.trans (hb.mono b.size)
 replace B1:=B1.below hb B1.lt;replace B2:=B2.below hb B2.lt;replace B4:=B4.below hb B4.lt
 replace hT:=hT.below hb;replace hH:=hH.below hb;replace hR1:=hR1.below hb
 clear hb HI B6 s3
 have q3:u5.cell? ⟨w.heap.size,3,none⟩=some _:=B1.cell 3
 have q4:u5.cell? ⟨u1.heap.size,0,none⟩=some _:=B4.cell 0
 have r3:u5.cell? ⟨g,3,none⟩=some _:=Blk.cell hR1 3
 go_wp2_with fail
 have hz5:=HZ0.out
 have n3:some w.heap.size≠some u1.heap.size:=by simp;omega
 have n5:some g≠some u1.heap.size:=by simpa using Blk.ne_ hR1 B4 (by decide)
 clear hz5
 refine wp_mix (fun V=>But (some u1.heap.size) u5 V) 14 (by kernel_rfl) (by kernel_rfl) (.of_below (Below.refl _ _).drew) ?_
 have hr:Below u5.heap.size u5 u5.drew:=(Below.refl _ _).drew
 obtain ⟨v1,hv1⟩:∃ V,V=u5.drew:=⟨_,rfl⟩
 rw [← hv1] at hr ⊢;clear hv1
 (refine m_q 1 (v:=?_) (by kernel_rfl) rfl rfl (fun W hW=>?_) ?_;rotate_left;(have z3:=hW.on q3 n3;have z5:=hW.on r3 n5;go_simp;first | done | with_reducible rfl);simp only [pt1,pt3,pt4,pt5]);(refine m_q 2 (v:=?_) (by kernel_rfl) rfl rfl (fun W hW=>?_) ?_;rotate_left;(have z3:=hW.on q3 n3;have z5:=hW.on r3 n5;go_simp;first | done | with_reducible rfl);simp only [pt1,pt3,pt4,pt5]);(refine m_q 3 (v:=?_) (by kernel_rfl) rfl rfl (fun W hW=>?_) ?_;rotate_left;(have z3:=hW.on q3 n3;have z5:=hW.on r3 n5;go_simp;first | done | with_reducible rfl);simp only [pt1,pt3,pt4,pt5]);(refine m_q 4 (v:=?_) (by kernel_rfl) rfl rfl (fun W hW=>?_) ?_;rotate_left;(have z3:=hW.on q3 n3;have z5:=hW.on r3 n5;go_simp;first | done | with_reducible rfl);simp only [pt1,pt3,pt4,pt5]);(refine m_q 5 (v:=?_) (by kernel_rfl) rfl rfl (fun W hW=>?_) ?_;rotate_left;(have z3:=hW.on q3 n3;have z5:=hW.on r3 n5;go_simp;first | done | with_reducible rfl);simp only [pt1,pt3,pt4,pt5]);(refine m_q 6 (v:=?_) (by kernel_rfl) rfl rfl (fun W hW=>?_) ?_;rotate_left;(have z3:=hW.on q3 n3;have z5:=hW.on r3 n5;go_simp;first | done | with_reducible rfl);simp only [pt1,pt3,pt4,pt5])
 (refine m_q 8 (v:=?_) (by kernel_rfl) rfl rfl (fun W hW=>?_) ?_;rotate_left;(go_simp;first | done | with_reducible rfl);simp only [pt1,pt3,pt4,pt5]);(refine m_q 9 (v:=?_) (by kernel_rfl) rfl rfl (fun W hW=>?_) ?_;rotate_left;(go_simp;first | done | with_reducible rfl);simp only [pt1,pt3,pt4,pt5])
 refine m_join (β:=Option Addr×Nat×Nat×Nat) #[true,true,true,true,true,true,true,true,true,true,true,false,false,false] 3 (fun b f=>#[f 0,.pointer (some ⟨w.heap.size,0,none⟩),.pointer (some ⟨w.heap.size+1,0,none⟩),.slice none 0 0,.pointer (some ⟨u1.heap.size,0,none⟩),f 5,f 6,f 7,f 8,f 9,f 10,f 11,f 12,f 13,f 14,f 15,f 16,f 17,f 18,f 19,f 20,f 21,f 22,f 23,f 24,f 25,f 26,f 27,f 28,.agg #[.slice b.1 b.2.1 b.2.2.1],.slice none 0 0,f 31,.slice (some ⟨b.2.2.2,0,none⟩) 1 1,f 33]) (fun b ds V=>ds=[]∧Below u5.heap.size u5 V∧IsSet V (.slice b.1 b.2.1 b.2.2.1) 2∧Blk V b.2.2.2 3 #[.int .i64 0]) ?lf ?tr
 case tr =>
  intro HL
  have k0:=onB hr q4
  refine m_s2 0 10 (by kernel_rfl) rfl rfl ?_ ?_
  ·go_wp2_with fail
   refine m_keep (.of_below hr) ?_
   refine m_s2 7 10 (by kernel_rfl) rfl rfl ?_ ?_
   ·have HW:=hideC (res3 (show withB 0 1=2 by decide) (with_any _ 0 1 v1 (IsSet.empty v1)))
    clear k0
    go_wp2_with fail
    refine HW.out.mono ?_
    rintro e v2 ⟨A,n,c,rfl,s2,hb⟩
    have hr2:=hr.trans (hb.mono hr.size)
    go_wp2_with fail
    refine m_keep (.of_below hr2) ?_
    refine m_s1 10 (by kernel_rfl) rfl ?_
    go_wp2_with fail
    refine absN fun v3 BN hb hz=>?_
    clear hz
    refine m_keep (.of_below (hr2.trans (hb.mono hr2.size))) ?_
    exact HL (A,n,c,v2.heap.size) _ _ _ rfl rfl ⟨rfl,hr2.trans (hb.mono hr2.size),s2.below hb,BN⟩
   ·clear k0
    go_wp2_with fail
    refine absN fun v2 BN hb hz=>?_
    clear hz
    have hr2:=hr.trans (hb.mono hr.size)
    refine m_keep (.of_below hr2) ?_
    have HW:=hideC (res3 (show withB 0 1=2 by decide) (with_any _ 0 1 v2 (IsSet.empty v2)))
    refine m_s1 7 (by kernel_rfl) rfl ?_
    go_wp2_with fail
    refine HW.out.mono ?_
    rintro e v3 ⟨A,n,c,rfl,s2,hb3⟩
    have hr3:=hr2.trans (hb3.mono hr2.size)
    go_wp2_with fail
    refine m_keep (.of_below hr3) ?_
    exact HL (A,n,c,v1.heap.size) _ _ _ rfl rfl ⟨rfl,hr3,s2,BN.below hb3 BN.lt⟩
  ·clear k0
   go_wp2_with fail
   refine absN fun v2 BN hb hz=>?_
   clear hz
   have hr2:=hr.trans (hb.mono hr.size)
   refine m_keep (.of_below hr2) ?_
   have k0:=onB hr2 q4
   refine m_s1 0 (by kernel_rfl) rfl ?_
   go_wp2_with fail
   refine m_keep (.of_below hr2) ?_
   clear k0
   have HW:=hideC (res3 (show withB 0 1=2 by decide) (with_any _ 0 1 v2 (IsSet.empty v2)))
   refine m_s1 7 (by kernel_rfl) rfl ?_
   go_wp2_with fail
   refine HW.out.mono ?_
   rintro e v3 ⟨A,n,c,rfl,s2,hb3⟩
   have hr3:=hr2.trans (hb3.mono hr2.size)
   go_wp2_with fail
   refine m_keep (.of_below hr3) ?_
   exact HL (A,n,c,v1.heap.size) _ _ _ rfl rfl ⟨rfl,hr3,s2,BN.below hb3 BN.lt⟩
 case lf =>
  rintro ⟨A,n,c,gn⟩ f ds v3 ⟨rfl,hr,s2,BN⟩
  dsimp only at s2 BN ⊢
  have n0:=BN.cell 0
  refine m_s1 11 (by kernel_rfl) rfl ?_
  go_wp2_with fail
  generalize (Question.appendCap 1 0 3).cut (v3.tape v3.drawn (Question.appendCap 1 0 3))=cp
  refine absND fun v4 BW hb hz=>?_
  clear hz n0 BW
  replace s2:=s2.below hb
  replace hr:=hr.trans (hb.mono hr.size)
  clear hb BN
  refine m_keep (.of_below hr) ?_
  have hbt:But (some u1.heap.size) u5 v4:=.of_below hr
  replace b:=b.trans (hr.mono b.size)
  replace B1:=B1.below hr B1.lt;replace B2:=B2.below hr B2.lt;replace B4:=B4.below hr B4.lt
  replace hT:=hT.below hr;replace hH:=hH.below hr;replace hR1:=hR1.below hr
  clear hr q3 q4 r3 n3 n5
  have k4:=B4.cell 0
  have f4:=B4.frozen 0
  have l4:=B4.lt
  refine m_s1 12 (by kernel_rfl) rfl ?_
  go_wp2_with fail
  refine m_keep (hbt.trans (But.setCell _ _ _)) ?_
  refine m_s1 13 (by kernel_rfl) rfl ?_
  go_wp2_with fail
  refine m_keep (hbt.trans (But.setCell _ _ _)) ?_
  refine m_end (by kernel_rfl) ?_
  clear k4 f4 l4
  obtain ⟨v5,hv5⟩:∃ V,V=v4.setCell ⟨u1.heap.size,0,none⟩ (.slice A n c):=⟨_,rfl⟩
  have hgw:w.heap.size≤u1.heap.size:=HGW.out
  have hz0:=HZ0.out
  have B15:=B1.far (p:=⟨u1.heap.size,0,none⟩) (B1.ne_ B4 (by decide)) (.slice A n c);rw [← hv5] at B15
  have B25:=B2.far (p:=⟨u1.heap.size,0,none⟩) (by show w.heap.size+1≠u1.heap.size;omega) (.slice A n c);rw [← hv5] at B25
  have B45:=B4.set_ 0 (.slice A n c);rw [← hv5] at B45
  have s25:=s2.keep (KeepW.setCell (p:=⟨u1.heap.size,0,none⟩) B4 (by decide) (.slice A n c));rw [← hv5] at s25
  have b5:=b.setCell (p:=⟨u1.heap.size,0,none⟩) hgw (.slice A n c);rw [← hv5] at b5
  rw [← hv5]
  clear hz0 hv5 B1 B2 B4 s2 b hT hH hR1
  have hT:=HT0.out.below b5;have hH:=HH0.out.below b5;have hR1:=HR0.out.below b5
  have q1:=B15.cell 1
  have q4:=B45.cell 0
  go_wp2_with fail
  rw [rounds_succ]
  go_wp2_with fail
  have HC:=hideC (res3 rfl (closure_h lk _ 2 v5 hT hH s25 one_bit))
  refine HC.out.mono ?_
  rintro e u6 ⟨A6,n6,c6,rfl,s6,hb⟩
  replace b5:=b5.trans (hb.mono b5.size)
  replace B15:=B15.below hb B15.lt;replace B25:=B25.below hb B25.lt;replace B45:=B45.below hb B45.lt
  replace hR1:=hR1.below hb;replace s25:=s25.below hb
  clear hb HC q1 q4 hT hH s6
  have q3:=B15.cell 3
  have l1:=B15.lt
  go_wp2_with fail
  refine absC1 fun u7 B6 hb hz=>?_
  replace b5:=b5.trans (hb.mono b5.size)
  replace B15:=B15.below hb B15.lt;replace B25:=B25.below hb B25.lt;replace B45:=B45.below hb B45.lt
  replace hR1:=hR1.below hb;replace s25:=s25.below hb
  clear hb hz q3 l1 B6
  have HI:=hideC (index_rsat (ptr u1.heap.size) (ptr u6.heap.size) false g 1 u7 hR1 (sat_2 _ _ _ u7 B45 s25))
  rw [if_neg (by decide)] at HI
  refine HI.out.mono ?_
  rintro e u8 ⟨rfl,hb⟩
  replace b5:=b5.trans (hb.mono b5.size)
  replace B25:=B25.below hb B25.lt;replace B45:=B45.below hb B45.lt
  replace s25:=s25.below hb
  clear hb HI B15
  have q4:=B45.cell 0
  have q2:=B25.cell 0
  have f2:=B25.frozen 0
  have l2:=B25.lt
  go_wp2_with fail
  have j2:=(B25.set_ 0 (.slice A n c)).cell 0
  refine bodyPost_ret (v:=.tuple #[.agg #[.slice A n c],.slice (some ⟨v3.heap.size,0,none⟩) 1 cp]) (by simp [results,Tryz.results72,go_sem,j2]) rfl ⟨⟨_,_,rfl,?_⟩,?_⟩
  ·exact s25.keep (KeepW.setCell (p:=⟨w.heap.size+1,0,none⟩) B25 (by decide) _)
  ·exact b5.setCell (by simp) _
theorem upper_h (lk g:Nat) (w:World) (hT:Tab w) (hH:IsH w lk) (hR1:IsR1 w g) :
  Calls Tryz.prog 22 #[pV lk g] w fun e w'=>∃ r,e=.returned (.agg #[r])∧IsSet w' r 2∧Below w.heap.size w w':=by
 unfold pV
 go_enter Tryz.func22,Tryz.ntmps22
 go_wp2_with fail
 refine absC2 fun u1 B1 B2 hb hz=>?_
 have HC:=hideC (check_h lk g u1 (hT.below hb) (hH.below hb) (hR1.below hb))
 rw [pV_eq] at HC
 clear hz
 refine HC.out.mono ?_
 rintro e u2 ⟨rfl,hb2⟩
 have b2:=hb.trans (hb2.mono hb.size)
 have B12:=B1.below hb2 B1.lt
 have B22:=B2.below hb2 B2.lt
 have p0:=B12.cell 0
 have p1:=B12.cell 1
 have p2:=B12.cell 2
 have p3:=B12.cell 3
 have p4:=B12.cell 4
 have p5:=B12.cell 5
 have HS:=hideC (saturation_h lk g u2 (hT.below b2) (hH.below b2) (hR1.below b2))
 rw [pV_eq] at HS
 clear HC hb hb2 B1 B2
 go_wp2_with fail
 refine HS.out.mono ?_
 rintro e u3 ⟨⟨r,u,rfl,hr⟩,hb⟩
 have b3:=b2.trans (hb.mono b2.size)
 have B23:=B22.below hb B22.lt
 obtain ⟨A,c,rfl,_⟩:=id hr
 clear p0 p1 p2 p3 p4 p5 HS B12 B22 b2 hb
 go_upto_region 4 with fail
 refine abs1 fun u4 B3 hb hz=>?_
 have b4:=b3.trans (hb.mono b3.size)
 have B24:=B23.below hb B23.lt
 have h4:=hr.below hb
 have q3:=B3.cell 0
 have q2:=B24.cell 0
 have f2:=B24.frozen 0
 have l2:=B24.lt
 clear hz hb b3 B23 hr
 go_wp2_with fail
 have j2:=(B24.set_ 0 (.slice A (nw 2) c)).cell 0
 refine bodyPost_ret (v:=.agg #[.slice A (nw 2) c]) (by simp [results,Tryz.results22,go_sem,j2]) rfl ⟨_,rfl,?_,?_⟩
 ·exact h4.keep (KeepW.setCell (p:=⟨w.heap.size+1,0,none⟩) B24 (by decide) _)
 ·exact b4.setCell (by simp) _
end Mix2
end Go.Proofs.YtafpmkdlciioaaaGreatDoor
namespace Go.Proofs.YtafpmkdlciioaaaGreatDoor
open Go.RowKit
abbrev SetIn (w:World):={ x:Value×Nat // IsSet w x.1 x.2 }
@[reducible] def setInh (w:World):Inhabited (SetIn w):=⟨⟨(.slice none 0 0,0),IsSet.empty w⟩⟩
def encS (w:World) (x:SetIn w):List Value:=[x.1.1]
def cmpS (w:World) (x y:SetIn w):Int:=lecN x.1.2 y.1.2
theorem ltOf_S (w:World) (x y:SetIn w):Go.Proofs.ltOf (cmpS w) x y=lecR x.1.2 y.1.2:=by
 unfold Go.Proofs.ltOf cmpS
 exact lecN_lt _ _
theorem swo_S (w:World):Go.Sort.SWO (Go.Proofs.ltOf (cmpS w)) where
 irrefl x:=by rw [ltOf_S];exact lecR_irrefl _
 trans x y z h1 h2:=by rw [ltOf_S] at *;exact lecR_trans _ _ _ h1 h2
 ntrans x y z h1 h2:=by
  rw [ltOf_S] at *
  cases h:lecR x.1.2 z.1.2
  ·rfl
  ·by_cases e1:x.1.2=y.1.2
   ·rw [e1,h2] at h;cases h
   ·have a:=lecR_total _ _ e1 h1
    by_cases e2:y.1.2=z.1.2
    ·rw [e2] at a;rw [lecR_asymm _ _ a] at h;cases h
    ·have b:=lecR_total _ _ e2 h2
     have c:=lecR_trans _ _ _ b a
     rw [lecR_asymm _ _ c] at h;cases h
section
variable {α:Type} [Inhabited α]
theorem sortWorld_heap (enc:α→List Value) (k:Nat) (w:World) (blk off m:Nat) (d:Array α) (os:Array Obj) {g:Nat} (hg:g < w.heap.size) (hne:g≠blk):(Go.Proofs.sortWorldK enc k w blk off m d os).heap[g]?=w.heap[g]?:=by
 unfold Go.Proofs.sortWorldK
 rw [Go.Sort.heap_grow_old _ _ (by simpa [Go.Sort.putRowK,Go.Sort.putRow,Go.Sort.mapBlock,Go.Sort.ahead] using hg)]
 unfold Go.Sort.putRowK Go.Sort.putRow Go.Sort.mapBlock Go.Sort.ahead
 dsimp only
 rw [Array.getElem?_modify,if_neg (fun e=>hne e.symm)]
theorem sortWorld_size (enc:α→List Value) (k:Nat) (w:World) (blk off m:Nat) (d:Array α) (os:Array Obj):w.heap.size≤(Go.Proofs.sortWorldK enc k w blk off m d os).heap.size:=by
 simp [Go.Proofs.sortWorldK,Go.Sort.putRowK,Go.Sort.putRow,Go.Sort.mapBlock,Go.Sort.ahead,Go.Sort.grow]
theorem sortWorld_keep (enc:α→List Value) (k:Nat) (w:World) (blk off m:Nat) (d:Array α) (os:Array Obj) {t:TypeId} {cs:Array Value} (hB:Blk w blk t cs) (ht:146≠t):KeepW w (Go.Proofs.sortWorldK enc k w blk off m d os) :=
 ⟨sortWorld_size enc k w blk off m d os,fun _ _ h=>(sortWorld_heap enc k w blk off m d os h.lt (h.ne_ hB ht)).trans h⟩
theorem sortWorld_below (enc:α→List Value) (k:Nat) (w:World) (blk off m:Nat) (d:Array α) (os:Array Obj) (hb:blk < w.heap.size):Below blk w (Go.Proofs.sortWorldK enc k w blk off m d os) :=
 ⟨rfl,rfl,rfl,sortWorld_size enc k w blk off m d os,fun g hg=>sortWorld_heap enc k w blk off m d os (by omega) (by omega)⟩
end
theorem isAggS (W:World):(isAgg 58).run Tryz.prog W=.ok true W:=by kernel_rfl
theorem sizeOfS (W:World):(Go.sizeOf 58).run Tryz.prog W=.ok 1 W:=by kernel_rfl
theorem cmpLays_S (w:World) (blk size:Nat) {t:TypeId} {cs:Array Value} (hB:Blk w blk t cs) (ht:146≠t) (ht2:blk≠0) (hT:Tab w):letI:=setInh w;Go.Proofs.CmpLays Tryz.prog 136 #[] (encS w) 1 (cmpS w) blk 0 size w:=by
 letI:=setInh w
 intro m os dk hs x y
 have hk:=sortWorld_keep (encS w) 1 w blk 0 m dk os hB ht
 have hT':Tab (Go.Proofs.sortWorldK (encS w) 1 w blk 0 m dk os):=fun j hj=>by
  have h:=hT j hj
  exact (World.cell?_of_block (sortWorld_heap (encS w) 1 w blk 0 m dk os (cell_lt h) (Ne.symm ht2))).trans h
 exact lectic_g x.1.1 y.1.1 x.1.2 y.1.2 _ (x.2.keep hk) (y.2.keep hk) hT'
theorem sort_sets (g:Nat) (cs:Array Value) (vs:List Value) (Ns:List Nat) (cap:Nat) (w:World) (hB:Blk w g 58 cs) (hv:∀ (k:Nat) u,vs[k]?=some u→cs[k]?=some u) (hs:Sets w vs Ns) (hT:Tab w) (hsz:vs.length < 4611686018427387904) (hg:g≠0) :
  Calls Tryz.prog 65 #[.slice (some ⟨g,0,none⟩) vs.length cap,.func (.func 136) #[] #[]] w fun e w'=>e=.returned (.tuple #[]) ∧
   ∃ vs' Ns',Ns'.Perm Ns∧Ns'.Pairwise (fun a b=>lecR b a=false)∧vs'.length=vs.length∧Row w' (some ⟨g,0,none⟩) vs'∧Sets w' vs' Ns'∧Below g w w'∧KeepW w w':=by
 letI:=setInh w
 have hl:=hs.1
 have hset:∀ k,(h:k < vs.length)→IsSet w vs[k] (Ns[k]'(by omega)):=fun k h=>hs.2 k _ _ (List.getElem?_eq_getElem h) (List.getElem?_eq_getElem (by omega))
 let d:Array (SetIn w):=Array.ofFn (n:=vs.length) fun k=>⟨(vs[k.1],Ns[k.1]'(by have:=k.2;omega)),hset k.1 k.2⟩
 have hd:d.size=vs.length:=by simp [d]
 have hdv:d.toList.map (fun x=>x.1.1)=vs:=by
  apply List.ext_getElem
  ·simp [d]
  ·intro i h1 h2;simp [d]
 have hdN:d.toList.map (fun x=>x.1.2)=Ns:=by
  apply List.ext_getElem
  ·simp [d,hl]
  ·intro i h1 h2;simp [d]
 have hH:Go.Sort.HoldsK (encS w) 1 w g 0 d:=by
  intro j hj
  rw [Go.Sort.size_flatK] at hj
  have hj':j < vs.length:=by omega
  refine ⟨?_,hB.frozen _⟩
  rw [Go.Sort.get_flatK _ _ _ _ hj,Nat.zero_add,hB.cell,Nat.div_one,Nat.mod_one]
  have h1:=hv j _ (List.getElem?_eq_getElem hj')
  rw [h1]
  show some _=some (id ([d[j]!.1.1][0]!))
  rw [getElem!_pos d j (by omega)]
  simp [d]
 clear_value d
 have hcon:=AnyQ.slices_SortFunc Tryz.sortSet 1 isAggS sizeOfS (encS w) (fun _=>rfl) (fun x v hx=>by
  obtain ⟨A,c,e,_⟩:=x.2
  simp only [encS,List.mem_singleton] at hx
  rw [hx,e];rfl) (cmpS w) (swo_S w) 136 #[] g 0 cap d w (enters_of Tryz.func136 (by kernel_rfl) rfl) (cmpLays_S w g d.size hB (by decide) hg hT) hH hB.lt (by omega)
 rw [hd] at hcon
 refine Calls.mono hcon ?_
 rintro e w' ⟨rfl,d',n',os,⟨hps,_,hperm⟩,hsort,rfl⟩
 have hk:=sortWorld_keep (encS w) 1 w g 0 n' d' os hB (by decide)
 have hp:d'.toList.Perm d.toList:=by
  have e1:d'.extract 0 vs.length=d':=by rw [← hd,← hps];simp
  have e2:d.extract 0 vs.length=d:=by rw [← hd];simp
  rwa [e1,e2] at hperm
 refine ⟨rfl,d'.toList.map (fun x=>x.1.1),d'.toList.map (fun x=>x.1.2),by rw [← hdN];exact hp.map _,?_,by simp [hps,hd],?_,?_,sortWorld_below _ _ _ _ _ _ _ _ hB.lt,hk⟩
 ·rw [List.pairwise_map,List.pairwise_iff_getElem]
  intro i j hi hj hij
  rw [Array.length_toList] at hi hj
  have:=hsort i j (Nat.zero_le _) hij (by omega)
  rw [ltOf_S,getElem!_pos d' i hi,getElem!_pos d' j hj] at this
  simpa using this
 ·intro hn
  refine ⟨g,0,rfl,Nat.lt_of_lt_of_le hB.lt (sortWorld_size _ _ _ _ _ _ _ _),fun k u hu=>?_⟩
  rw [List.getElem?_map] at hu
  obtain ⟨x,hx,rfl⟩:=Option.map_eq_some_iff.1 hu
  have hkd:k < d'.size:=by have:=(List.getElem?_eq_some_iff.1 hx).1;rwa [Array.length_toList] at this
  have hc:=Go.Sort.cell?_putRow id (Go.Sort.ahead w n') g 0 (Go.Sort.flatK (encS w) 1 d) (Go.Sort.flatK (encS w) 1 d') (fun j hj=>hH j hj) (by rw [Go.Sort.size_flatK,Go.Sort.size_flatK,hps]) k (by rw [Go.Sort.size_flatK];omega)
  unfold Go.Proofs.sortWorldK
  rw [Go.Sort.cell?_grow _ _ _ (by simpa [Go.Sort.putRowK,Go.Sort.putRow,Go.Sort.mapBlock,Go.Sort.ahead] using hB.lt)]
  unfold Go.Sort.putRowK
  rw [hc,Go.Sort.get_flatK _ _ _ _ (by omega),Nat.div_one,Nat.mod_one,getElem!_pos d' k hkd]
  have e:d'[k]=x:=by
   have:=(List.getElem?_eq_some_iff.1 hx).2
   rw [← this];simp
  rw [e];rfl
 ·refine ⟨by simp,fun k v N hv' hN=>?_⟩
  rw [List.getElem?_map] at hv' hN
  obtain ⟨x,hx,rfl⟩:=Option.map_eq_some_iff.1 hv'
  rw [hx] at hN
  cases hN
  exact x.2.keep hk
theorem conc_yes (p C:Nat) (Ns:List Nat) (i j:Nat) (w:World) (h:IsMat w p C Ns) (hin:rowsIn C Ns) (hi:i < Ns.length) (hj:j < C) (hbit:(Ns.getD i 0).testBit j=true) (hc:card (Ns.getD i 0)≤12) (hT:Tab w) :
  Calls Tryz.prog 92 #[ptr p,.int .i64 i,.int .i64 j] w fun e w'=>∃ A n c vs,e=.returned (.slice A n c)∧n=(conL C Ns i j).length∧Row w' A vs∧Sets w' vs (conL C Ns i j)∧Below w.heap.size w w':=by
 have hlN:Ns.length≤4096:=h.2.1
 have hC4:C≤4096:=h.1
 have hhas:=hasm_any p C Ns i j w h
 rw [mhas_at hi hj,hbit] at hhas
 have hrow:∀ W,Below w.heap.size w W→_:=fun W hb=>row_any p C Ns i W (h.below hb)
 rw [mrow,if_pos (by omega),Int.toNat_natCast] at hrow
 have hDC:∀ x,(Ns.getD i 0).testBit x=true→x < C:=fun x hx=>by
  have:=hin i hi
  rw [← this,Nat.testBit_and,testBit_lowN,Bool.and_eq_true,decide_eq_true_eq] at hx
  exact hx.2
 have hDe:∀ x,(Ns.getD i 0).testBit x=true↔(Ns.getD i 0).testBit x=true:=fun _=>Iff.rfl
 have hmc:=fun K hK=>mem_candL (C:=C) (D:=Ns.getD i 0) (K:=K) hlN hi hDe hDC hbit hK
 generalize Ns.getD i 0=D at hhas hrow hDC hmc hbit hc
 have hwo:withoutB D (j:Int)=D ^^^ 2 ^ j:=by unfold withoutB hasB;simp [hbit]
 have hKb:∀ x,(D ^^^ 2 ^ j).testBit x=true↔D.testBit x=true∧x≠j:=fun x=>by rw [testBit_without hbit,Bool.and_eq_true,decide_eq_true_eq]
 obtain ⟨K,hK⟩:∃ K,K=D ^^^ 2 ^ j:=⟨_,rfl⟩
 rw [← hK] at hwo hKb
 have hKj:K.testBit j=false:=by
  cases hb:K.testBit j with
  | false=>rfl
  | true=>exact absurd rfl ((hKb j).1 hb).2
 have hcK:card K≤12:=by
  rw [← mems_len] at hc ⊢
  exact Nat.le_trans (List.Nodup.length_le_of_subset (mems_nodup K) fun x hx=>mem_mems.2 ((hKb x).1 (mem_mems.1 hx)).1) hc
 have HMC:=Lib.hid (hmc K hKb)
 have HKJ:=Lib.hid hKj
 have HWO:=Lib.hid hwo
 have HH:=hideC hhas
 have HR:=Lib.hid hrow
 have HLC:=hideC (fun W r hr=>len_any r D W hr)
 obtain ⟨cd,hcd⟩:∃ x,x=card D:=⟨_,rfl⟩
 rw [← hcd] at HLC hc
 clear hhas hrow hDC hDe hmc hbit hwo hKb hKj hcd hK
 obtain ⟨i0,hi0,hz0,hz1,hz2⟩:=info_parts info_set
 go_enter Tryz.func92,Tryz.ntmps92
 go_wp2_with fail
 refine HH.out.mono ?_
 rintro e w1 ⟨rfl,b1⟩
 go_wp2_with fail
 refine (res3 rfl (HR.out w1 b1)).mono ?_
 rintro e w2 ⟨A2,n2,c2,rfl,s2,hb⟩
 have b2:=b1.trans (hb.mono b1.size)
 go_wp2_with fail
 refine (HLC.out w2 _ s2).mono ?_
 rintro e w3 ⟨rfl,hb⟩
 have b3:=b2.trans (hb.mono b2.size)
 go_wp2_with fail
 refine (res3 rfl (HR.out w3 b3)).mono ?_
 rintro e w4 ⟨A4,n4,c4,rfl,s4,hb⟩
 have b4:=b3.trans (hb.mono b3.size)
 go_wp2_with fail
 refine (res3 HWO.out (without_any _ D (j:Int) w4 s4)).mono ?_
 rintro e w5 ⟨A5,n5,c5,rfl,s5,hb⟩
 have b5:=b4.trans (hb.mono b4.size)
 go_wp2_with fail
 refine (list_any _ K w5 s5 (hT.below b5)).mono ?_
 rintro e w6 ⟨AL,cL,rfl,hLc,hLm,hrL,hb⟩
 have b6:=b5.trans (hb.mono b5.size)
 have hlen:(mems K).length≤12:=by rw [mems_len];exact hcK
 obtain ⟨l,hl⟩:∃ l,l=(mems K).length:=⟨_,rfl⟩
 rw [← hl] at hLc hlen ⊢
 have HL:=Lib.hid hl
 clear hl
 obtain ⟨E,hE⟩:∃ E:Nat,E=2 ^ l:=⟨_,rfl⟩
 have hE2:E≤4096:=by rw [hE];exact Nat.le_trans (Nat.pow_le_pow_right (by omega) hlen) (by decide)
 have e2:wrap64 ((2:Int) ^ l)=(E:Int):=by
  have:((2:Int) ^ l)=(E:Int):=by rw [hE];simp
  rw [this]
  exact IntWalk.wrap64_in _ ⟨by omega,by omega⟩
 have HEE:=Lib.hid hE
 have HS5:=Lib.hid s5
 clear hE hb s2 s4 s5 b1 b2 b3 b4 b5 HH HR HLC HWO hLm hLc
 have hm6:=h.below b6
 have hT6:=hT.below b6
 go_wp2_with fail
 rw [e2]
 clear e2
 refine wp_loopF (β:=Nat×Value) (fun s f=>#[ptr p,f 1,.int .i64 (j:Int),f 3,f 4,f 5,f 6,.slice AL l cL,s.2,f 9,f 10,f 11,f 12,f 13,f 14,f 15,f 16,f 17,f 18,f 19,f 20,f 21,f 22,f 23,f 24,f 25,f 26,f 27,f 28,f 29,f 30,f 31,f 32,.int .i64 (E:Int),.int .i64 (s.1:Int),f 35,f 36,f 37,f 38,f 39,f 40,f 41,f 42,f 43,f 44,f 45,f 46,f 47,f 48,f 49,f 50,f 51,f 52,f 53,f 54,f 55,f 56,f 57,f 58,f 59,f 60,f 61,f 62,f 63,f 64,f 65,f 66])
  (fun s ds wr=>s.1≤E∧ds=[]∧Below w6.heap.size w6 wr∧∃ vs,wr.ownsRow w6.heap.size 58 1 s.2 (candL C Ns j K s.1).length vs∧Sets wr vs (candL C Ns j K s.1)) (fun s=>E-s.1) (0,.slice none 0 0) rfl
  ⟨Nat.zero_le _,rfl,Below.refl _ _,[],World.ownsRow_nil _ _ _ _,Sets.nil _⟩ ?_
 rintro ⟨n,v8⟩ f ds wr ⟨hnE,rfl,hbr,vs,hown,hsets⟩
 dsimp only at hnE hown hsets ⊢
 by_cases hlt:n < E
 ·go_wp2_with fail
  refine absC1 fun w7 hB7 hb7 hz7=>?_
  have hof:=of_any (some ⟨wr.heap.size,0,none⟩) 1 [(j:Int)] w7 (Row.of_blk hB7 fun k u hu=>by rw [List.map_cons,List.map_nil] at hu;rw [List.getElem?_toArray];exact hu) (by simp)
  have hsj:setOf [(j:Int)]=2 ^ j:=nat_ext fun x=>by
   rw [testBit_setOf,Nat.testBit_two_pow,decide_eq_true_eq,decide_eq_true_eq]
   simp only [List.mem_singleton]
   omega
  have HOF:=hideC (res3 hsj hof)
  clear hof hsj
  refine HOF.out.mono ?_
  rintro e w8 ⟨A8,n8,c8,rfl,s8,hb8⟩
  have hb78:=hb7.trans (hb8.mono hb7.size)
  have hbr8:=hbr.trans (hb78.mono hbr.size)
  have hown8:=own_below hown hb78
  have hsets8:=hsets.below hb78
  clear HOF hB7 hz7 hb7 hb8
  go_wp2_with fail
  refine abs1 fun W7 hG hb9 hz9=>?_
  have hb67:=hbr8.trans (hb9.mono hbr8.size)
  have hown7:=own_below hown8 hb9
  have hsets7:=hsets8.below hb9
  have s9:=s8.below hb9
  have lG:=hG.lt
  obtain ⟨g,hg⟩:∃ g,g=w8.heap.size:=⟨_,rfl⟩
  have hgr:wr.heap.size≤g:=by rw [hg];exact hb78.size
  have hg6:w6.heap.size≤g:=by rw [hg];exact hbr8.size
  rw [← hg] at hG lG hz9 ⊢
  clear hg hb9 hb78 s8 hown8 hsets8 hbr8
  refine wp_loopF (β:=Nat) (fun q f=>#[ptr p,f 1,.int .i64 (j:Int),f 3,f 4,f 5,f 6,.slice AL l cL,v8,.int .i64 (n:Int),.pointer (some ⟨g,0,none⟩),f 11,f 12,f 13,f 14,f 15,f 16,f 17,f 18,f 19,f 20,f 21,f 22,f 23,f 24,f 25,f 26,f 27,f 28,f 29,f 30,f 31,f 32,.int .i64 (E:Int),.int .i64 (n:Int),f 35,f 36,f 37,f 38,f 39,.slice AL l cL,.int .i64 (l:Int),.int .i64 (q:Int),f 43,f 44,f 45,f 46,f 47,f 48,f 49,f 50,f 51,f 52,f 53,f 54,f 55,f 56,f 57,f 58,f 59,f 60,f 61,f 62,f 63,f 64,f 65,f 66])
   (fun q ds wi=>q≤l∧ds=[]∧But (some g) W7 wi∧Below w6.heap.size w6 wi∧KeepW W7 wi∧∃ v10,Blk wi g 58 #[v10]∧IsSet wi v10 (2 ^ j|||subTo (mems K) n q)) (fun q=>l-q) 0 rfl
   ⟨Nat.zero_le _,rfl,But.refl _ _,hb67,KeepW.refl _,_,hG,by show IsSet W7 _ (2 ^ j|||0);rw [Nat.or_zero];exact s9⟩ ?_
  rintro q f ds wi ⟨hil,rfl,hbut,hbi,hki,v10,hG2,hs11⟩
  dsimp only
  by_cases hq:q < l
  ·obtain ⟨g0,off0,rfl,hg0,hcell⟩:=hrL (by rw [List.length_map,← HL.out];omega)
   have hjm:q < (mems K).length:=by rw [← HL.out];exact hq
   obtain ⟨x,hx⟩:∃ x,(mems K)[q]?=some x:=⟨_,List.getElem?_eq_getElem hjm⟩
   have d0:=onB hbi (hcell q (i64 x) (by rw [List.getElem?_map,hx];rfl))
   have hgd:(mems K).getD q 0=x:=by rw [List.getD_eq_getElem?_getD,hx];rfl
   have hstep:2 ^ j|||subTo (mems K) n (q+1)=if n.testBit q=true then (2 ^ j|||subTo (mems K) n q)|||2 ^ x else 2 ^ j|||subTo (mems K) n q:=by
    rw [subTo,hgd]
    split
    ·rw [Nat.or_assoc]
    ·rfl
   have ebit:=bit_form n q (by omega)
   have hx4:x≤4095:=by
    by_cases hh:x≤4095
    ·exact hh
    ·have:=card_mem_le K x (mem_mems.1 (List.mem_of_getElem? hx)) w5 A5 n5 c5 HS5.out
     omega
   obtain ⟨st,hst⟩:∃ s,s=2 ^ j|||subTo (mems K) n q:=⟨_,rfl⟩
   rw [← hst] at hs11 hstep
   obtain ⟨A9,c9,rfl,_⟩:=id hs11
   have cG:=hG2.cell 0
   have fG:=hG2.frozen 0
   have lG2:=hG2.lt
   clear hst hx hgd hjm hcell
   by_cases hb:n.testBit q=true
   ·rw [if_pos hb] at hstep
    rw [hb] at ebit
    have HST:=Lib.hid hstep
    have hwi:=with_any _ st (x:Int) wi hs11
    rw [withB,if_pos ⟨by omega,by omega⟩,Int.toNat_natCast] at hwi
    have HWI:=hideC hwi
    clear hstep hb hwi
    go_wp2_with fail
    refine HWI.out.mono ?_
    rintro e wj ⟨r,rfl,hr,hbj⟩
    obtain ⟨A10,c10,rfl,_⟩:=id hr
    have hG3:=hG2.below hbj hG2.lt
    have cG3:=hG3.cell 0
    have fG3:=hG3.frozen 0
    have lG3:=hG3.lt
    clear cG fG lG2
    go_wp2_with fail
    exact ⟨q+1,rfl,⟨by omega,by first | rfl | trivial,(hbut.below hbj).trans (But.setCell _ _ _),(hbi.trans (hbj.mono hbi.size)).setCell (p:=⟨g,0,none⟩) hg6 (.slice A10 (nw (st|||2 ^ x)) c10),(hki.trans (KeepW.of_below hbj)).trans (KeepW.setCell (p:=⟨g,0,none⟩) hG3 (by decide) (.slice A10 (nw (st|||2 ^ x)) c10)),_,hG3.set_ 0 (.slice A10 (nw (st|||2 ^ x)) c10),by rw [HST.out];exact hr.put hG3 (by decide) 0 _⟩,by omega⟩
   ·rw [if_neg hb] at hstep
    rw [Bool.not_eq_true] at hb
    rw [hb] at ebit
    have HST:=Lib.hid hstep
    clear hstep hb
    go_wp2_with fail
    exact ⟨q+1,rfl,⟨by omega,by first | rfl | trivial,hbut,hbi,hki,_,hG2,by rw [HST.out];exact hs11⟩,by omega⟩
  ·have hss:2 ^ j|||subTo (mems K) n q=tryS j K n:=by rw [show q=l by omega,HL.out];rfl
   rw [hss] at hs11
   have hms:=candL_succ C Ns j K n
   obtain ⟨sn,hsn⟩:∃ s,s=tryS j K n:=⟨_,rfl⟩
   rw [← hsn] at hs11 hms
   obtain ⟨A9,c9,rfl,_⟩:=id hs11
   have cG:=hG2.cell 0
   have hmvi:=hm6.below hbi
   have hTi:=hT6.below hbi
   have hcl:=closed_any p C Ns _ sn wi hmvi hs11 hTi
   have hownI:=own_but hown7 hbut fun g' hg'=>by have:=(hown.lt g' hg').2;simp;omega
   have hsetsI:=hsets7.keep hki
   by_cases hyes:cloN C Ns sn=sn&&&lowN C
   ·rw [decide_eq_true hyes] at hcl
    rw [if_pos hyes] at hms
    have HCL:=hideC hcl
    have HMS:=Lib.hid hms
    clear hcl hms hyes hsn hss
    go_wp2_with fail
    refine HCL.out.mono ?_
    rintro e wc ⟨rfl,hbc⟩
    have hownC:=own_below hownI hbc
    have hsetsC:=hsetsI.below hbc
    have hbC:=hbi.trans (hbc.mono hbi.size)
    have hsC:=hs11.below hbc
    have cGc:=onB hbc cG
    have lGc:=cell_lt cGc
    have hbCs:=hbC.size
    have hloc:=own_below hownC ((Below.refl wc.heap.size wc).alloc (Nat.le_refl _) (.cells #[.slice A9 (nw sn) c9] 58))
    have hml:=candL_le C Ns j K n
    clear cG
    go_wp2_with (at_builtin;refine wpList_append_own _ rfl _ _ 67 rfl (w6.heap.size) 58 i0 (.agg #[.slice none 0 0]) 1 24 Tryz.underlying67 hi0 hz0 hz1 hz2 rfl (by decide) _ _ _ rfl (hloc) ⟨wc.heap.size,0,none⟩ 1 1 [.slice A9 (nw sn) c9] rfl rfl (cell_one_new _ _ _) (by simp [Value.oneCell']) (by unfold maxLen;omega) (by omega) (by simp;omega) ?_;intro v' w3 hown' hgrow _)
    have hb3:=(hbC.alloc hbC.size (.cells #[.slice A9 (nw sn) c9] 58)).grown hgrow (by simp;omega) (fun q hq=>(hloc.lt q hq).1)
    have hs3:=((hsetsC.snoc hsC).below ((Below.refl wc.heap.size wc).alloc (Nat.le_refl _) (.cells #[.slice A9 (nw sn) c9] 58))).keep (KeepW.grown hgrow hloc (by decide))
    exact ⟨(n+1,v'),rfl,⟨by show n+1≤E;omega,by first | rfl | trivial,hb3,_,by show w3.ownsRow _ _ _ v' (candL C Ns j K (n+1)).length _;rw [HMS.out,List.length_append];exact hown',by show Sets _ _ (candL C Ns j K (n+1));rw [HMS.out];exact hs3⟩,by show E-(n+1) < E-n;omega⟩
   ·rw [decide_eq_false hyes] at hcl
    rw [if_neg hyes] at hms
    have HCL:=hideC hcl
    have HMS:=Lib.hid hms
    clear hcl hms hyes hsn hss
    go_wp2_with fail
    refine HCL.out.mono ?_
    rintro e wc ⟨rfl,hbc⟩
    go_wp2_with fail
    exact ⟨(n+1,v8),rfl,⟨by show n+1≤E;omega,by first | rfl | trivial,hbi.trans (hbc.mono hbi.size),vs,by show wc.ownsRow _ _ _ v8 (candL C Ns j K (n+1)).length _;rw [HMS.out];exact own_below hownI hbc,by show Sets _ _ (candL C Ns j K (n+1));rw [HMS.out];exact hsetsI.below hbc⟩,by show E-(n+1) < E-n;omega⟩
 ·have hnE2:n=E:=by omega
  have hcand:candL C Ns j K n=candL C Ns j K (2 ^ (mems K).length):=by rw [hnE2,HEE.out,HL.out]
  rw [hcand] at hown hsets
  have hml:=candL_le C Ns j K n
  rw [hcand] at hml
  have hnd:=candL_nodup (C:=C) (Ns:=Ns) HKJ.out
  have hTw:=hT6.below hbr
  have hpos:0 < w6.heap.size:=cell_lt (hT6 0 (by decide))
  have hb9:=b6.trans (hbr.mono b6.size)
  obtain ⟨KL,hKL⟩:∃ l,l=candL C Ns j K (2 ^ (mems K).length):=⟨_,rfl⟩
  have HM2:=Lib.hid (fun s=>by rw [hKL];exact HMC.out s:∀ s,s∈KL↔s∈conL C Ns i j)
  rw [← hKL] at hown hsets hml hnd
  clear hKL hcand HMC
  have hfin:∀ Ls:List Nat,Ls.Perm KL→Ls.Pairwise (fun a b=>lecR b a=false)→Ls=conL C Ns i j:=fun Ls hp hpw =>
   Lec.ext (lec_of hp hnd hpw) (conL_lec C Ns i j) fun s=>by rw [hp.mem_iff];exact HM2.out s
  have HFIN:=Lib.hid hfin
  clear hfin
  rcases id hown.2 with ⟨hv9,hlen0⟩ | ⟨g,cap,cur,hv9,hg,hB,hc1,hc2,hsz,htk⟩
  ·subst hv9
   have hnil:KL=[]:=List.eq_nil_of_length_eq_zero hlen0
   subst hnil
   have hem:([]:List Nat)=conL C Ns i j:=HFIN.out [] (List.Perm.refl _) List.Pairwise.nil
   have HEM:=Lib.hid hem
   have HCON:=hideC (AnyF.slices_SortFunc_none Tryz.sortSet none 0 (.func (.func 136) #[] #[]) wr)
   clear hml hem hnd
   go_wp2_with fail
   refine Calls.mono HCON.out ?_
   rintro e w9 ⟨rfl,rfl⟩
   go_wp2_with fail
   go_ret
   exact ⟨none,0,0,[],rfl,by rw [← HEM.out];rfl,Row.empty _ _,by rw [← HEM.out];exact Sets.nil _,hb9⟩
  ·subst hv9
   obtain ⟨N9,hN9⟩:∃ N,N=KL.length:=⟨_,rfl⟩
   have hvl:vs.length=N9:=by rw [hsets.1,hN9]
   have hcon:=sort_sets g cur vs KL cap wr hB (fun k u hu=>by
    have hk:k < vs.length:=(List.getElem?_eq_some_iff.1 hu).1
    rw [← htk,List.getElem?_take_of_lt (by rw [Nat.mul_one,← hN9,← hvl];exact hk),Array.getElem?_toList] at hu
    exact hu) hsets hTw (by rw [hvl];omega) (by omega)
   rw [hvl] at hcon
   rw [← hN9]
   have HCON:=hideC hcon
   have HN9:=Lib.hid hN9
   clear hcon hml hN9 hvl hnd
   go_wp2_with fail
   refine HCON.out.mono ?_
   rintro e w9 ⟨rfl,vs',Ls,hperm,hpw,hvl',hrow,hsets',hbb,_⟩
   have hlen9:N9=Ls.length:=by rw [HN9.out,hperm.length_eq]
   have hLs:=HFIN.out Ls hperm hpw
   have hb10:=hb9.trans (hbb.mono (by have:=b6.size;omega))
   have HLEN9:=Lib.hid hlen9
   have HLS:=Lib.hid hLs
   clear hlen9 hLs
   go_wp2_with fail
   go_ret
   exact ⟨_,_,_,vs',rfl,by rw [HLEN9.out,HLS.out],hrow,by rw [← HLS.out];exact hsets',hb10⟩
theorem conc_any (m:Option Addr) (C:Nat) (Ns:List Nat) (i j:Int) (w:World) (h:IsMV w m C Ns) (hin:rowsIn C Ns) (hT:Tab w) :
  Calls Tryz.prog 92 #[.pointer m,.int .i64 i,.int .i64 j] w fun e w'=>∃ A n c vs,e=.returned (.slice A n c)∧n=(conP C Ns i j).length∧Row w' A vs∧Sets w' vs (conP C Ns i j)∧Below w.heap.size w w':=by
 by_cases hy:mhas C Ns i j=true∧card (mrow Ns i)≤12
 ·unfold conP
  rw [if_pos hy]
  obtain ⟨a,b,rfl,rfl,ha,hb,hbit⟩:=mhas_parts hy.1
  have hc:=hy.2
  rw [mrow,if_pos (by omega),Int.toNat_natCast] at hc
  rw [Int.toNat_natCast,Int.toNat_natCast]
  rcases h with ⟨rfl,rfl,rfl⟩ | ⟨p,rfl,h⟩
  ·simp at ha
  ·exact conc_yes p C Ns a b w h hin ha hb hbit hc hT
 ·unfold conP
  rw [if_neg hy]
  refine (conc_no m C Ns i j w h hy).mono ?_
  rintro e w' ⟨rfl,hb⟩
  exact ⟨none,0,0,[],rfl,rfl,Row.empty _ _,Sets.nil _,hb⟩
end Go.Proofs.YtafpmkdlciioaaaGreatDoor
namespace Go.Proofs.YtafpmkdlciioaaaGreatDoor
open Go.RowKit
attribute [local go_sem] Oper.semAt_some
theorem run_store_func {P:Program} {w:World} {a:Addr} {m:Mode} (fn:Fn) (first cap:Array Value):(store a (.func fn first cap) m).run P w=stored P w a (.func fn first cap) m:=run_store P w a _ m rfl
attribute [local go_sem] run_store_func
theorem sumO_succ {Os:List Nat} {i:Nat} (hi:i < Os.length):sumO Os (i+1)=sumO Os i+card (Os.getD i 0):=by
 unfold sumO
 rw [List.take_add_one,List.getElem?_eq_getElem hi,List.getD_eq_getElem?_getD,List.getElem?_eq_getElem hi,List.map_append,List.foldl_append]
 rfl
theorem greatO_le {C:Nat} {Ns Os:List Nat} (hC:C≤12) (hN:Ns.length≤4096):∀ n,greatO C Ns Os n≤49152
 | 0=>by simp [greatO]
 | n+1=>by
  have h1:=greatO_le (Os:=Os) hC hN n
  have h2:=gainR_le C Ns Os n (mems (havN C Ns n))
  have h3:(mems (havN C Ns n)).length≤4096:=by
   rw [mems_len]
   exact Nat.le_trans (card_bits (C:=Ns.length) fun x hx=>havN_lt hN hx) hN
  have h4:(mems (havN C Ns n)).length*C≤4096*12:=Nat.mul_le_mul h3 hC
  rw [greatO_succ]
  omega
def KeepX (g:Nat) (W W':World):Prop:=W.heap.size≤W'.heap.size∧∀ (k:Nat) cs t fz,k≠g→W.heap[k]?=some (Obj.cells cs t fz)→W'.heap[k]?=some (Obj.cells cs t fz)
theorem KeepX.refl (g:Nat) (W:World):KeepX g W W:=⟨Nat.le_refl _,fun _ _ _ _ _ h=>h⟩
theorem KeepX.trans {g:Nat} {W W' W'':World} (h:KeepX g W W') (k:KeepX g W' W''):KeepX g W W'':=⟨Nat.le_trans h.1 k.1,fun n cs t fz hn hb=>k.2 n cs t fz hn (h.2 n cs t fz hn hb)⟩
theorem KeepX.of_below {g:Nat} {W W':World} (h:Below W.heap.size W W'):KeepX g W W':=⟨h.size,fun k _ _ _ _ hb=>(h.block k (Array.getElem?_eq_some_iff.1 hb).1).trans hb⟩
theorem KeepX.setCell (W:World) (p:Addr) (u:Value):KeepX p.block W (W.setCell p u):=⟨by simp [World.setCell],fun k _ _ _ hne hb=>(Below.heap_setCell W p u k hne).trans hb⟩
theorem KeepX.grown {g:Nat} {W W':World} {row:Option Nat} (hg:W.grownBy W' row) (hr:∀ k,row=some k→∃ o,W.heap[k]?=some o∧o.isCells=false):KeepX g W W' :=
 ⟨hg.size,fun k _ _ _ _ hb=>(hg.block k (Array.getElem?_eq_some_iff.1 hb).1 fun e=>by
  obtain ⟨o,ho,hc⟩:=hr k e.symm
  rw [ho] at hb;cases hb;cases hc).trans hb⟩
theorem Blk.kx {W W':World} {g k:Nat} {t:TypeId} {cs:Array Value} (hb:Blk W k t cs) (h:KeepX g W W') (hne:k≠g):Blk W' k t cs:=h.2 _ _ _ _ hne hb
theorem KeepX.keep {g:Nat} {W W':World} {t:TypeId} {cs:Array Value} (h:KeepX g W W') (hb:Blk W g t cs) (ht:146≠t):KeepW W W' :=
 ⟨h.1,fun k _ hk=>h.2 _ _ _ _ (fun e=>by subst e;unfold Blk at hk hb;rw [hb] at hk;cases hk;exact ht rfl) hk⟩
theorem Cln.blk {w:World} {g:Nat} {Ls:List Nat} (h:Cln w g Ls):∃ cs,Blk w g 58 cs:=by obtain ⟨cs,_,h1,_⟩:=h;exact ⟨cs,h1⟩
theorem Cln.kc {w w':World} {g:Nat} {Ls:List Nat} (h:Cln w g Ls) (k:KeepC w w'):Cln w' g Ls:=by
 obtain ⟨cs,vs,h1,h2,h3⟩:=h
 exact ⟨cs,vs,h1.kc k,h2,h3.keep k.keep⟩
theorem Cln.own {w:World} {base g n c:Nat} {vs:List Value} {Ls:List Nat} (h:w.ownsRow base 58 1 (.slice (some ⟨g,0,none⟩) n c) n vs) (hs:Sets w vs Ls) (hn:0 < n):Cln w g Ls∧base≤g∧n≤c:=by
 rcases id h.2 with ⟨hv9,hlen0⟩ | ⟨g',cap,cur,hv9,hg,hB,hc1,hc2,hsz,htk⟩
 ·omega
 ·obtain ⟨rfl,rfl⟩:g=g'∧c=cap:=by
   injection hv9 with e1 e2 e3
   injection e1 with e1
   injection e1 with e1
   exact ⟨e1,e3⟩
  refine ⟨⟨cur,vs,hB,fun k u hu=>?_,hs⟩,hg,by omega⟩
  have hk:k < vs.length:=(List.getElem?_eq_some_iff.1 hu).1
  rw [← htk] at hu
  rw [List.getElem?_take] at hu
  split at hu
  ·rwa [Array.getElem?_toList] at hu
  ·cases hu
theorem conP_len {C:Nat} {Ns:List Nat} (hl:Ns.length≤4096) (hin:rowsIn C Ns) (i j:Int):(conP C Ns i j).length≤4096:=by
 unfold conP
 split
 ·rename_i h
  obtain ⟨a,b,rfl,rfl,ha,hb,hbit⟩:=mhas_parts h.1
  have hc:=h.2
  rw [mrow,if_pos (by omega),Int.toNat_natCast] at hc
  rw [Int.toNat_natCast,Int.toNat_natCast]
  have hDC:∀ x,(Ns.getD a 0).testBit x=true→x < C:=fun x hx=>by
   have:=hin a ha
   rw [← this,Nat.testBit_and,testBit_lowN,Bool.and_eq_true,decide_eq_true_eq] at hx
   exact hx.2
  have hKb:∀ x,(Ns.getD a 0 ^^^ 2 ^ b).testBit x=true↔(Ns.getD a 0).testBit x=true∧x≠b:=fun x=>by rw [testBit_without hbit,Bool.and_eq_true,decide_eq_true_eq]
  have hcK:(mems (Ns.getD a 0 ^^^ 2 ^ b)).length≤12:=by
   rw [← mems_len] at hc
   exact Nat.le_trans (List.Nodup.length_le_of_subset (mems_nodup _) fun x hx=>mem_mems.2 ((hKb x).1 (mem_mems.1 hx)).1) hc
  have hnd:(conL C Ns a b).Nodup:=(conL_lec C Ns a b).imp fun {x y} h e=>by subst e;rw [lecR_irrefl] at h;cases h
  refine Nat.le_trans (List.Nodup.length_le_of_subset hnd fun s hs=>(mem_candL hl ha (fun _=>Iff.rfl) hDC hbit hKb s).2 hs) (Nat.le_trans (candL_le _ _ _ _ _) ?_)
  exact Nat.le_trans (Nat.pow_le_pow_right (by omega) hcK) (by decide)
 ·simp
theorem kids_at {g:Nat→Int→Int×Int} {l:List Nat} {m:List Int} {k s:Nat} {c:Int} (hs:l[k]?=some s) (hc:m[k]?=some c) :
  kidsF g ((l.drop k).zip (m.drop k))=if (g s c).1≠1 then g s c else kidsF g ((l.drop (k+1)).zip (m.drop (k+1))):=by
 obtain ⟨h1,rfl⟩:=List.getElem?_eq_some_iff.1 hs
 obtain ⟨h2,rfl⟩:=List.getElem?_eq_some_iff.1 hc
 rw [List.drop_eq_getElem_cons h1,List.drop_eq_getElem_cons h2,List.zip_cons_cons,kidsF]
theorem hasO_pos {Os:List Nat} {i j:Int} (h:hasO Os i j=true):0 < Os.length:=by
 unfold hasO at h
 simp only [Bool.and_eq_true,decide_eq_true_eq] at h
 omega
structure NI (w:World) (q C:Nat) (Ns:List Nat) (A:Option Addr) (P:List Nd) (Ao:Option Addr) (vs:List Value) (Os:List Nat):Prop where
 mat:IsMat w q C Ns
 rows:rowsIn C Ns
 nodes:IsNodes w A P
 form:FormOK P
 row:Row w Ao vs
 sets:Sets w vs Os
 len:Os.length=Ns.length
 tab:Tab w
section
variable {w w':World} {q C:Nat} {Ns:List Nat} {A:Option Addr} {P:List Nd} {Ao:Option Addr} {vs:List Value} {Os:List Nat}
end
namespace Mix2
theorem node_any (q C:Nat) (Ns:List Nat) (A:Option Addr) (c0:Nat) (P:List Nd):∀ (f n:Nat) (b:Int) (Ao:Option Addr) (co:Nat) (vs:List Value) (Os:List Nat) (w:World),n < P.length→P.length≤f+n→0≤b→b≤256→Os.length≤co→NI w q C Ns A P Ao vs Os →
  Calls Tryz.prog 41 #[ptr q,.slice A P.length c0,.int .i64 n,.slice Ao Os.length co,.int .i64 b] w fun e w'=>e=.returned (.tuple #[.int .u8 (nodeP C Ns P f n b Os).1,.int .i64 (nodeP C Ns P f n b Os).2])∧Below w.heap.size w w':=by
 intro f
 induction f with
 | zero=>intro n b Ao co vs Os w hn hf;omega
 | succ f ih =>
 intro n b Ao co vs Os w hn hf hb0 hb1 hco h
 obtain ⟨x,hx⟩:∃ x,P[n]?=some x:=⟨_,List.getElem?_eq_getElem hn⟩
 have hxd:P.getD n default=x:=by rw [List.getD_eq_getElem?_getD,hx];rfl
 obtain ⟨hkind,hchild⟩:=h.form n hn
 rw [hxd] at hkind hchild
 have hnode:=congrArg id (rfl:nodeP C Ns P (f+1) n b Os=nodeP C Ns P (f+1) n b Os)
 obtain ⟨g,off,A1,c1,A2,c2,rfl,hg,n0,n1,n2,n3,n4,hch,hps,hchl,hk0,hk255⟩:=nodes_at h.nodes hx
 have hNP:∀ r:Int×Int,(let x:=x
  (if x.kind=2 then (if x.cells.any (fun c=>!hasO Os c.1 c.2)=true then (3,(n:Int)) else if (x.cells.length:Int)≤b∨apartB C Ns x.cells=false then (5,(n:Int)) else (1,0))
  else if x.kind=3 then (if 12 < C∨(sumO Os Os.length:Int)≤b*greatO C Ns Os (2 ^ C) then (5,(n:Int)) else (1,0))
  else if hasO Os x.row x.col=false then (3,(n:Int))
  else if b < 1 then (5,(n:Int))
  else if (conP C Ns x.row x.col).length=0∨(conP C Ns x.row x.col).length≠x.ch.length then (4,(n:Int))
  else kidsF (fun s c=>nodeP C Ns P f c (b-1) (lessO C Ns Os s)) ((conP C Ns x.row x.col).zip x.ch))=r)→nodeP C Ns P (f+1) n b Os=r:=fun r hr=>by
  rw [nodeP,Int.toNat_natCast,hxd];exact hr
 have HNP:=Lib.hid hNP
 clear hNP hnode hxd
 have hmf:∀ (fn:Fn) (first cap:Array Value) (W:World),(Instr.makeFunc fn first cap).run Tryz.prog W=.ok (.func fn first cap) W:=fun _ _ _ _=>rfl
 refine (callsIn_wide (n:=9)).1 (callsIn_of_wp_marks Tryz.func41 rfl trivial (wpIn_wide.2 ?_) rfl)
 simp only [Tryz.ntmps41,List.size_toArray,List.length_cons,List.length_nil,Nat.reduceAdd,Nat.reduceSub,Array.replicate_succ,Array.replicate_zero,List.push_toArray,List.append_toArray,List.nil_append,List.cons_append]
 obtain ⟨kd,hkd⟩:∃ k:Int,k=x.kind:=⟨_,rfl⟩
 rw [← hkd] at n0 hkind
 have HKD:=Lib.hid hkd
 clear hkd hk0 hk255
 by_cases k2:kd=2
 ·subst k2
  go_wp2_with fail
  refine absC3 fun W1 h8 h12 h13 hb hz=>?_
  have hop:IsOpen W1 w.heap.size Os:=⟨Ao,co,vs,h8,h.row.below hb,h.sets.below hb,hco⟩
  have hps1:=hps.below hb
  have HA:=Lib.hid (fun W hW=>apart_any (some ⟨q,0,none⟩) C Ns (.slice A2 x.cells.length c2) x.cells W (h.mat.below hW).mv (hps.below hW))
  refine (contains_node _ (fun c=>!hasO Os c.1 c.2) _ x.cells W1 hps1 (fun W hW c=>node2_any w.heap.size _ _ Os c W (hop.below hW) (h13.below hW h13.lt))).mono ?_
  rintro e w1 ⟨rfl,hb2⟩
  have hbw:=hb.trans (hb2.mono hb.size)
  have a12:=(h12.below hb2 h12.lt).cell 4
  by_cases ha:(x.cells.any fun c=>!hasO Os c.1 c.2)=true
  ·have hret:=HNP.out (3,(n:Int)) (by rw [← HKD.out,if_pos rfl,if_pos ha])
   rw [ha]
   go_wp2_with fail
   refine leave_marks (n₀:=w.heap.size) _ _ (show Marks _ _ [] from trivial) fun W' hW'=>⟨.tuple #[.int .u8 3,.int .i64 (n:Int)],by simp [results,Tryz.results41],by rw [hret],hbw.trans hW'.1⟩
  ·have ha':=Bool.eq_false_iff.2 ha
   rw [ha']
   have HAA:=Lib.hid ha
   clear ha ha'
   by_cases hle:(x.cells.length:Int)≤b
   ·have hret:=HNP.out (5,(n:Int)) (by rw [← HKD.out,if_pos rfl,if_neg HAA.out,if_pos (.inl hle)])
    have HR:=Lib.hid hret
    clear hret
    go_wp2_with fail
    refine leave_marks (n₀:=w.heap.size) _ _ (show Marks _ _ [] from trivial) fun W' hW'=>⟨.tuple #[.int .u8 5,.int .i64 (n:Int)],by simp [results,Tryz.results41],by rw [HR.out],hbw.trans hW'.1⟩
   ·have hAP:=HA.out w1 hbw
    by_cases hap:apartB C Ns x.cells=false
    ·have hret:=HNP.out (5,(n:Int)) (by rw [← HKD.out,if_pos rfl,if_neg HAA.out,if_pos (.inr hap)])
     rw [hap] at hAP
     have HR:=Lib.hid hret
     have HP:=Lib.hid hAP
     clear hret hAP hap
     go_wp2_with fail
     refine HP.out.mono ?_
     rintro e w2 ⟨rfl,hb3⟩
     have hbw2:=hbw.trans (hb3.mono hbw.size)
     go_wp2_with fail
     refine leave_marks (n₀:=w.heap.size) _ _ (show Marks _ _ [] from trivial) fun W' hW'=>⟨.tuple #[.int .u8 5,.int .i64 (n:Int)],by simp [results,Tryz.results41],by rw [HR.out],hbw2.trans hW'.1⟩
    ·have hret:=HNP.out (1,0) (by rw [← HKD.out,if_pos rfl,if_neg HAA.out,if_neg (fun h=>h.elim hle hap)])
     rw [Bool.not_eq_false] at hap
     rw [hap] at hAP
     have HR:=Lib.hid hret
     have HP:=Lib.hid hAP
     clear hret hAP hap
     go_wp2_with fail
     refine HP.out.mono ?_
     rintro e w2 ⟨rfl,hb3⟩
     have hbw2:=hbw.trans (hb3.mono hbw.size)
     go_wp2_with fail
     refine leave_marks (n₀:=w.heap.size) _ _ (show Marks _ _ [] from trivial) fun W' hW'=>⟨.tuple #[.int .u8 1,.int .i64 0],by simp [results,Tryz.results41],by rw [HR.out],hbw2.trans hW'.1⟩
 ·by_cases k3:kd=3
  ·subst k3
   have hM:=h.mat
   have hlN:Ns.length≤4096:=h.mat.2.1
   have HLO:=Lib.hid h.len
   have hO4:Os.length≤4096:=by rw [HLO.out];exact hlN
   have hS:=h.sets
   have hr:=h.row
   have hT:=h.tab
   go_wp2_with fail
   refine abs3 fun W1 h8 h12 h13 hb hz=>?_
   have hX:w.heap.size≤w.heap.size:=Nat.le_refl _
   obtain ⟨X,hXe⟩:∃ X,X=w.heap.size:=⟨_,rfl⟩
   rw [← hXe] at h8 h12 h13 ⊢
   have HXE:=Lib.hid hXe
   clear hXe hz hX
   refine wp_loopF (β:=Nat) (fun i f=>#[ptr q,.slice (some ⟨g,off,none⟩) P.length c0,.int .i64 n,.slice Ao Os.length co,.int .i64 b,f 5,f 6,f 7,.pointer (some ⟨X,0,none⟩),f 9,.int .u8 0,.int .i64 0,.pointer (some ⟨X+1,0,none⟩),.pointer (some ⟨X+1+1,0,none⟩),.int .i64 (sumO Os i:Int),f 15,f 16,f 17,f 18,f 19,f 20,f 21,f 22,f 23,f 24,f 25,f 26,f 27,f 28,f 29,f 30,f 31,f 32,f 33,f 34,f 35,f 36,f 37,f 38,f 39,f 40,f 41,f 42,f 43,f 44,f 45,f 46,f 47,f 48,f 49,f 50,f 51,f 52,.slice Ao Os.length co,.int .i64 (Os.length:Int),.int .i64 (i:Int),f 56,f 57,f 58,f 59,f 60,f 61,f 62,f 63,f 64,f 65,f 66,f 67,f 68,f 69,f 70,f 71,f 72,f 73,f 74,f 75,f 76,f 77,f 78,f 79,f 80,f 81,f 82,f 83,f 84,f 85,f 86,f 87,f 88,f 89,f 90,f 91,f 92,f 93,f 94,f 95,f 96,f 97,f 98,f 99,f 100,f 101,f 102,f 103,f 104,f 105,f 106,f 107,f 108,f 109,f 110,f 111,f 112,f 113,f 114,f 115,f 116,f 117,f 118,f 119,f 120,f 121,f 122,f 123,f 124,f 125,f 126,f 127,f 128,f 129,f 130,f 131,f 132,f 133,f 134,f 135,f 136,f 137,f 138,f 139,f 140,f 141,f 142,f 143,f 144,f 145,f 146,f 147])
    (fun i ds W=>i≤Os.length∧ds=[]∧Below w.heap.size w W∧Blk W X 67 #[.slice Ao Os.length co]∧sumO Os i≤i*4096) (fun i=>Os.length-i) 0 rfl
    ⟨Nat.zero_le _,rfl,hb,h8,by simp [sumO]⟩ ?_
   rintro i fr ds W ⟨hi,rfl,hbW,h8W,hsu⟩
   dsimp only at hi ⊢
   by_cases hlt:i < Os.length
   ·have hv:i < vs.length:=by rw [hS.1];exact hlt
    obtain ⟨v,hvx⟩:∃ v,vs[i]?=some v:=⟨_,List.getElem?_eq_getElem hv⟩
    have hox:Os[i]?=some (Os.getD i 0):=by rw [List.getD_eq_getElem?_getD,List.getElem?_eq_getElem hlt];rfl
    have sv:=(hS.2 i v _ hvx hox).below hbW
    have hsc:=sumO_succ hlt
    generalize Os.getD i 0=ox at sv hsc
    obtain ⟨Av,cv,rfl,hnv,_⟩:=id sv
    have hcl:=card_le hnv
    obtain ⟨g1,o1,rfl,hg1,hc1⟩:=hr (by omega)
    have d1:=onB hbW (hc1 i _ hvx)
    obtain ⟨su,hsue⟩:∃ s,s=sumO Os i:=⟨_,rfl⟩
    rw [← hsue] at hsc hsu ⊢
    have HSC:=Lib.hid hsc
    clear hsue hsc hc1 hvx hox
    obtain ⟨hwr,hsu2,hs1,hlt2⟩:=sum_step hlt hO4 hsu hcl
    have HSU:=Lib.hid (hsu2);have HS1:=Lib.hid hs1;have HLT:=Lib.hid hlt2;have HWR:=Lib.hid hwr
    clear hsu2 hs1 hlt2 hcl hwr
    have HLE:=Lib.hid (fun W hW=>len_any (.slice Av (nw ox) cv) ox W hW)
    go_wp2_with fail
    refine absC1 fun W2 h16 hb2 hz2=>?_
    have hbW2:=hbW.trans (hb2.mono hbW.size)
    have h8W2:=h8W.below hb2 h8W.lt
    refine (HLE.out W2 (sv.below hb2)).mono ?_
    rintro e w3 ⟨rfl,hb3⟩
    have hbW3:=hbW2.trans (hb3.mono hbW2.size)
    have h8W3:=h8W2.below hb3 h8W2.lt
    go_wp2_with fail
    have h3:=HWR.out
    rw [h3,← HSC.out]
    exact ⟨i+1,rfl,⟨HS1.out,trivial,hbW3,h8W3,by rw [HSC.out];exact HSU.out⟩,HLT.out⟩
   ·obtain rfl:i=Os.length:=by omega
    have hO5:Os.length≤4096:=by rw [HLO.out];exact hlN
    have hCw:=cols_any q C Ns W (hM.below hbW)
    have HKR:=Lib.hid (fun r hr=>HNP.out r (by rw [← HKD.out,if_neg (by decide),if_pos rfl];exact hr))
    obtain ⟨su,hsue⟩:∃ s,s=sumO Os Os.length:=⟨_,rfl⟩
    rw [← hsue] at hsu HKR ⊢
    have HCW:=Lib.hid hCw
    clear hsue hCw
    go_wp2_with fail
    refine HCW.out.mono ?_
    rintro e w' ⟨rfl,rfl⟩
    by_cases hC:12 < C
    ·have hret:=HKR.out (5,(n:Int)) (by rw [if_pos (.inl hC)])
     have HR:=Lib.hid hret
     clear hret
     go_wp2_with fail
     refine leave_marks (n₀:=w.heap.size) _ _ (show Marks _ _ [] from trivial) fun W' hW'=>⟨.tuple #[.int .u8 5,.int .i64 (n:Int)],by simp [results,Tryz.results41],by rw [HR.out],hbW.trans hW'.1⟩
    ·have hgl:=greatO_le (Os:=Os) (C:=C) (by omega) hlN (2 ^ C)
     have HGA:=Lib.hid (greatest_any q C Ns Ao co vs Os W (hM.below hbW) (by omega) (hr.below hbW) (hS.below hbW) HLO.out (hT.below hbW))
     obtain ⟨gr,hgr⟩:∃ x,x=greatO C Ns Os (2 ^ C):=⟨_,rfl⟩
     rw [← hgr] at hgl HGA HKR
     have a8:=h8W.cell 0
     clear hgr
     have hm0:0≤b*(gr:Int):=Int.mul_nonneg hb0 (by omega)
     have hm1:b*(gr:Int)≤256*49152:=Int.mul_le_mul hb1 (by omega) (by omega) (by omega)
     have hwr:wrap64 (b*(gr:Int))=b*(gr:Int):=IntWalk.wrap64_in _ ⟨by omega,by omega⟩
     have HLO2:=Lib.hid hm1
     clear hm1
     go_wp2_with fail
     refine HGA.out.mono ?_
     rintro e w2 ⟨rfl,hb2⟩
     have hbW2:=hbW.trans (hb2.mono hbW.size)
     by_cases hle:(su:Int)≤b*gr
     ·have hret:=HKR.out (5,(n:Int)) (by rw [if_pos (.inr hle)])
      have HR:=Lib.hid hret
      clear hret
      go_wp2_with fail
      refine leave_marks (n₀:=w.heap.size) _ _ (show Marks _ _ [] from trivial) fun W' hW'=>⟨.tuple #[.int .u8 5,.int .i64 (n:Int)],by simp [results,Tryz.results41],by rw [HR.out],hbW2.trans hW'.1⟩
     ·have hret:=HKR.out (1,0) (by rw [if_neg (fun h=>h.elim hC hle)])
      have HR:=Lib.hid hret
      clear hret
      go_wp2_with fail
      refine leave_marks (n₀:=w.heap.size) _ _ (show Marks _ _ [] from trivial) fun W' hW'=>⟨.tuple #[.int .u8 1,.int .i64 0],by simp [results,Tryz.results41],by rw [HR.out],hbW2.trans hW'.1⟩
  ·have k1:kd=1:=by omega
   subst k1
   have hM:=h.mat
   have hlN:Ns.length≤4096:=h.mat.2.1
   have HLO:=Lib.hid h.len
   have hO4:Os.length≤4096:=by rw [HLO.out];exact hlN
   have hS:=h.sets
   have hr:=h.row
   have hT:=h.tab
   have HKR:=Lib.hid (fun r hr=>HNP.out r (by show ite _ _ _=_;rw [← HKD.out,if_neg (by decide),if_neg (by decide)];exact hr))
   go_wp2_with fail
   refine absC3 fun W1 h8 h12 h13 hb hz=>?_
   have hop:IsOpen W1 w.heap.size Os:=⟨Ao,co,vs,h8,hr.below hb,hS.below hb,hco⟩
   obtain ⟨X,hXe⟩:∃ X,X=w.heap.size:=⟨_,rfl⟩
   rw [← hXe] at h8 h12 h13 hop ⊢
   have HXE:=Lib.hid hXe
   clear hXe hz
   refine (hasO_any X Os x.row x.col W1 hop).mono ?_
   rintro e w1 ⟨rfl,hb2⟩
   have hbw:=hb.trans (hb2.mono hb.size)
   have h8w:=h8.below hb2 h8.lt
   have h12w:=h12.below hb2 h12.lt
   clear hb hb2 h8 h12 h13 hop
   by_cases hh:hasO Os x.row x.col=false
   ·have hret:=HKR.out (3,(n:Int)) (by rw [if_pos hh])
    rw [hh]
    have HR:=Lib.hid hret
    clear hret hh
    go_wp2_with fail
    refine leave_marks (n₀:=w.heap.size) _ _ (show Marks _ _ [] from trivial) fun W' hW'=>⟨.tuple #[.int .u8 3,.int .i64 (n:Int)],by simp [results,Tryz.results41],by rw [HR.out],hbw.trans hW'.1⟩
   ·have hh2:=Bool.not_eq_false _▸hh
    rw [hh2]
    by_cases hb1':b < 1
    ·have hret:=HKR.out (5,(n:Int)) (by rw [if_neg hh,if_pos hb1'])
     have HR:=Lib.hid hret
     have HH:=Lib.hid hh
     clear hret hh hh2
     go_wp2_with fail
     refine leave_marks (n₀:=w.heap.size) _ _ (show Marks _ _ [] from trivial) fun W' hW'=>⟨.tuple #[.int .u8 5,.int .i64 (n:Int)],by simp [results,Tryz.results41],by rw [HR.out],hbw.trans hW'.1⟩
    ·have HKS:=Lib.hid (fun r hr=>HKR.out r (by rw [if_neg hh,if_neg hb1'];exact hr))
     have HPO:=Lib.hid (hasO_pos hh2)
     clear hh hh2
     have c1:=h12w.cell 1
     have c2:=h12w.cell 2
     go_wp2_with fail
     refine (conc_any (some ⟨q,0,none⟩) C Ns x.row x.col w1 (hM.below hbw).mv h.rows (hT.below hbw)).mono ?_
     rintro e w2 ⟨A3,n3,c3,vs3,rfl,hn3,hr3,hs3,hb3⟩
     have hbw2:=hbw.trans (hb3.mono hbw.size)
     have h8w2:=h8w.below hb3 h8w.lt
     have h12w2:=h12w.below hb3 h12w.lt
     have hcl:=conP_len hlN h.rows x.row x.col
     obtain ⟨Cs,hCs⟩:∃ Cs,Cs=conP C Ns x.row x.col:=⟨_,rfl⟩
     rw [← hCs] at hn3 hs3 HKS hcl
     have HCL:=Lib.hid hcl
     clear hcl hCs hb3 h8w h12w c1 c2
     subst hn3
     have hCl:=HCL.out
     by_cases he:Cs.length=0∨Cs.length≠x.ch.length
     ·have hret:=HKS.out (4,(n:Int)) (by rw [if_pos he])
      have HR:=Lib.hid hret
      clear hret
      have c3':=h12w2.cell 3
      by_cases he0:Cs.length=0
      ·rw [he0]
       clear he
       go_wp2_with fail
       refine leave_marks (n₀:=w.heap.size) _ _ (show Marks _ _ [] from trivial) fun W' hW'=>⟨.tuple #[.int .u8 4,.int .i64 (n:Int)],by simp [results,Tryz.results41],by rw [HR.out],hbw2.trans hW'.1⟩
      ·have he1:=he.resolve_left he0
       clear he
       have hw0:¬ ((Cs.length:Int)=0):=by omega
       have hw0b:((Cs.length:Int) == 0)=false:=by rw [beq_eq_false_iff_ne];omega
       have hw1:¬ ((Cs.length:Int)=(x.ch.length:Int)):=by omega
       have hw1b:((Cs.length:Int) != (x.ch.length:Int))=true:=by rw [bne_iff_ne];omega
       go_wp2_with fail
       refine leave_marks (n₀:=w.heap.size) _ _ (show Marks _ _ [] from trivial) fun W' hW'=>⟨.tuple #[.int .u8 4,.int .i64 (n:Int)],by simp [results,Tryz.results41],by rw [HR.out],hbw2.trans hW'.1⟩
     ·have HKT:=Lib.hid (fun r hr=>HKS.out r (by rw [if_neg he];exact hr))
      have he0:0 < Cs.length:=by omega
      have he1:x.ch.length=Cs.length:=by omega
      have c3':=h12w2.cell 3
      clear he
      rw [he1] at c3' h12w2 hchl
      have HE1:=Lib.hid he1
      clear he1
      have hw0:¬ ((Cs.length:Int)=0):=by omega
      have hw0b:((Cs.length:Int) == 0)=false:=by rw [beq_eq_false_iff_ne];omega
      go_wp2_with fail
      have hpo:=HPO.out
      obtain ⟨go,oo,rfl,-,-⟩:=h.row (by rw [hS.1];exact hpo)
      obtain ⟨G,hG⟩:∃ G:Nat→Int→Int×Int,G=fun s c=>nodeP C Ns P f c (b-1) (lessO C Ns Os s):=⟨_,rfl⟩
      rw [← hG] at HKT
      have HG:=Lib.hid (fun s c=>congrFun (congrFun hG s) c)
      clear hG hpo
      have hw2:w.heap.size≤w2.heap.size:=hbw2.size
      refine wp_loopF (β:=Nat) (fun k f=>#[ptr q,.slice (some ⟨g,off,none⟩) P.length c0,.int .i64 n,f 3,.int .i64 b,f 5,f 6,f 7,.pointer (some ⟨X,0,none⟩),f 9,.int .u8 0,.int .i64 0,.pointer (some ⟨X+1,0,none⟩),f 13,f 14,f 15,f 16,.slice A3 Cs.length c3,f 18,f 19,f 20,f 21,f 22,f 23,f 24,f 25,f 26,f 27,f 28,f 29,f 30,f 31,f 32,f 33,f 34,f 35,f 36,f 37,f 38,f 39,f 40,f 41,f 42,f 43,f 44,f 45,f 46,f 47,f 48,f 49,f 50,f 51,f 52,f 53,f 54,f 55,f 56,f 57,f 58,f 59,f 60,f 61,f 62,f 63,f 64,f 65,f 66,f 67,f 68,f 69,f 70,f 71,f 72,f 73,f 74,f 75,f 76,f 77,f 78,f 79,f 80,f 81,f 82,f 83,f 84,f 85,f 86,f 87,f 88,f 89,f 90,f 91,f 92,f 93,f 94,f 95,f 96,f 97,f 98,f 99,f 100,f 101,f 102,f 103,f 104,f 105,.slice A3 Cs.length c3,.int .i64 (Cs.length:Int),.int .i64 (k:Int),f 109,f 110,f 111,f 112,f 113,f 114,f 115,f 116,f 117,f 118,f 119,f 120,f 121,f 122,f 123,f 124,f 125,f 126,f 127,f 128,f 129,f 130,f 131,f 132,f 133,f 134,f 135,f 136,f 137,f 138,f 139,f 140,f 141,f 142,f 143,f 144,f 145,f 146,f 147])
       (fun k ds W=>k≤Cs.length∧Marks w.heap.size W ds∧Below w2.heap.size w2 W∧kidsF G (Cs.zip x.ch)=kidsF G ((Cs.drop k).zip (x.ch.drop k))) (fun k=>Cs.length-k) 0 rfl
       ⟨Nat.zero_le _,trivial,Below.refl _ _,rfl⟩ ?_
      rintro k fr ds W ⟨hk,hMk,hbk,hkid⟩
      dsimp only at hk ⊢
      have hbW:=hbw2.trans (hbk.mono hw2)
      by_cases hlt:k < Cs.length
      ·obtain ⟨s,hsx⟩:∃ s,Cs[k]?=some s:=⟨_,List.getElem?_eq_getElem hlt⟩
       obtain ⟨c,hcx⟩:∃ c,x.ch[k]?=some c:=⟨_,List.getElem?_eq_getElem (by rw [HE1.out];exact hlt)⟩
       rw [kids_at hsx hcx,HG.out] at hkid
       obtain ⟨hc1,hc2⟩:=hchild c (List.mem_of_getElem? hcx)
       obtain ⟨m,rfl⟩:=Int.eq_ofNat_of_zero_le (show 0≤c by omega)
       have hv3:k < vs3.length:=by rw [hs3.1];exact hlt
       obtain ⟨v,hvx⟩:∃ v,vs3[k]?=some v:=⟨_,List.getElem?_eq_getElem hv3⟩
       have sv:=hs3.2 k v s hvx hsx
       obtain ⟨As,cs,rfl,_⟩:=id sv
       obtain ⟨g3,o3,rfl,hg3,hc3⟩:=hr3 (by omega)
       have d0:=onB hbk (hc3 k _ hvx)
       have h8k:=h8w2.below hbk h8w2.lt
       have h12k:=h12w2.below hbk h12w2.lt
       have svk:=sv.below hbk
       have a8:=h8k.cell 0
       have l8:=h8k.lt
       have HKID:=Lib.hid hkid
       have HC1:=Lib.hid hc1;have HC2:=Lib.hid hc2
       clear hkid hc1 hc2 sv hvx hc3 hv3 c3' hsx
       go_wp2_with fail
       refine absC1 fun W1 h19 hb1 hz1=>?_
       have k1:=hbk.trans (hb1.mono hbk.size)
       have l1:=hbW.trans (hb1.mono hbW.size)
       have h8_1:=h8k.below hb1 h8k.lt
       have h12_1:=h12k.below hb1 h12k.lt
       have sv1:=svk.below hb1
       have hM1:=hMk.kd (KeepD.of_below hb1)
       obtain ⟨g19,hg19⟩:∃ g,g=W.heap.size:=⟨_,rfl⟩
       have e19:w2.heap.size≤g19:=by rw [hg19];exact hbk.size
       rw [← hg19] at h19 ⊢
       clear hg19 hz1 hb1 h8k h12k svk d0 a8 l8
       refine (cloneS_any go oo co vs Os W1 (h.row.below l1) (hS.below l1) HPO.out (by rw [HLO.out];exact hlN)).mono ?_
       rintro e W2 ⟨gc,cc,rfl,hown,hb2⟩
       obtain ⟨hcln,hgc,hcc⟩:=Cln.own hown ((hS.below l1).below hb2) HPO.out
       have k2:=k1.trans (hb2.mono k1.size)
       have l2:=l1.trans (hb2.mono l1.size)
       have h8_2:=h8_1.below hb2 h8_1.lt
       have h12_2:=h12_1.below hb2 h12_1.lt
       have h19_2:=h19.below hb2 h19.lt
       have sv2:=sv1.below hb2
       have hM2:=hM1.kd (KeepD.of_below hb2)
       have e19c:g19 < gc:=Nat.lt_of_lt_of_le h19.lt hgc
       have eXc:X+1 < gc:=Nat.lt_of_lt_of_le h12_1.lt hgc
       have ecw:w2.heap.size≤gc:=Nat.le_trans k1.size hgc
       clear hown hb2 h8_1 h12_1 h19 sv1 hM1 k1 l1
       have b19:=h19_2.cell 0
       have l19:=h19_2.lt
       go_wp2_with fail
       refine absC1 fun W3 h20 hb3 hz3=>?_
       have k3:=k2.trans (hb3.mono k2.size)
       have l3:=l2.trans (hb3.mono l2.size)
       have h8_3:=h8_2.below hb3 h8_2.lt
       have h12_3:=h12_2.below hb3 h12_2.lt
       have h19_3:=h19_2.below hb3 h19_2.lt
       have hcln3:=hcln.below hb3
       have sv3:=sv2.below hb3
       have hM3:=hM2.kd (KeepD.of_below hb3)
       obtain ⟨g20,hg20⟩:∃ g,g=W2.heap.size:=⟨_,rfl⟩
       have e20:gc < g20:=by rw [hg20];exact hcln.lt
       rw [← hg20] at h20 ⊢
       clear hg20 hz3 hb3 h8_2 h12_2 h19_2 sv2 hM2 k2 l2 hcln b19 l19
       refine (having_any (some ⟨q,0,none⟩) C Ns _ s W3 (hM.below l3).mv sv3 (hT.below l3)).mono ?_
       rintro e W4 ⟨r4,rfl,hr4,hb4⟩
       obtain ⟨R,hR⟩:∃ R,R=havN C Ns s:=⟨_,rfl⟩
       have HRL:=Lib.hid (fun y (hy:R.testBit y=true)=>(by rw [hR] at hy;exact havN_lt hlN hy:y < Ns.length))
       have hlm:=lessP_mems C Ns Os s
       rw [← hR] at hr4 hlm
       have HLM:=Lib.hid hlm
       obtain ⟨A4,c4,rfl,_⟩:=id hr4
       have k4:=k3.trans (hb4.mono k3.size)
       have l4:=l3.trans (hb4.mono l3.size)
       have h8_4:=h8_3.below hb4 h8_3.lt
       have h12_4:=h12_3.below hb4 h12_3.lt
       have h19_4:=h19_3.below hb4 h19_3.lt
       have h20_4:=h20.below hb4 h20.lt
       have hcln4:=hcln3.below hb4
       have sv4:=sv3.below hb4
       have hM4:=hM3.kd (KeepD.of_below hb4)
       clear hR hlm hb4 h8_3 h12_3 h19_3 h20 sv3 hM3 k3 l3 hcln3
       go_wp2_with fail
       refine (all_any A4 (nw R) c4 W4).mono ?_
       rintro e w5 ⟨rfl,hw5⟩
       have hY:=hw5▸Blk.new W4 58 #[.slice A4 (nw R) c4]
       have hb5:Below W4.heap.size W4 w5:=by rw [hw5];exact (Below.refl _ _).alloc (Nat.le_refl _) _
       clear hw5
       have k5:=k4.trans (hb5.mono k4.size)
       have l5:=l4.trans (hb5.mono l4.size)
       have h8_5:=h8_4.below hb5 h8_4.lt
       have h12_5:=h12_4.below hb5 h12_4.lt
       have h19_5:=h19_4.below hb5 h19_4.lt
       have h20_5:=h20_4.below hb5 h20_4.lt
       have hcln5:=hcln4.below hb5
       have sv5:=sv4.below hb5
       have sr5:=hr4.below hb5
       have hM5:=hM4.kd (KeepD.of_below hb5)
       have hT5:=hT.below l5
       obtain ⟨gy,hgy⟩:∃ g,g=W4.heap.size:=⟨_,rfl⟩
       rw [← hgy] at hY ⊢
       clear hgy hb5 h8_4 h12_4 h19_4 h20_4 sv4 hr4 hM4 k4 l4 hcln4
       go_wp2_with fail
       refine wp_rangeAll (v:=.slice A4 (nw R) c4) (N:=R) (Bx:=gy) rfl (hY.cell 0) sr5 hT5 rfl
        (fun pre W=>Cln W gc (lessP s Os pre)∧KeepX gc w5 W∧Below w2.heap.size w2 W∧KeepD w5 W) (fun _ _ _=>False)
        ?hI (fun _ _ _ _ _ hs _ _=>hs) ?h0 ?a1 ?assign ?body ?done (fun _ _ _ _ _ h _=>h.elim)
       case assign =>
        intro l x W K hKa
        gi_wp2
        exact hKa
       case hI =>
        rintro s W W' row ⟨h1,h2,h3,h4⟩ hg hrw
        exact ⟨h1.kc (KeepC.of_grown hg hrw),h2.trans (KeepX.grown hg fun k e=>(hrw k e).2),h3.grown hg h3.size fun k' e=>Nat.le_trans k5.size (hrw k' e).1,h4.grown hg hrw⟩
       case h0=>exact ⟨by rw [lessP_nil];exact hcln5,KeepX.refl _ _,k5,KeepD.refl _⟩
       case body =>
        rintro ll pre y W' hy ⟨h1,h2,h3,h4⟩ hlen hkp
        have hxl:y < Os.length:=by rw [HLO.out];exact HRL.out y hy
        obtain ⟨vs6,hrow6,hset6⟩:=h1.row
        obtain ⟨cs6,hB6⟩:=h1.blk
        have hln:=lessP_len s Os pre
        have hv6:y < vs6.length:=by rw [hset6.1,hln];exact hxl
        obtain ⟨v6,hvx6⟩:∃ v,vs6[y]?=some v:=⟨_,List.getElem?_eq_getElem hv6⟩
        have hox:(lessP s Os pre)[y]?=some ((lessP s Os pre).getD y 0):=by rw [List.getD_eq_getElem?_getD,List.getElem?_eq_getElem (by rw [hln];exact hxl)];rfl
        have sv6:=hset6.2 y v6 _ hvx6 hox
        have hsn:=lessP_snoc (s:=s) (pre:=pre) hxl
        generalize (lessP s Os pre).getD y 0=oy at sv6 hsn
        obtain ⟨Av,cv,rfl,_⟩:=id sv6
        obtain ⟨g1,o1,he1,hg1,hcl⟩:=hrow6 (by omega)
        cases he1
        have d1:=hcl y _ hvx6
        rw [Nat.zero_add] at d1
        have h20y:=h20_5.kx h2 (by omega)
        have h19y:=h19_5.kx h2 (by omega)
        obtain ⟨cs5,hB5⟩:=hcln5.blk
        have svy:=sv5.keep (h2.keep hB5 (by decide))
        have b20:=h20y.cell 0
        have b19:=h19y.cell 0
        have HSN:=Lib.hid hsn
        have hd:Below W'.heap.size W' W'.drew:=(Below.refl _ _).drew
        have HMI:=hideC (res3 rfl (minus_any _ _ oy s W'.drew (sv6.below hd) (svy.below hd)))
        clear hsn hox hvx6 hcl hln hv6 hset6 hrow6 h20y h19y
        gi_wp2_with fail
        refine wpIn_spine (fun V=>Below W'.heap.size W' V) [0,1,2,3,4,5,6] [7,8,9] (fun _=>trivial) (by kernel_rfl) (by kernel_rfl) (by kernel_rfl) ?_
        iterate 7 (refine wpE_op (v:=?_) rfl rfl (fun W hW=>?_) ?_;rotate_left;(have z0:=onB hW b20;have z1:=onB hW b19;have z2:=onB hW d1;go_simp;first | done | with_reducible rfl);simp only [pt1,pt3,pt4,pt5])
        refine wpE_nil ⟨fun h=>(by cases h),wpSpI_op rfl hd ?_⟩
        gi_wp2_with (refine ⟨trivial,?_⟩;gi_at_call 83;refine (CallsIn.inRound ll (callsIn_wide.2 HMI.out)).mono ?_;rintro e w6 ⟨A7,n7,c7,rfl,hr7,hb6⟩)
        have hb6':=hd.trans (hb6.mono hd.size)
        have hB7:=hB6.below hb6' hB6.lt
        have f7:=hB7.frozen y
        have l7:=hB7.lt
        have h17:=h1.below hb6'
        have d7:=onB hb6' d1
        refine nxtI_op rfl hb6' ?_
        gi_wp2_with fail
        refine nxtI_op rfl hb6' ?_
        gi_wp2_with fail
        refine nxtI_nil ?_
        gi_wp2_with fail
        have hk8:=(KeepW.of_below hb6').trans (KeepW.setCell (p:=⟨gc,y,none⟩) hB7 (by decide) (.slice A7 n7 c7))
        have hb8:=(hb6'.mono h3.size).setCell (p:=⟨gc,y,none⟩) ecw (.slice A7 n7 c7)
        exact ⟨((KeepsOthers.of_below hb6').trans (KeepsOthers.setCell _ _ _)).from _,KpA.mk_ hk8 hb8 (hT.below hbw2).pos,
         by rw [← HSN.out];exact h17.put hr7,h2.trans ((KeepX.of_below hb6').trans (KeepX.setCell _ ⟨gc,y,none⟩ _)),h3.trans hb8,h4.others ((KeepsOthers.of_below hb6').trans (KeepsOthers.setCell _ _ _))⟩
       case done =>
        rintro D W' hD ⟨h1,h2,h3,h4⟩ hKd
        rw [HLM.out] at h1
        obtain ⟨vs6,hrow6,hset6⟩:=h1.row
        have hM6:=hM5.cons h4 (by have:=k5.size;omega) hD hKd
        have h8_6:=h8_5.kx h2 (by omega)
        have h12_6:=h12_5.kx h2 (by omega)
        have h20_6:=h20_5.kx h2 (by omega)
        have l6:=hbw2.trans (h3.mono hw2)
        have hch6:=hch.below l6
        obtain ⟨g7,o7,rfl,hg7,hc7⟩:=hch6 (by rw [List.length_map,HE1.out];omega)
        have d7:=hc7 k (.int .i64 (m:Int)) (by rw [List.getElem?_map,hcx];rfl)
        have hbc:Below w.heap.size w W':=l6
        have hm1:=HC2.out
        have hm2:=HC1.out
        have HIH:=Lib.hid (fun V (hV:Below W'.heap.size W' V)=>ih m (b-1) (some ⟨gc,0,none⟩) cc vs6 (lessO C Ns Os s) V (by omega) (by omega) (by omega) (by omega) (by rw [lessO_len];exact hcc)
         ⟨(hM.below l6).below hV,h.rows,(h.nodes.below l6).below hV,h.form,hrow6.below hV,hset6.below hV,by rw [lessO_len];exact HLO.out,(hT.below l6).below hV⟩)
        obtain ⟨rr,hrr⟩:∃ r,r=nodeP C Ns P f (m:Int) (b-1) (lessO C Ns Os s):=⟨_,rfl⟩
        rw [lessO_len] at HIH
        rw [← hrr] at HIH HKID
        obtain ⟨r1,r2⟩:=rr
        have hbm:wrap64 (b-1)=b-1:=IntWalk.wrap64_in _ ⟨by omega,by omega⟩
        clear hrr hc7 hM5 h8_5 h12_5 h20_5 h19_5 hcln5 hm1 hm2
        go_wp2_with fail
        refine wp_mix (fun V=>Below W'.heap.size W' V) 16 (by kernel_rfl) (by kernel_rfl) (Below.refl _ _).drew ?_
        have hr:=(Below.refl W'.heap.size W').drew
        obtain ⟨u,hu⟩:∃ V,V=W'.drew:=⟨_,rfl⟩
        rw [← hu] at hr ⊢
        clear hu
        have z3:=h12_6.cell 3
        have z20:=h20_6.cell 0
        (refine m_q 0 (v:=?_) (by kernel_rfl) rfl rfl (fun W hW=>?_) ?_;rotate_left;(have y3:=onB hW z3;have y20:=onB hW z20;have y7:=onB hW d7;go_simp;first | done | with_reducible rfl);simp only [pt1,pt3,pt4,pt5]);(refine m_q 1 (v:=?_) (by kernel_rfl) rfl rfl (fun W hW=>?_) ?_;rotate_left;(have y3:=onB hW z3;have y20:=onB hW z20;have y7:=onB hW d7;go_simp;first | done | with_reducible rfl);simp only [pt1,pt3,pt4,pt5]);(refine m_q 2 (v:=?_) (by kernel_rfl) rfl rfl (fun W hW=>?_) ?_;rotate_left;(have y3:=onB hW z3;have y20:=onB hW z20;have y7:=onB hW d7;go_simp;first | done | with_reducible rfl);simp only [pt1,pt3,pt4,pt5]);(refine m_q 3 (v:=?_) (by kernel_rfl) rfl rfl (fun W hW=>?_) ?_;rotate_left;(have y3:=onB hW z3;have y20:=onB hW z20;have y7:=onB hW d7;go_simp;first | done | with_reducible rfl);simp only [pt1,pt3,pt4,pt5]);(refine m_q 4 (v:=?_) (by kernel_rfl) rfl rfl (fun W hW=>?_) ?_;rotate_left;(have y3:=onB hW z3;have y20:=onB hW z20;have y7:=onB hW d7;go_simp;first | done | with_reducible rfl);simp only [pt1,pt3,pt4,pt5]);(refine m_q 5 (v:=?_) (by kernel_rfl) rfl rfl (fun W hW=>?_) ?_;rotate_left;(have y3:=onB hW z3;have y20:=onB hW z20;have y7:=onB hW d7;go_simp;first | done | with_reducible rfl);simp only [pt1,pt3,pt4,pt5]);(refine m_q 6 (v:=?_) (by kernel_rfl) rfl rfl (fun W hW=>?_) ?_;rotate_left;(have y3:=onB hW z3;have y20:=onB hW z20;have y7:=onB hW d7;go_simp;first | done | with_reducible rfl);simp only [pt1,pt3,pt4,pt5]);(refine m_q 7 (v:=?_) (by kernel_rfl) rfl rfl (fun W hW=>?_) ?_;rotate_left;(have y3:=onB hW z3;have y20:=onB hW z20;have y7:=onB hW d7;go_simp;first | done | with_reducible rfl);simp only [pt1,pt3,pt4,pt5]);(refine m_q 8 (v:=?_) (by kernel_rfl) rfl rfl (fun W hW=>?_) ?_;rotate_left;(have y3:=onB hW z3;have y20:=onB hW z20;have y7:=onB hW d7;go_simp;first | done | with_reducible rfl);simp only [pt1,pt3,pt4,pt5]);(refine m_q 9 (v:=?_) (by kernel_rfl) rfl rfl (fun W hW=>?_) ?_;rotate_left;(have y3:=onB hW z3;have y20:=onB hW z20;have y7:=onB hW d7;go_simp;first | done | with_reducible rfl);simp only [pt1,pt3,pt4,pt5])
        refine m_s1 10 (by kernel_rfl) rfl ?_
        go_wp2_with fail
        refine (HIH.out u hr).mono ?_
        rintro e u2 ⟨rfl,hb⟩
        have hr2:=hr.trans (hb.mono hr.size)
        go_wp2_with fail
        refine m_keep hr2 ?_
        (refine m_q 11 (v:=?_) (by kernel_rfl) rfl rfl (fun W hW=>?_) ?_;rotate_left;(go_simp;first | done | with_reducible rfl);simp only [pt1,pt3,pt4,pt5]);(refine m_q 12 (v:=?_) (by kernel_rfl) rfl rfl (fun W hW=>?_) ?_;rotate_left;(go_simp;first | done | with_reducible rfl);simp only [pt1,pt3,pt4,pt5]);(refine m_q 13 (v:=?_) (by kernel_rfl) rfl rfl (fun W hW=>?_) ?_;rotate_left;(go_simp;first | done | with_reducible rfl);simp only [pt1,pt3,pt4,pt5]);(refine m_q 14 (v:=?_) (by kernel_rfl) rfl rfl (fun W hW=>?_) ?_;rotate_left;(go_simp;first | done | with_reducible rfl);simp only [pt1,pt3,pt4,pt5]);(refine m_q 15 (v:=?_) (by kernel_rfl) rfl rfl (fun W hW=>?_) ?_;rotate_left;(go_simp;first | done | with_reducible rfl);simp only [pt1,pt3,pt4,pt5])
        refine m_end (by kernel_rfl) ?_
        have hbk2:=h3.trans (hr2.mono h3.size)
        have hM7:=hM6.kd (KeepD.of_below hr2)
        clear z3 z20 hr hr2 hb
        by_cases h1r:r1=1
        ·subst h1r
         have HK2:=Lib.hid (HKID.out.trans (if_neg (by simp)))
         go_wp2_with fail
         exact ⟨k+1,rfl,⟨by omega,hM7,hbk2,HK2.out⟩,by omega⟩
        ·have HK2:=Lib.hid (HKID.out.trans (if_pos h1r))
         have HRET:=Lib.hid (HKT.out _ HK2.out)
         have h1b:(r1 != 1)=true:=by rw [bne_iff_ne];exact h1r
         go_wp2_with fail
         refine leave_marks (n₀:=w.heap.size) _ _ hM7 fun W'' hW''=>⟨.tuple #[.int .u8 r1,.int .i64 r2],by simp [results,Tryz.results41],by rw [HRET.out],(hbw2.trans (hbk2.mono hw2)).trans hW''.1⟩
      ·obtain rfl:k=Cs.length:=by omega
       have hz:kidsF G ((Cs.drop Cs.length).zip (x.ch.drop Cs.length))=(1,0):=by rw [List.drop_length];rfl
       have HRET:=Lib.hid (HKT.out _ (hkid.trans hz))
       clear hz hkid
       go_wp2_with fail
       refine leave_marks (n₀:=w.heap.size) _ _ hMk fun W'' hW''=>⟨.tuple #[.int .u8 1,.int .i64 0],by simp [results,Tryz.results41],by rw [HRET.out],hbW.trans hW''.1⟩
end Mix2
end Go.Proofs.YtafpmkdlciioaaaGreatDoor
