import Derived.Test.YtafpmkdlciioaaaGreatDoorPk07
import Derived.Test.YtafpmkdlciioaaaGreatDoorPk06
import Derived.Test.YtafpmkdlciioaaaGreatDoorPk03
set_option maxHeartbeats 8000000
set_option maxRecDepth 100000
namespace Go.Proofs.YtafpmkdlciioaaaGreatDoor
open Go.RowKit
theorem cells_has {C:Nat} {M:List (List Bool)} (hC:C≤4096) {c:Nat×Nat} (h:c∈cellsOf (nsOf C M)):c.1 < M.length∧c.2 < C∧hasR C M c.1 c.2=true:=by
 obtain ⟨h1,h2⟩:=mem_cellsOf.1 h
 rw [nsTo_len] at h1
 rw [nsOf_get h1,testBit_rowN _ _ _ _ hC,hasR_nat] at h2
 simp only [Bool.and_eq_true,decide_eq_true_eq] at h2
 exact ⟨h1,h2.1.2,by rw [hasR_nat];simp [h1,h2.1.2,h2.2]⟩
theorem cov_cols {C:Nat} {Ns:List Nat} (hl:Ns.length≤4096) (hin:rowsIn C Ns) (o:List (Nat×Nat)) (ho:∀ c∈o,c∈cellsOf Ns):Cov C Ns C o:=by
 refine ⟨(List.range C).map fun j=>cloN C Ns (2 ^ j),by simp,fun s hs=>?_,fun c hc=>?_⟩
 ·obtain ⟨j,_,rfl⟩:=List.mem_map.1 hs
  exact clo_clo hl _
 ·obtain ⟨h1,h2⟩:=mem_cellsOf.1 (ho c hc)
  have hjC:c.2 < C:=by
   have:=hin c.1 h1
   rw [← this,Nat.testBit_and,testBit_lowN,Bool.and_eq_true,decide_eq_true_eq] at h2
   exact h2.2
  refine ⟨_,List.mem_map.2 ⟨c.2,List.mem_range.2 hjC,rfl⟩,?_⟩
  unfold inS
  rw [Bool.and_eq_true,hav_clo hl,testBit_havN C Ns hl]
  refine ⟨clo_sup hl hjC (by simp),h1,fun y hy _=>?_⟩
  rw [Nat.testBit_two_pow,decide_eq_true_eq] at hy
  rw [← hy];exact h2
theorem con_len {C:Nat} (Ns:List Nat) (i j:Nat):(conL C Ns i j).length≤2 ^ C:=by
 have hnd:(conL C Ns i j).Nodup:=(conL_lec C Ns i j).imp fun {x y} h e=>by subst e;rw [lecR_irrefl] at h;cases h
 refine Nat.le_trans (List.Nodup.length_le_of_subset (l₂:=List.range (2 ^ C)) hnd fun s hs=>?_) (by simp)
 rw [mem_conL,inC,Bool.and_eq_true,Bool.and_eq_true,decide_eq_true_eq] at hs
 rw [List.mem_range,← hs.1.1]
 exact clo_lt C Ns s
theorem con_lt64 {C:Nat} {Ns:List Nat} {i j s:Nat} (hC:C≤60) (h:s∈conL C Ns i j):s < 2 ^ 64:=by
 rw [mem_conL,inC,Bool.and_eq_true,Bool.and_eq_true,decide_eq_true_eq] at h
 rw [← h.1.1]
 exact Nat.lt_of_lt_of_le (clo_lt C _ s) (Nat.pow_le_pow_right (by omega) (by omega))
theorem cells_len {C:Nat} {Ns:List Nat} (hin:rowsIn C Ns) (hC:C≤12) (hR:Ns.length≤60):(cellsOf Ns).length≤1000:=by
 have key:∀ l:List Nat,(∀ i∈l,i < Ns.length)→(l.flatMap fun i=>(mems (Ns.getD i 0)).map fun j=>(i,j)).length≤l.length*C:=by
  intro l
  induction l with
  | nil=>intro _;simp
  | cons i l ih =>
   intro hl
   have h1:=ih fun k hk=>hl k (by simp [hk])
   have h2:(mems (Ns.getD i 0)).length≤C:=by
    rw [mems_under (n:=C) fun j hj=>?_]
    ·exact Nat.le_trans (List.length_filter_le _ _) (by simp)
    ·have:=hin i (hl i (by simp))
     rw [← this,Nat.testBit_and,testBit_lowN,Bool.and_eq_true,decide_eq_true_eq] at hj
     exact hj.2
   rw [List.flatMap_cons,List.length_append,List.length_map,List.length_cons,Nat.add_mul,Nat.one_mul]
   omega
 have:=key (List.range Ns.length) fun i hi=>List.mem_range.1 hi
 rw [List.length_range] at this
 exact Nat.le_trans this (Nat.le_trans (Nat.mul_le_mul hR hC) (by decide))
namespace Mix2
theorem covers_any (C:Nat) (A:Option Addr) (c:Nat) (M:List (List Bool)) (hC:C≤12) (hR:M.length≤60):∀ (b:Nat) (v:Value) (o:List (Nat×Nat)) (w:World),b≤1000→IsRef w C A M→IsPairs w v (cz o)→(∀ d∈o,d∈cellsOf (nsOf C M)) →
  Calls Tryz.prog 48 #[refV C A M.length c,v,.int .i64 b] w fun e w'=>e=.returned (.bool (covF C (nsOf C M) b o))∧Below w.heap.size w w':=by
 intro b
 induction b with
 | zero =>
  intro v o w hb1 h hp ho
  obtain ⟨B,d,rfl,hrow,hlc,hlm⟩:=hp
  match o,ho,hrow,hlc,hlm with
  | [],_,_,_,_ =>
   go_enter Tryz.func48,Tryz.ntmps48
   go_wp2_with fail
   go_ret
   exact ⟨by simp [covF],(Below.refl _ _).alloc (Nat.le_refl _) _⟩
  | x :: o,_,_,hlc,_ =>
   have hl0:(cz (x :: o)).length=o.length+1:=by simp [cz]
   rw [hl0]
   clear hl0 hlc
   go_enter Tryz.func48,Tryz.ntmps48
   go_wp2_with fail
   go_ret
   exact ⟨by simp [covF],(Below.refl _ _).alloc (Nat.le_refl _) _⟩
 | succ b ih =>
  intro v o w hb1 hI hp ho
  obtain ⟨B,d,rfl,hrow,hlc,hlm⟩:=hp
  match o,ho,hrow,hlc,hlm with
  | [],_,_,_,_ =>
   go_enter Tryz.func48,Tryz.ntmps48
   go_wp2_with fail
   go_ret
   exact ⟨by simp [covF],(Below.refl _ _).alloc (Nat.le_refl _) _⟩
  | x :: o',ho,hrow,hlc,hlm =>
   obtain ⟨o,hoe⟩:∃ o,o=x :: o':=⟨_,rfl⟩
   obtain ⟨hx1,hx2,hx3⟩:=cells_has (by omega) (ho x (by simp))
   have hcr:conR C M x.1 x.2=conL C (nsOf C M) x.1 x.2:=by unfold conR;rw [if_pos hx3,Int.toNat_natCast,Int.toNat_natCast]
   have hcv:covF C (nsOf C M) (b+1) o=(conL C (nsOf C M) x.1 x.2).any fun s=>covF C (nsOf C M) b (lessL C (nsOf C M) o s):=by rw [hoe,covF]
   have hl0:(cz (x :: o')).length=o.length:=by rw [cz_len,hoe]
   have hpos:0 < o.length:=by rw [hoe];simp
   have hget:o[0]?=some x:=by rw [hoe];rfl
   rw [hl0]
   rw [hl0] at hlc hlm
   rw [← hoe] at hrow ho ⊢
   obtain ⟨g1,o1,rfl,hg1,c0,c1⟩:=row_pairs hrow (cz_get hget)
   rw [Nat.zero_mul,Nat.add_zero] at c0 c1
   have hP:IsPairs w (.slice (some ⟨g1,o1,none⟩) o.length d) (cz o):=⟨_,d,by rw [cz_len],hrow,by rw [cz_len];exact hlc,by rw [cz_len];exact hlm⟩
   have hcc:=fun W (hb:Below w.heap.size w W)=>concr_any C A c M x.1 x.2 W (hI.below hb) hC hR
   rw [hcr] at hcc
   have hlen:=con_len (C:=C) (nsOf C M) x.1 x.2
   have h2C:2 ^ C≤4096:=Nat.le_trans (Nat.pow_le_pow_right (by omega) hC) (by decide)
   have h64:∀ s∈conL C (nsOf C M) x.1 x.2,s < 2 ^ 64:=fun s hs=>con_lt64 (by omega) hs
   obtain ⟨L,hL⟩:∃ L,L=conL C (nsOf C M) x.1 x.2:=⟨_,rfl⟩
   rw [← hL] at hcc hcv hlen h64
   have hwo:=fun W u s (hb:Below w.heap.size w W) (hu:IsPairs W u (cz o))=>without_ref C A c M u o s W (hI.below hb) hC hR hu fun d hd=>⟨(cells_has (by omega) (ho d hd)).1,(cells_has (by omega) (ho d hd)).2.1⟩
   have hih:=fun W u s (hb:Below w.heap.size w W) (hu:IsPairs W u (cz (lessL C (nsOf C M) o s)))=>ih u (lessL C (nsOf C M) o s) W (by omega) (hI.below hb) hu fun d hd=>ho d (mem_lessL.1 hd).1
   have hll:=fun s=>Nat.le_trans (lessL_len C (nsOf C M) o s) hlm
   obtain ⟨F,hF⟩:∃ F:Nat→Bool,F=fun s=>covF C (nsOf C M) b (lessL C (nsOf C M) o s):=⟨_,rfl⟩
   have hFs:∀ s,covF C (nsOf C M) b (lessL C (nsOf C M) o s)=F s:=fun s=>by rw [hF]
   have hcv2:covF C (nsOf C M) (b+1) o=L.any F:=by rw [hcv,hF]
   rw [hcv2]
   simp only [hFs] at hih
   obtain ⟨G,hG⟩:∃ G:Nat→List (Nat×Nat),G=fun s=>lessL C (nsOf C M) o s:=⟨_,rfl⟩
   have hGs:∀ s,lessL C (nsOf C M) o s=G s:=fun s=>by rw [hG]
   simp only [hGs] at hih hwo hll
   have HCC:=Lib.hid hcc;have HWO:=Lib.hid hwo;have HIH:=Lib.hid hih;have HLL:=Lib.hid hll
   clear hcc hwo hih hll hcv hcv2 hF hFs hG hGs hoe hget hcr hL hrow ih hl0
   go_enter Tryz.func48,Tryz.ntmps48
   have hln:¬ (o.length:Int)=0:=by omega
   have hlnb:((o.length:Int) == 0)=false:=by rw [beq_eq_false_iff_ne];omega
   have hbn:¬ (((b+1:Nat):Int))=0:=by omega
   have hbnb:(((b+1:Nat):Int) == 0)=false:=by rw [beq_eq_false_iff_ne];omega
   have hbw:=Below.refl w.heap.size w
   go_wp2_with fail
   refine abs1 fun w1 hX hb hz=>?_
   clear hz
   replace hbw:=hbw.trans (hb.mono hbw.size);replace hP:=hP.below hb;replace c0:=onB hb c0;replace c1:=onB hb c1
   clear hb
   have d0:=c0;have d1:=c1
   go_wp2_with fail
   refine wp_mix (fun V=>Below w1.heap.size w1 V) 12 (by kernel_rfl) (by kernel_rfl) (Below.refl _ _).drew ?_
   have hr:Below w1.heap.size w1 w1.drew:=(Below.refl _ _).drew
   obtain ⟨u1,hw⟩:∃ V,V=w1.drew:=⟨_,rfl⟩
   rw [← hw] at hr ⊢;clear hw
   have hb:=hr
   have x0:=hX.cell 0
   have x1:=hX.cell 1
   replace hbw:=hbw.trans (hb.mono hbw.size);replace hP:=hP.below hb;replace c0:=onB hb c0;replace c1:=onB hb c1;replace hX:=hX.below hb hX.lt
   clear hb
   (refine m_q 0 (v:=?_) (by kernel_rfl) rfl rfl (fun W hW=>?_) ?_;rotate_left;(have zx0:=onB hW x0;have zx1:=onB hW x1;have z0:=onB hW d0;have z1:=onB hW d1;go_simp;first | done | with_reducible rfl);simp only [pt1,pt3,pt4,pt5]);(refine m_q 1 (v:=?_) (by kernel_rfl) rfl rfl (fun W hW=>?_) ?_;rotate_left;(have zx0:=onB hW x0;have zx1:=onB hW x1;have z0:=onB hW d0;have z1:=onB hW d1;go_simp;first | done | with_reducible rfl);simp only [pt1,pt3,pt4,pt5]);(refine m_q 2 (v:=?_) (by kernel_rfl) rfl rfl (fun W hW=>?_) ?_;rotate_left;(have zx0:=onB hW x0;have zx1:=onB hW x1;have z0:=onB hW d0;have z1:=onB hW d1;go_simp;first | done | with_reducible rfl);simp only [pt1,pt3,pt4,pt5]);(refine m_q 3 (v:=?_) (by kernel_rfl) rfl rfl (fun W hW=>?_) ?_;rotate_left;(have zx0:=onB hW x0;have zx1:=onB hW x1;have z0:=onB hW d0;have z1:=onB hW d1;go_simp;first | done | with_reducible rfl);simp only [pt1,pt3,pt4,pt5]);(refine m_q 4 (v:=?_) (by kernel_rfl) rfl rfl (fun W hW=>?_) ?_;rotate_left;(have zx0:=onB hW x0;have zx1:=onB hW x1;have z0:=onB hW d0;have z1:=onB hW d1;go_simp;first | done | with_reducible rfl);simp only [pt1,pt3,pt4,pt5]);(refine m_q 5 (v:=?_) (by kernel_rfl) rfl rfl (fun W hW=>?_) ?_;rotate_left;(have zx0:=onB hW x0;have zx1:=onB hW x1;have z0:=onB hW d0;have z1:=onB hW d1;go_simp;first | done | with_reducible rfl);simp only [pt1,pt3,pt4,pt5]);(refine m_q 6 (v:=?_) (by kernel_rfl) rfl rfl (fun W hW=>?_) ?_;rotate_left;(have zx0:=onB hW x0;have zx1:=onB hW x1;have z0:=onB hW d0;have z1:=onB hW d1;go_simp;first | done | with_reducible rfl);simp only [pt1,pt3,pt4,pt5]);(refine m_q 7 (v:=?_) (by kernel_rfl) rfl rfl (fun W hW=>?_) ?_;rotate_left;(have zx0:=onB hW x0;have zx1:=onB hW x1;have z0:=onB hW d0;have z1:=onB hW d1;go_simp;first | done | with_reducible rfl);simp only [pt1,pt3,pt4,pt5]);(refine m_q 8 (v:=?_) (by kernel_rfl) rfl rfl (fun W hW=>?_) ?_;rotate_left;(have zx0:=onB hW x0;have zx1:=onB hW x1;have z0:=onB hW d0;have z1:=onB hW d1;go_simp;first | done | with_reducible rfl);simp only [pt1,pt3,pt4,pt5])
   (refine m_q 11 (v:=?_) (by kernel_rfl) rfl rfl (fun W hW=>?_) ?_;rotate_left;(go_simp;first | done | with_reducible rfl);simp only [pt1,pt3,pt4,pt5])
   refine m_s1 9 (by kernel_rfl) rfl ?_
   go_wp2_with fail
   refine (HCC.out _ hbw).mono ?_
   rintro e u2 ⟨vL,rfl,hoL,hb⟩
   replace hbw:=hbw.trans (hb.mono hbw.size);replace hP:=hP.below hb;replace c0:=onB hb c0;replace c1:=onB hb c1;replace hX:=hX.below hb hX.lt;replace hr:=hr.trans (hb.mono hr.size)
   clear hb
   go_wp2_with fail
   refine m_keep hr ?_
   obtain ⟨AL,cL,rfl,hLc,-,hLr,-⟩:=row_of_own hoL
   clear hoL
   (refine m_q 10 (v:=?_) (by kernel_rfl) rfl rfl (fun W hW=>?_) ?_;rotate_left;(go_simp;first | done | with_reducible rfl);simp only [pt1,pt3,pt4,pt5])
   refine m_end (by kernel_rfl) ?_
   clear x0 x1
   clear c0 c1 d0 d1 hln hlnb hbn hbnb
   go_wp2_with fail
   refine wp_loopF (β:=Nat) (fun k f=>#[f 0,.slice (some ⟨g1,o1,none⟩) o.length d,.int .i64 ((b+1:Nat):Int),.pointer (some ⟨w.heap.size,0,none⟩),f 4,f 5,.bool false,f 7,f 8,f 9,f 10,f 11,f 12,f 13,f 14,f 15,f 16,f 17,f 18,f 19,f 20,f 21,f 22,.slice AL L.length cL,.int .i64 (L.length:Int),.int .i64 (k:Int),f 26,f 27,f 28,f 29,f 30,f 31,f 32,f 33,f 34,f 35,f 36,f 37])
    (fun k ds V=>k≤L.length∧ds=[]∧Below u2.heap.size u2 V∧(L.take k).any F=false) (fun k=>L.length-k) 0 rfl ⟨Nat.zero_le _,rfl,Below.refl _ _,by simp⟩ ?_
   rintro k f ds v9 ⟨hk,rfl,hv,hno⟩
   dsimp only at hk ⊢
   have HN:=Lib.hid hno
   clear hno
   have hb:=hv
   replace hbw:=hbw.trans (hb.mono hbw.size);replace hP:=hP.below hb;replace hX:=hX.below hb hX.lt;replace hLr:=hLr.below hb
   clear hb
   by_cases hlt:k < L.length
   ·obtain ⟨s,hsx⟩:∃ s,L[k]?=some s:=⟨_,List.getElem?_eq_getElem hlt⟩
    obtain ⟨g2,o2,rfl,hg2,hc2⟩:=hLr (by rw [List.length_map];omega)
    have d2:=hc2 k (.int .u64 (s:Int)) (by rw [List.getElem?_map,hsx];rfl)
    have htk:L.take (k+1)=L.take k ++ [s]:=by rw [List.take_add_one,hsx];rfl
    have HTK:=Lib.hid htk;have HMS:=Lib.hid (List.mem_of_getElem? hsx)
    have hb1m:wrap64 (((b+1:Nat):Int)-1)=(b:Int):=by rw [IntWalk.wrap64_in _ ⟨by omega,by omega⟩];omega
    have hb1i:IntKind.i64.wrap (((b+1:Nat):Int)-1)=(b:Int):=by rw [i64w ⟨by omega,by omega⟩];omega
    clear hc2 hsx htk
    go_wp2_with fail
    refine wp_mix (fun V=>Below v9.heap.size v9 V) 8 (by kernel_rfl) (by kernel_rfl) (Below.refl _ _).drew ?_
    have hr:Below v9.heap.size v9 v9.drew:=(Below.refl _ _).drew
    obtain ⟨u3,hw⟩:∃ V,V=v9.drew:=⟨_,rfl⟩
    rw [← hw] at hr ⊢;clear hw
    have hb:=hr
    have x0:=hX.cell 0
    have x1:=hX.cell 1
    replace hbw:=hbw.trans (hb.mono hbw.size);replace hP:=hP.below hb;replace hX:=hX.below hb hX.lt;replace hLr:=hLr.below hb;replace hv:=hv.trans (hb.mono hv.size)
    clear hb
    (refine m_q 0 (v:=?_) (by kernel_rfl) rfl rfl (fun W hW=>?_) ?_;rotate_left;(have zx0:=onB hW x0;have zx1:=onB hW x1;go_simp;first | done | with_reducible rfl);simp only [pt1,pt3,pt4,pt5]);(refine m_q 1 (v:=?_) (by kernel_rfl) rfl rfl (fun W hW=>?_) ?_;rotate_left;(have zx0:=onB hW x0;have zx1:=onB hW x1;go_simp;first | done | with_reducible rfl);simp only [pt1,pt3,pt4,pt5]);(refine m_q 2 (v:=?_) (by kernel_rfl) rfl rfl (fun W hW=>?_) ?_;rotate_left;(have zx0:=onB hW x0;have zx1:=onB hW x1;go_simp;first | done | with_reducible rfl);simp only [pt1,pt3,pt4,pt5]);(refine m_q 3 (v:=?_) (by kernel_rfl) rfl rfl (fun W hW=>?_) ?_;rotate_left;(have zx0:=onB hW x0;have zx1:=onB hW x1;go_simp;first | done | with_reducible rfl);simp only [pt1,pt3,pt4,pt5])
    clear d2
    (refine m_q 5 (v:=?_) (by kernel_rfl) rfl rfl (fun W hW=>?_) ?_;rotate_left;(go_simp;first | done | with_reducible rfl);simp only [pt1,pt3,pt4,pt5]);(refine m_q 6 (v:=?_) (by kernel_rfl) rfl rfl (fun W hW=>?_) ?_;rotate_left;(go_simp;first | done | with_reducible rfl);simp only [pt1,pt3,pt4,pt5])
    refine m_s1 4 (by kernel_rfl) rfl ?_
    go_wp2_with fail
    refine (HWO.out _ _ s hbw hP).mono ?_
    rintro e u4 ⟨u5,rfl,hu5,hb⟩
    replace hbw:=hbw.trans (hb.mono hbw.size);replace hP:=hP.below hb;replace hX:=hX.below hb hX.lt;replace hLr:=hLr.below hb;replace hv:=hv.trans (hb.mono hv.size);replace hr:=hr.trans (hb.mono hr.size)
    clear hb
    go_wp2_with fail
    refine m_keep hr ?_
    have hp5:=hu5.pairs (by rw [cz_len];exact HLL.out s)
    clear hu5
    refine m_s1 7 (by kernel_rfl) rfl ?_
    go_wp2_with fail
    refine (HIH.out _ _ s hbw hp5).mono ?_
    rintro e u5 ⟨rfl,hb⟩
    replace hbw:=hbw.trans (hb.mono hbw.size);replace hP:=hP.below hb;replace hX:=hX.below hb hX.lt;replace hLr:=hLr.below hb;replace hv:=hv.trans (hb.mono hv.size);replace hr:=hr.trans (hb.mono hr.size);replace hp5:=hp5.below hb
    clear hb
    go_wp2_with fail
    refine m_keep hr ?_
    refine m_end (by kernel_rfl) ?_
    clear x0 x1
    obtain ⟨t,ht⟩:∃ t,t=F s:=⟨_,rfl⟩
    rw [← ht]
    cases t with
    | true =>
     have hy:L.any F=true:=List.any_eq_true.2 ⟨s,HMS.out,ht.symm⟩
     have HY:=Lib.hid hy
     clear hy ht
     go_wp2_with fail
     go_ret
     exact ⟨by rw [HY.out];rfl,hbw⟩
    | false =>
     have hn:(L.take (k+1)).any F=false:=by rw [HTK.out,List.any_append,HN.out];simp [← ht]
     have HN2:=Lib.hid hn
     clear hn ht
     go_wp2_with fail
     exact ⟨k+1,rfl,⟨by omega,by first | rfl | trivial,hv,HN2.out⟩,by omega⟩
   ·obtain rfl:k=L.length:=by omega
    have hn:=HN.out
    rw [List.take_length] at hn
    have HY:=Lib.hid hn
    clear hn
    go_wp2_with fail
    go_ret
    exact ⟨by rw [HY.out];rfl,hbw⟩
theorem leastr_any (C:Nat) (A:Option Addr) (c:Nat) (M:List (List Bool)) (w:World) (hC:C≤12) (hR:M.length≤60) (hI:IsRef w C A M) :
  Calls Tryz.prog 13 #[refV C A M.length c] w fun e w'=>∃ b:Nat,e=.returned (.int .i64 b)∧covF C (nsOf C M) b (cellsOf (nsOf C M))=true∧(∀ b',b' < b→covF C (nsOf C M) b' (cellsOf (nsOf C M))=false)∧b≤C∧Below w.heap.size w w':=by
 have hcols:covF C (nsOf C M) C (cellsOf (nsOf C M))=true:=(covF_iff _ _ _ _).2 (cov_cols (by rw [nsTo_len];omega) (rowsIn_nsOf C M (by omega)) _ fun _ h=>h)
 have hlen:(cellsOf (nsOf C M)).length≤1000:=by
  exact cells_len (C:=C) (rowsIn_nsOf C M (by omega)) hC (by rw [nsTo_len];exact hR)
 have hon:=fun W (hb:Below w.heap.size w W)=>ones_ref C A c M W (hI.below hb) hC hR
 have hcv:=fun W u (b:Nat) (h1:b≤1000) (hb:Below w.heap.size w W) (hu:IsPairs W u (cz (cellsOf (nsOf C M))))=>covers_any C A c M hC hR b u _ W h1 (hI.below hb) hu fun _ h=>h
 obtain ⟨O,hO⟩:∃ O,O=cellsOf (nsOf C M):=⟨_,rfl⟩
 rw [← hO] at hon hcv hcols hlen ⊢
 obtain ⟨F,hF⟩:∃ F:Nat→Bool,F=fun b=>covF C (nsOf C M) b O:=⟨_,rfl⟩
 have hFs:∀ b,covF C (nsOf C M) b O=F b:=fun b=>by rw [hF]
 simp only [hFs] at hcv hcols ⊢
 have HON:=Lib.hid hon;have HCV:=Lib.hid hcv;have HCO:=Lib.hid hcols;have HLE:=Lib.hid hlen
 clear hon hcv hcols hlen hO hF hFs
 go_enter Tryz.func13,Tryz.ntmps13
 go_wp2_with fail
 refine abs1 fun w1 hX1 hb1 hz=>?_
 clear hz
 refine wp_loopF (β:=Nat) (fun b f=>#[f 0,.pointer (some ⟨w.heap.size,0,none⟩),.int .i64 0,.int .i64 (b:Int),f 4,f 5,f 6,f 7,f 8,f 9,f 10,f 11,f 12])
  (fun b ds V=>b≤C∧ds=[]∧Below w1.heap.size w1 V∧∀ b',b' < b→F b'=false) (fun b=>C+1-b) 0 rfl ⟨Nat.zero_le _,rfl,Below.refl _ _,fun b' h=>by omega⟩ ?_
 rintro b f ds v9 ⟨hbC,rfl,hv,hno⟩
 dsimp only at hbC ⊢
 have HN:=Lib.hid hno
 clear hno
 have hbw:=hb1.trans (hv.mono hb1.size)
 have hX:=hX1.below hv hX1.lt
 go_wp2_with fail
 refine wp_mix (fun V=>Below v9.heap.size v9 V) 6 (by kernel_rfl) (by kernel_rfl) (Below.refl _ _).drew ?_
 have hr:Below v9.heap.size v9 v9.drew:=(Below.refl _ _).drew
 obtain ⟨u1,hw⟩:∃ V,V=v9.drew:=⟨_,rfl⟩
 rw [← hw] at hr ⊢;clear hw
 have hb:=hr
 have x0:=hX.cell 0
 have x1:=hX.cell 1
 replace hbw:=hbw.trans (hb.mono hbw.size);replace hv:=hv.trans (hb.mono hv.size);replace hX:=hX.below hb hX.lt
 clear hb
 (refine m_q 0 (v:=?_) (by kernel_rfl) rfl rfl (fun W hW=>?_) ?_;rotate_left;(have zx0:=onB hW x0;have zx1:=onB hW x1;go_simp;first | done | with_reducible rfl);simp only [pt1,pt3,pt4,pt5]);(refine m_q 1 (v:=?_) (by kernel_rfl) rfl rfl (fun W hW=>?_) ?_;rotate_left;(have zx0:=onB hW x0;have zx1:=onB hW x1;go_simp;first | done | with_reducible rfl);simp only [pt1,pt3,pt4,pt5]);(refine m_q 3 (v:=?_) (by kernel_rfl) rfl rfl (fun W hW=>?_) ?_;rotate_left;(have zx0:=onB hW x0;have zx1:=onB hW x1;go_simp;first | done | with_reducible rfl);simp only [pt1,pt3,pt4,pt5])
 refine m_s1 2 (by kernel_rfl) rfl ?_
 go_wp2_with fail
 refine (HON.out _ hbw).mono ?_
 rintro e u2 ⟨u5,rfl,hu5,hb⟩
 replace hbw:=hbw.trans (hb.mono hbw.size);replace hv:=hv.trans (hb.mono hv.size);replace hX:=hX.below hb hX.lt;replace hr:=hr.trans (hb.mono hr.size)
 clear hb
 go_wp2_with fail
 refine m_keep hr ?_
 have hp5:=hu5.pairs (by rw [cz_len];have:=HLE.out;omega)
 clear hu5
 refine m_s1 4 (by kernel_rfl) rfl ?_
 go_wp2_with fail
 refine (HCV.out _ _ b (by omega) hbw hp5).mono ?_
 rintro e u3 ⟨rfl,hb⟩
 replace hbw:=hbw.trans (hb.mono hbw.size);replace hv:=hv.trans (hb.mono hv.size);replace hX:=hX.below hb hX.lt;replace hr:=hr.trans (hb.mono hr.size);replace hp5:=hp5.below hb
 clear hb
 go_wp2_with fail
 refine m_keep hr ?_
 (refine m_q 5 (v:=?_) (by kernel_rfl) rfl rfl (fun W hW=>?_) ?_;rotate_left;(go_simp;first | done | with_reducible rfl);simp only [pt1,pt3,pt4,pt5])
 refine m_end (by kernel_rfl) ?_
 clear x0 x1
 obtain ⟨t,ht⟩:∃ t,t=F b:=⟨_,rfl⟩
 rw [← ht]
 cases t with
 | true =>
  have HT:=Lib.hid ht.symm
  clear ht
  go_wp2_with fail
  go_ret
  exact ⟨b,rfl,HT.out,HN.out,hbC,hbw⟩
 | false =>
  have hlt:b < C:=by
   rcases Nat.lt_or_ge b C with h | h
   ·exact h
   ·obtain rfl:b=C:=by omega
    rw [HCO.out] at ht;cases ht
  have hn:∀ b',b' < b+1→F b'=false:=fun b' hb'=>by
   by_cases e:b'=b
   ·subst e;exact ht.symm
   ·exact HN.out b' (by omega)
  have HN2:=Lib.hid hn
  clear hn ht
  go_wp2_with fail
  exact ⟨b+1,rfl,⟨by omega,by first | rfl | trivial,hv,HN2.out⟩,by omega⟩
end Mix2
def NodeAt (w:World) (vs:List Value) (x:Nd):Prop:=∃ (A1:Option Addr) (c1:Nat) (A2:Option Addr) (c2:Nat),vs=[.int .u8 x.kind,.int .i64 x.row,.int .i64 x.col,.slice A1 x.ch.length c1,.slice A2 x.cells.length c2] ∧
 Row w A1 (x.ch.map (.int .i64))∧Row w A2 (cellsP x.cells)∧x.cells.length≤c2∧x.cells.length≤1000000∧x.ch.length≤1000000∧0≤x.kind∧x.kind≤255
theorem NodeAt.below {w w':World} {vs:List Value} {x:Nd} (h:NodeAt w vs x) (hb:Below w.heap.size w w'):NodeAt w' vs x:=by
 obtain ⟨A1,c1,A2,c2,h1,h2,h3,h4⟩:=h
 exact ⟨A1,c1,A2,c2,h1,h2.below hb,h3.below hb,h4⟩
theorem NodeAt.len {w:World} {vs:List Value} {x:Nd} (h:NodeAt w vs x):vs.length=5:=by
 obtain ⟨A1,c1,A2,c2,rfl,_⟩:=h;rfl
def IsNodes (w:World) (A:Option Addr) (P:List Nd):Prop:=∃ vss:List (List Value),vss.length=P.length∧(∀ (k:Nat) x,P[k]?=some x→∃ vs,vss[k]?=some vs∧NodeAt w vs x)∧Row w A vss.flatten
theorem IsNodes.below {w w':World} {A:Option Addr} {P:List Nd} (h:IsNodes w A P) (hb:Below w.heap.size w w'):IsNodes w' A P:=by
 obtain ⟨vss,h1,h2,h3⟩:=h
 exact ⟨vss,h1,fun k x hx=>by obtain ⟨vs,a,b⟩:=h2 k x hx;exact ⟨vs,a,b.below hb⟩,h3.below hb⟩
theorem flatten5:∀ (vss:List (List Value)),(∀ vs∈vss,vs.length=5)→∀ (k r:Nat) (vs:List Value),vss[k]?=some vs→r < 5→vss.flatten[k*5+r]?=vs[r]?
 | [],_,_,_,_,h,_=>by simp at h
 | a :: l,h5,0,r,vs,h,hr=>by
  obtain rfl:a=vs:=by simpa using h
  have:=h5 a (by simp)
  rw [List.flatten_cons,Nat.zero_mul,Nat.zero_add,List.getElem?_append_left (by omega)]
 | a :: l,h5,k+1,r,vs,h,hr=>by
  have ha:=h5 a (by simp)
  rw [List.flatten_cons,List.getElem?_append_right (by omega),ha,show (k+1)*5+r-5=k*5+r by omega]
  exact flatten5 l (fun x hx=>h5 x (by simp [hx])) k r vs (by simpa using h) hr
theorem nodes_at {w:World} {A:Option Addr} {P:List Nd} (h:IsNodes w A P) {k:Nat} {x:Nd} (hk:P[k]?=some x) :
  ∃ (g off:Nat) (A1:Option Addr) (c1:Nat) (A2:Option Addr) (c2:Nat),A=some ⟨g,off,none⟩∧g < w.heap.size∧w.cell? ⟨g,off+k*5,none⟩=some (.int .u8 x.kind)∧w.cell? ⟨g,off+k*5+1,none⟩=some (.int .i64 x.row)∧w.cell? ⟨g,off+k*5+2,none⟩=some (.int .i64 x.col) ∧
   w.cell? ⟨g,off+k*5+3,none⟩=some (.slice A1 x.ch.length c1)∧w.cell? ⟨g,off+k*5+4,none⟩=some (.slice A2 x.cells.length c2) ∧
   Row w A1 (x.ch.map (.int .i64))∧IsPairs w (.slice A2 x.cells.length c2) x.cells∧x.ch.length≤1000000∧0≤x.kind∧x.kind≤255:=by
 obtain ⟨vss,h1,h2,h3⟩:=h
 obtain ⟨vs,hv,A1,c1,A2,c2,rfl,r1,r2,r3,r4,r5,r6,r7⟩:=h2 k x hk
 have h5:∀ vs∈vss,vs.length=5:=fun vs hvs=>by
  obtain ⟨i,hi,e⟩:=List.getElem_of_mem hvs
  obtain ⟨vs',e',hn⟩:=h2 i _ (List.getElem?_eq_getElem (by omega))
  rw [List.getElem?_eq_getElem hi,Option.some.injEq] at e'
  rw [← e,e'];exact hn.len
 have hkl:k < vss.length:=(List.getElem?_eq_some_iff.1 hv).1
 have hne:0 < vss.flatten.length:=by
  have hz:vss.flatten[k*5+0]?=some (.int .u8 x.kind):=flatten5 vss h5 k 0 _ hv (by omega)
  have:=(List.getElem?_eq_some_iff.1 hz).1
  omega
 obtain ⟨g,off,rfl,hg,hc⟩:=h3 hne
 have hcell:∀ r u,r < 5→([.int .u8 x.kind,.int .i64 x.row,.int .i64 x.col,.slice A1 x.ch.length c1,.slice A2 x.cells.length c2]:List Value)[r]?=some u→w.cell? ⟨g,off+(k*5+r),none⟩=some u:=fun r u hr hu =>
  hc _ _ ((flatten5 vss h5 k r _ hv hr).trans hu)
 exact ⟨g,off,A1,c1,A2,c2,rfl,hg,hcell 0 _ (by omega) rfl,hcell 1 _ (by omega) rfl,hcell 2 _ (by omega) rfl,hcell 3 _ (by omega) rfl,hcell 4 _ (by omega) rfl,r1,⟨A2,c2,rfl,r2,r3,r4⟩,r5,r6,r7⟩
def earl (P:List Nd) (n:Nat):List Int:=(P.take n).flatMap Nd.ch
theorem earl_succ {P:List Nd} {n:Nat} {x:Nd} (h:P[n]?=some x):earl P (n+1)=earl P n ++ x.ch:=by
 unfold earl;rw [List.take_add_one,h];simp
def badC (P:List Nd) (n:Nat) (E:List Int) (c:Int):Bool:=decide (c≤n)||decide ((P.length:Int)≤c)||decide (c∈E)
def badH (P:List Nd) (n:Nat) (x:Nd):Bool:=decide (x.kind < 1)||decide (3 < x.kind)||(decide (x.kind≠1)&&decide (0 < x.ch.length))||(decide (0 < n)&&!decide ((n:Int)∈earl P n))
def badN (P:List Nd) (n:Nat):Bool:=badH P n (P.getD n default)||(List.range (P.getD n default).ch.length).any fun i=>badC P n (earl P n ++ (P.getD n default).ch.take i) ((P.getD n default).ch.getD i 0)
def flagsV (L:Nat) (E:List Int):Array Value:=((List.range L).map fun c:Nat=>Value.bool (decide ((c:Int)∈E))).toArray
theorem flagsV_get {L c:Nat} (h:c < L) (E:List Int):(flagsV L E)[c]?=some (.bool (decide ((c:Int)∈E))):=by
 simp [flagsV,h]
theorem flagsV_zero (L:Nat):zeros (.bool false) L=flagsV L []:=by
 rw [zeros_bools];unfold flagsV;simp
theorem flagsV_set (L c:Nat) (E:List Int):(flagsV L E).setIfInBounds c (.bool true)=flagsV L (E ++ [(c:Int)]):=by
 apply Array.ext_getElem?
 intro i
 rw [Array.getElem?_setIfInBounds]
 by_cases hi:i < L
 ·rw [flagsV_get hi,flagsV_get hi]
  by_cases e:c=i
  ·subst e;simp [flagsV,hi]
  ·rw [if_neg e]
   have:¬ (i:Int)=(c:Int):=fun h=>e (by omega)
   simp [this]
 ·have h1:∀ E',(flagsV L E')[i]?=none:=fun E'=>by rw [Array.getElem?_eq_none];simp [flagsV];omega
  rw [h1,h1]
  split
  ·rw [if_neg (by simp [flagsV];omega)]
  ·rfl
theorem badH_parts {P:List Nd} {n:Nat} {x:Nd} (h:badH P n x=false):1≤x.kind∧x.kind≤3∧(x.kind≠1→x.ch.length=0)∧(0 < n→(n:Int)∈earl P n):=by
 unfold badH at h
 simp only [Bool.or_eq_false_iff,Bool.and_eq_false_imp,decide_eq_true_eq,decide_eq_false_iff_not,Bool.not_eq_false'] at h
 obtain ⟨⟨⟨h1,h2⟩,h3⟩,h4⟩:=h
 exact ⟨by omega,by omega,fun hk=>by have:=h3 hk;omega,fun hn=>h4 hn⟩
theorem form_any (A:Option Addr) (c0:Nat) (P:List Nd) (w:World) (h:IsNodes w A P) (hP:P.length≤5000) :
  Calls Tryz.prog 39 #[.slice A P.length c0] w fun e w'=>∃ r:Int,e=.returned (.int .i64 r)∧((r=-1∧∀ n,n < P.length→badN P n=false)∨∃ n:Nat,n < P.length∧r=n∧badN P n=true∧∀ m,m < n→badN P m=false)∧Below w.heap.size w w':=by
 obtain ⟨i0,hi0,hz0,hz1,hz2⟩:=info_parts info_bools
 have hmk:=fun W=>make_run (P:=Tryz.prog) 77 4 _ 1 Tryz.underlying77 info_bool rfl P.length (by omega) (by omega) W
 go_enter Tryz.func39,Tryz.ntmps39
 go_wp2_with fail
 rw [flagsV_zero]
 refine abs1 fun W0 hQ hb0 hz=>?_
 obtain ⟨q,hq⟩:∃ q,q=w.heap.size:=⟨_,rfl⟩
 have hqw:w.heap.size≤q:=by omega
 rw [← hq] at hQ ⊢
 clear hq hz hmk
 refine wp_loopF (β:=Nat) (fun n f=>#[.slice A P.length c0,f 1,.int .i64 0,.slice (some ⟨q,0,none⟩) P.length P.length,f 4,f 5,f 6,f 7,f 8,f 9,f 10,.slice A P.length c0,.int .i64 (P.length:Int),.int .i64 (n:Int),f 14,f 15,f 16,f 17,f 18,f 19,f 20,f 21,f 22,f 23,f 24,f 25,f 26,f 27,f 28,f 29,f 30,f 31,f 32,f 33,f 34,f 35,f 36,f 37,f 38,f 39,f 40,f 41,f 42,f 43,f 44,f 45,f 46,f 47,f 48,f 49,f 50,f 51,f 52,f 53,f 54,f 55,f 56,f 57,f 58,f 59,f 60,f 61,f 62,f 63,f 64,f 65,f 66,f 67,f 68,f 69,f 70,f 71,f 72,f 73,f 74,f 75,f 76])
  (fun n ds W=>n≤P.length∧ds=[]∧Below w.heap.size w W∧Blk W q 4 (flagsV P.length (earl P n))∧∀ m,m < n→badN P m=false) (fun n=>P.length-n) 0 rfl
  ⟨Nat.zero_le _,rfl,hb0,hQ,fun m hm=>by omega⟩ ?_
 rintro n f ds W ⟨hn,rfl,hb,hQn,hgood⟩
 dsimp only at hn ⊢
 have HG:=Lib.hid hgood
 clear hgood
 by_cases hlt:n < P.length
 ·obtain ⟨x,hx⟩:∃ x,P[n]?=some x:=⟨_,List.getElem?_eq_getElem hlt⟩
  have hxd:P.getD n default=x:=by rw [List.getD_eq_getElem?_getD,hx];rfl
  obtain ⟨g,off,A1,c1,A2,c2,rfl,hg,n0,n1,n2,n3,n4,hch,hps,hchl,hk0,hk255⟩:=nodes_at h hx
  have m0:=onB hb n0;have m1:=onB hb n1;have m2:=onB hb n2;have m3:=onB hb n3;have m4:=onB hb n4
  have hgW:g < W.heap.size:=Nat.lt_of_lt_of_le hg hb.size
  have fq:=(hQn.cell n).trans (flagsV_get hlt _)
  have lq:=hQn.lt
  have hbad:badN P n=(badH P n x||(List.range x.ch.length).any fun i=>badC P n (earl P n ++ x.ch.take i) (x.ch.getD i 0)):=by unfold badN;rw [hxd]
  have HB:=Lib.hid hbad
  have hes:=earl_succ hx
  have HES:=Lib.hid hes
  clear hbad hes hxd
  have HX:=Lib.hid hx
  clear hx
  obtain ⟨kd,hkd⟩:∃ k:Int,k=x.kind:=⟨_,rfl⟩
  have hbh:badH P n x=(decide (kd < 1)||decide (3 < kd)||(decide (kd≠1)&&decide (0 < x.ch.length))||(decide (0 < n)&&!decide ((n:Int)∈earl P n))):=by unfold badH;rw [hkd]
  rw [← hkd] at m0
  clear n0 n1 n2 n3 n4
  have HBH:=Lib.hid hbh
  clear hkd hbh hk0 hk255
  obtain ⟨cl,hcl⟩:∃ b,b=decide ((n:Int)∈earl P n):=⟨_,rfl⟩
  rw [← hcl] at fq
  have HCL:=Lib.hid hcl
  clear hcl
  by_cases k1:kd < 1
  ·have hh:badN P n=true:=by rw [HB.out,HBH.out];first | (simp;done) | (simp;omega)
   have HH:=Lib.hid hh
   clear hh
   go_wp2_with fail
   go_ret
   exact ⟨(n:Int),rfl,Or.inr ⟨n,hlt,rfl,HH.out,HG.out⟩,hb.alloc hb.size _⟩
  by_cases k3:3 < kd
  ·have hh:badN P n=true:=by rw [HB.out,HBH.out];first | (simp;done) | (simp;omega)
   have HH:=Lib.hid hh
   clear hh
   go_wp2_with fail
   go_ret
   exact ⟨(n:Int),rfl,Or.inr ⟨n,hlt,rfl,HH.out,HG.out⟩,hb.alloc hb.size _⟩
  by_cases ke:kd=1
  ·subst ke
   rcases Nat.eq_zero_or_pos n with hn0 | hn0
   ·subst hn0
    simp only [Nat.zero_mul,Nat.add_zero] at m0 m1 m2 m3 m4
    have hhd:badH P (0:Nat) x=false:=by
     have e3:(decide ((1:Int)≠1)&&decide (0 < x.ch.length))=false:=by simp
     have e4:(decide (0 < (0:Nat))&&!cl)=false:=by simp
     rw [HBH.out,← HCL.out,decide_eq_false k1,decide_eq_false k3,e3,e4];rfl
    have HHD:=Lib.hid hhd
    clear hhd
    go_wp2_with fail
    refine abs1 fun W1 hX1 hb1 hz1=>?_
    have hbW:=hb.trans (hb1.mono hb.size)
    have hQ1:=hQn.below hb1 hQn.lt
    clear hz1
    refine wp_loopF (β:=Nat) (fun i f=>#[.slice (some ⟨g,off,none⟩) P.length c0,f 1,.int .i64 0,.slice (some ⟨q,0,none⟩) P.length P.length,.int .i64 ((0:Nat):Int),f 5,f 6,f 7,f 8,f 9,f 10,.slice (some ⟨g,off,none⟩) P.length c0,.int .i64 (P.length:Int),.int .i64 ((0:Nat):Int),f 14,f 15,f 16,f 17,f 18,f 19,f 20,f 21,f 22,f 23,f 24,f 25,f 26,f 27,f 28,f 29,f 30,f 31,f 32,f 33,f 34,f 35,f 36,f 37,f 38,f 39,f 40,f 41,f 42,f 43,f 44,f 45,f 46,f 47,f 48,f 49,.slice A1 x.ch.length c1,.int .i64 (x.ch.length:Int),.int .i64 (i:Int),f 53,f 54,f 55,f 56,f 57,f 58,f 59,f 60,f 61,f 62,f 63,f 64,f 65,f 66,f 67,f 68,f 69,f 70,f 71,f 72,f 73,f 74,f 75,f 76])
     (fun i ds V=>i≤x.ch.length∧ds=[]∧Below w.heap.size w V∧Blk V q 4 (flagsV P.length (earl P (0:Nat) ++ x.ch.take i))∧∀ k,k < i→badC P (0:Nat) (earl P (0:Nat) ++ x.ch.take k) (x.ch.getD k 0)=false) (fun i=>x.ch.length-i) 0 rfl
     ⟨Nat.zero_le _,rfl,hbW,by rw [List.take_zero,List.append_nil];exact hQ1,fun k hk=>by omega⟩ ?_
    rintro i f ds V ⟨hi,rfl,hbV,hQV,hgk⟩
    dsimp only at hi ⊢
    have HGK:=Lib.hid hgk
    clear hgk
    by_cases hic:i < x.ch.length
    ·obtain ⟨c,hc⟩:∃ c,x.ch[i]?=some c:=⟨_,List.getElem?_eq_getElem hic⟩
     have hcd:x.ch.getD i 0=c:=by rw [List.getD_eq_getElem?_getD,hc];rfl
     have htk:x.ch.take (i+1)=x.ch.take i ++ [c]:=by rw [List.take_add_one,hc];rfl
     obtain ⟨g3,o3,rfl,hg3,hcell⟩:=(hch.below hbV) (by rw [List.length_map];omega)
     have d0:=hcell i (.int .i64 c) (by rw [List.getElem?_map,hc];rfl)
     have hbc:badC P (0:Nat) (earl P (0:Nat) ++ x.ch.take i) (x.ch.getD i 0)=(decide (c≤((0:Nat):Int))||decide ((P.length:Int)≤c)||decide (c∈earl P (0:Nat) ++ x.ch.take i)):=by rw [hcd];rfl
     have HBC:=Lib.hid hbc
     have HTK:=Lib.hid htk
     have hret:badC P (0:Nat) (earl P (0:Nat) ++ x.ch.take i) (x.ch.getD i 0)=true→badN P (0:Nat)=true:=fun h=>by
      rw [HB.out,Bool.or_eq_true,List.any_eq_true]
      exact Or.inr ⟨i,List.mem_range.2 hic,h⟩
     have HRET:=Lib.hid hret
     clear hret hbc htk hcd hc hcell
     by_cases h1:c≤((0:Nat):Int)
     ·have hh:badN P (0:Nat)=true:=HRET.out (by rw [HBC.out,decide_eq_true h1];rfl)
      have HH:=Lib.hid hh
      clear hh
      go_wp2_with fail
      go_ret
      exact ⟨((0:Nat):Int),rfl,Or.inr ⟨(0:Nat),hlt,rfl,HH.out,HG.out⟩,hbV⟩
     ·by_cases h2:(P.length:Int)≤c
      ·have hh:badN P (0:Nat)=true:=HRET.out (by rw [HBC.out,decide_eq_true h2,Bool.or_true];rfl)
       have HH:=Lib.hid hh
       clear hh
       go_wp2_with fail
       go_ret
       exact ⟨((0:Nat):Int),rfl,Or.inr ⟨(0:Nat),hlt,rfl,HH.out,HG.out⟩,hbV⟩
      ·obtain ⟨cc,rfl⟩:=Int.eq_ofNat_of_zero_le (show 0≤c by omega)
       have hcl2:cc < P.length:=by omega
       have e0:=(hQV.cell cc).trans (flagsV_get hcl2 _)
       have f0:=hQV.frozen cc
       have lV:=hQV.lt
       by_cases h3:(cc:Int)∈earl P (0:Nat) ++ x.ch.take i
       ·rw [decide_eq_true h3] at e0
        have hh:badN P (0:Nat)=true:=HRET.out (by rw [HBC.out,decide_eq_true h3,Bool.or_true])
        have HH:=Lib.hid hh
        clear hh h3
        go_wp2_with fail
        go_ret
        exact ⟨((0:Nat):Int),rfl,Or.inr ⟨(0:Nat),hlt,rfl,HH.out,HG.out⟩,hbV⟩
       ·rw [decide_eq_false h3] at e0
        have hno:badC P (0:Nat) (earl P (0:Nat) ++ x.ch.take i) (x.ch.getD i 0)=false:=by rw [HBC.out,decide_eq_false h1,decide_eq_false h2,decide_eq_false h3];rfl
        have HNO:=Lib.hid hno
        have hbn:Blk (V.setCell ⟨q,cc,none⟩ (.bool true)) q 4 (flagsV P.length (earl P (0:Nat) ++ x.ch.take (i+1))):=by
         rw [HTK.out,← List.append_assoc,← flagsV_set]
         exact hQV.set_ cc _
        have hgn:∀ k,k < i+1→badC P (0:Nat) (earl P (0:Nat) ++ x.ch.take k) (x.ch.getD k 0)=false:=fun k hk=>by
         by_cases e:k=i
         ·subst e;exact HNO.out
         ·exact HGK.out k (by omega)
        have HGN:=Lib.hid hgn
        clear hno h3 hgn
        go_wp2_with fail
        first
         | exact ⟨i+1,rfl,⟨by omega,by first | rfl | trivial,hbV.setCell (p:=⟨q,cc,none⟩) hqw _,hbn,HGN.out⟩,by omega⟩
         | exact ⟨i+1,rfl,⟨by omega,hbV.setCell (p:=⟨q,cc,none⟩) hqw _,hbn,HGN.out⟩,by omega⟩
         | exact ⟨i+1,by omega,⟨by omega,hbV.setCell (p:=⟨q,cc,none⟩) hqw _,hbn,fun k hk=>by have:=HGN.out k hk;rwa [List.getD_eq_getElem?_getD] at this⟩,by omega⟩
    ·obtain rfl:i=x.ch.length:=by omega
     have hgn:badN P (0:Nat)=false:=by
      rw [HB.out,HHD.out,Bool.false_or,Bool.eq_false_iff]
      intro hh
      rw [List.any_eq_true] at hh
      obtain ⟨k,hk,hb⟩:=hh
      rw [HGK.out k (List.mem_range.1 hk)] at hb;cases hb
     have HGN:=Lib.hid hgn
     clear hgn
     rw [List.take_length,← HES.out] at hQV
     go_wp2_with fail
     exact ⟨(0:Nat)+1,rfl,⟨by omega,by first | rfl | trivial,hbV,hQV,fun m hm=>by
      by_cases e:m=(0:Nat)
      ·subst e;exact HGN.out
      ·exact HG.out m (by omega)⟩,by omega⟩
   ·cases cl with
    | false =>
     have hh:badN P n=true:=by rw [HB.out,HBH.out,← HCL.out];first | (simp;done) | (simp;omega)
     have HH:=Lib.hid hh
     clear hh
     go_wp2_with fail
     go_ret
     exact ⟨(n:Int),rfl,Or.inr ⟨n,hlt,rfl,HH.out,HG.out⟩,hb.alloc hb.size _⟩
    | true =>
     have hhd:badH P n x=false:=by
      have e3:(decide ((1:Int)≠1)&&decide (0 < x.ch.length))=false:=by simp
      have e4:(decide (0 < n)&&!true)=false:=by simp
      rw [HBH.out,← HCL.out,decide_eq_false k1,decide_eq_false k3,e3,e4];rfl
     have HHD:=Lib.hid hhd
     clear hhd
     go_wp2_with fail
     refine abs1 fun W1 hX1 hb1 hz1=>?_
     have hbW:=hb.trans (hb1.mono hb.size)
     have hQ1:=hQn.below hb1 hQn.lt
     clear hz1
     refine wp_loopF (β:=Nat) (fun i f=>#[.slice (some ⟨g,off,none⟩) P.length c0,f 1,.int .i64 0,.slice (some ⟨q,0,none⟩) P.length P.length,.int .i64 (n:Int),f 5,f 6,f 7,f 8,f 9,f 10,.slice (some ⟨g,off,none⟩) P.length c0,.int .i64 (P.length:Int),.int .i64 (n:Int),f 14,f 15,f 16,f 17,f 18,f 19,f 20,f 21,f 22,f 23,f 24,f 25,f 26,f 27,f 28,f 29,f 30,f 31,f 32,f 33,f 34,f 35,f 36,f 37,f 38,f 39,f 40,f 41,f 42,f 43,f 44,f 45,f 46,f 47,f 48,f 49,.slice A1 x.ch.length c1,.int .i64 (x.ch.length:Int),.int .i64 (i:Int),f 53,f 54,f 55,f 56,f 57,f 58,f 59,f 60,f 61,f 62,f 63,f 64,f 65,f 66,f 67,f 68,f 69,f 70,f 71,f 72,f 73,f 74,f 75,f 76])
      (fun i ds V=>i≤x.ch.length∧ds=[]∧Below w.heap.size w V∧Blk V q 4 (flagsV P.length (earl P n ++ x.ch.take i))∧∀ k,k < i→badC P n (earl P n ++ x.ch.take k) (x.ch.getD k 0)=false) (fun i=>x.ch.length-i) 0 rfl
      ⟨Nat.zero_le _,rfl,hbW,by rw [List.take_zero,List.append_nil];exact hQ1,fun k hk=>by omega⟩ ?_
     rintro i f ds V ⟨hi,rfl,hbV,hQV,hgk⟩
     dsimp only at hi ⊢
     have HGK:=Lib.hid hgk
     clear hgk
     by_cases hic:i < x.ch.length
     ·obtain ⟨c,hc⟩:∃ c,x.ch[i]?=some c:=⟨_,List.getElem?_eq_getElem hic⟩
      have hcd:x.ch.getD i 0=c:=by rw [List.getD_eq_getElem?_getD,hc];rfl
      have htk:x.ch.take (i+1)=x.ch.take i ++ [c]:=by rw [List.take_add_one,hc];rfl
      obtain ⟨g3,o3,rfl,hg3,hcell⟩:=(hch.below hbV) (by rw [List.length_map];omega)
      have d0:=hcell i (.int .i64 c) (by rw [List.getElem?_map,hc];rfl)
      have hbc:badC P n (earl P n ++ x.ch.take i) (x.ch.getD i 0)=(decide (c≤(n:Int))||decide ((P.length:Int)≤c)||decide (c∈earl P n ++ x.ch.take i)):=by rw [hcd];rfl
      have HBC:=Lib.hid hbc
      have HTK:=Lib.hid htk
      have hret:badC P n (earl P n ++ x.ch.take i) (x.ch.getD i 0)=true→badN P n=true:=fun h=>by
       rw [HB.out,Bool.or_eq_true,List.any_eq_true]
       exact Or.inr ⟨i,List.mem_range.2 hic,h⟩
      have HRET:=Lib.hid hret
      clear hret hbc htk hcd hc hcell
      by_cases h1:c≤(n:Int)
      ·have hh:badN P n=true:=HRET.out (by rw [HBC.out,decide_eq_true h1];rfl)
       have HH:=Lib.hid hh
       clear hh
       go_wp2_with fail
       go_ret
       exact ⟨(n:Int),rfl,Or.inr ⟨n,hlt,rfl,HH.out,HG.out⟩,hbV⟩
      ·by_cases h2:(P.length:Int)≤c
       ·have hh:badN P n=true:=HRET.out (by rw [HBC.out,decide_eq_true h2,Bool.or_true];rfl)
        have HH:=Lib.hid hh
        clear hh
        go_wp2_with fail
        go_ret
        exact ⟨(n:Int),rfl,Or.inr ⟨n,hlt,rfl,HH.out,HG.out⟩,hbV⟩
       ·obtain ⟨cc,rfl⟩:=Int.eq_ofNat_of_zero_le (show 0≤c by omega)
        have hcl2:cc < P.length:=by omega
        have e0:=(hQV.cell cc).trans (flagsV_get hcl2 _)
        have f0:=hQV.frozen cc
        have lV:=hQV.lt
        by_cases h3:(cc:Int)∈earl P n ++ x.ch.take i
        ·rw [decide_eq_true h3] at e0
         have hh:badN P n=true:=HRET.out (by rw [HBC.out,decide_eq_true h3,Bool.or_true])
         have HH:=Lib.hid hh
         clear hh h3
         go_wp2_with fail
         go_ret
         exact ⟨(n:Int),rfl,Or.inr ⟨n,hlt,rfl,HH.out,HG.out⟩,hbV⟩
        ·rw [decide_eq_false h3] at e0
         have hno:badC P n (earl P n ++ x.ch.take i) (x.ch.getD i 0)=false:=by rw [HBC.out,decide_eq_false h1,decide_eq_false h2,decide_eq_false h3];rfl
         have HNO:=Lib.hid hno
         have hbn:Blk (V.setCell ⟨q,cc,none⟩ (.bool true)) q 4 (flagsV P.length (earl P n ++ x.ch.take (i+1))):=by
          rw [HTK.out,← List.append_assoc,← flagsV_set]
          exact hQV.set_ cc _
         have hgn:∀ k,k < i+1→badC P n (earl P n ++ x.ch.take k) (x.ch.getD k 0)=false:=fun k hk=>by
          by_cases e:k=i
          ·subst e;exact HNO.out
          ·exact HGK.out k (by omega)
         have HGN:=Lib.hid hgn
         clear hno h3 hgn
         go_wp2_with fail
         first
          | exact ⟨i+1,rfl,⟨by omega,by first | rfl | trivial,hbV.setCell (p:=⟨q,cc,none⟩) hqw _,hbn,HGN.out⟩,by omega⟩
          | exact ⟨i+1,rfl,⟨by omega,hbV.setCell (p:=⟨q,cc,none⟩) hqw _,hbn,HGN.out⟩,by omega⟩
          | exact ⟨i+1,by omega,⟨by omega,hbV.setCell (p:=⟨q,cc,none⟩) hqw _,hbn,fun k hk=>by have:=HGN.out k hk;rwa [List.getD_eq_getElem?_getD] at this⟩,by omega⟩
     ·obtain rfl:i=x.ch.length:=by omega
      have hgn:badN P n=false:=by
       rw [HB.out,HHD.out,Bool.false_or,Bool.eq_false_iff]
       intro hh
       rw [List.any_eq_true] at hh
       obtain ⟨k,hk,hb⟩:=hh
       rw [HGK.out k (List.mem_range.1 hk)] at hb;cases hb
      have HGN:=Lib.hid hgn
      clear hgn
      rw [List.take_length,← HES.out] at hQV
      go_wp2_with fail
      exact ⟨n+1,rfl,⟨by omega,by first | rfl | trivial,hbV,hQV,fun m hm=>by
       by_cases e:m=n
       ·subst e;exact HGN.out
       ·exact HG.out m (by omega)⟩,by omega⟩
  ·by_cases hl0:x.ch.length=0
   ·rcases Nat.eq_zero_or_pos n with hn0 | hn0
    ·subst hn0
     simp only [Nat.zero_mul,Nat.add_zero] at m0 m1 m2 m3 m4
     have hhd:badH P (0:Nat) x=false:=by
      have e3:(decide (kd≠1)&&decide (0 < x.ch.length))=false:=by rw [hl0];simp
      have e4:(decide (0 < (0:Nat))&&!cl)=false:=by simp
      rw [HBH.out,← HCL.out,decide_eq_false k1,decide_eq_false k3,e3,e4];rfl
     have HHD:=Lib.hid hhd
     clear hhd
     go_wp2_with fail
     refine abs1 fun W1 hX1 hb1 hz1=>?_
     have hbW:=hb.trans (hb1.mono hb.size)
     have hQ1:=hQn.below hb1 hQn.lt
     clear hz1
     refine wp_loopF (β:=Nat) (fun i f=>#[.slice (some ⟨g,off,none⟩) P.length c0,f 1,.int .i64 0,.slice (some ⟨q,0,none⟩) P.length P.length,.int .i64 ((0:Nat):Int),f 5,f 6,f 7,f 8,f 9,f 10,.slice (some ⟨g,off,none⟩) P.length c0,.int .i64 (P.length:Int),.int .i64 ((0:Nat):Int),f 14,f 15,f 16,f 17,f 18,f 19,f 20,f 21,f 22,f 23,f 24,f 25,f 26,f 27,f 28,f 29,f 30,f 31,f 32,f 33,f 34,f 35,f 36,f 37,f 38,f 39,f 40,f 41,f 42,f 43,f 44,f 45,f 46,f 47,f 48,f 49,.slice A1 0 c1,.int .i64 0,.int .i64 (i:Int),f 53,f 54,f 55,f 56,f 57,f 58,f 59,f 60,f 61,f 62,f 63,f 64,f 65,f 66,f 67,f 68,f 69,f 70,f 71,f 72,f 73,f 74,f 75,f 76])
      (fun i ds V=>i≤x.ch.length∧ds=[]∧Below w.heap.size w V∧Blk V q 4 (flagsV P.length (earl P (0:Nat) ++ x.ch.take i))∧∀ k,k < i→badC P (0:Nat) (earl P (0:Nat) ++ x.ch.take k) (x.ch.getD k 0)=false) (fun i=>x.ch.length-i) 0 rfl
      ⟨Nat.zero_le _,rfl,hbW,by rw [List.take_zero,List.append_nil];exact hQ1,fun k hk=>by omega⟩ ?_
     rintro i f ds V ⟨hi,rfl,hbV,hQV,hgk⟩
     dsimp only at hi ⊢
     have HGK:=Lib.hid hgk
     clear hgk
     by_cases hic:i < x.ch.length
     ·exact absurd hic (by omega)
     ·obtain rfl:i=x.ch.length:=by omega
      have hgn:badN P (0:Nat)=false:=by
       rw [HB.out,HHD.out,Bool.false_or,Bool.eq_false_iff]
       intro hh
       rw [List.any_eq_true] at hh
       obtain ⟨k,hk,hb⟩:=hh
       rw [HGK.out k (List.mem_range.1 hk)] at hb;cases hb
      have HGN:=Lib.hid hgn
      clear hgn
      rw [List.take_length,← HES.out] at hQV
      go_wp2_with fail
      exact ⟨(0:Nat)+1,rfl,⟨by omega,by first | rfl | trivial,hbV,hQV,fun m hm=>by
       by_cases e:m=(0:Nat)
       ·subst e;exact HGN.out
       ·exact HG.out m (by omega)⟩,by omega⟩
    ·cases cl with
     | false =>
      have hh:badN P n=true:=by rw [HB.out,HBH.out,← HCL.out];first | (simp;done) | (simp;omega)
      have HH:=Lib.hid hh
      clear hh
      go_wp2_with fail
      go_ret
      exact ⟨(n:Int),rfl,Or.inr ⟨n,hlt,rfl,HH.out,HG.out⟩,hb.alloc hb.size _⟩
     | true =>
      have hhd:badH P n x=false:=by
       have e3:(decide (kd≠1)&&decide (0 < x.ch.length))=false:=by rw [hl0];simp
       have e4:(decide (0 < n)&&!true)=false:=by simp
       rw [HBH.out,← HCL.out,decide_eq_false k1,decide_eq_false k3,e3,e4];rfl
      have HHD:=Lib.hid hhd
      clear hhd
      go_wp2_with fail
      refine abs1 fun W1 hX1 hb1 hz1=>?_
      have hbW:=hb.trans (hb1.mono hb.size)
      have hQ1:=hQn.below hb1 hQn.lt
      clear hz1
      refine wp_loopF (β:=Nat) (fun i f=>#[.slice (some ⟨g,off,none⟩) P.length c0,f 1,.int .i64 0,.slice (some ⟨q,0,none⟩) P.length P.length,.int .i64 (n:Int),f 5,f 6,f 7,f 8,f 9,f 10,.slice (some ⟨g,off,none⟩) P.length c0,.int .i64 (P.length:Int),.int .i64 (n:Int),f 14,f 15,f 16,f 17,f 18,f 19,f 20,f 21,f 22,f 23,f 24,f 25,f 26,f 27,f 28,f 29,f 30,f 31,f 32,f 33,f 34,f 35,f 36,f 37,f 38,f 39,f 40,f 41,f 42,f 43,f 44,f 45,f 46,f 47,f 48,f 49,.slice A1 0 c1,.int .i64 0,.int .i64 (i:Int),f 53,f 54,f 55,f 56,f 57,f 58,f 59,f 60,f 61,f 62,f 63,f 64,f 65,f 66,f 67,f 68,f 69,f 70,f 71,f 72,f 73,f 74,f 75,f 76])
       (fun i ds V=>i≤x.ch.length∧ds=[]∧Below w.heap.size w V∧Blk V q 4 (flagsV P.length (earl P n ++ x.ch.take i))∧∀ k,k < i→badC P n (earl P n ++ x.ch.take k) (x.ch.getD k 0)=false) (fun i=>x.ch.length-i) 0 rfl
       ⟨Nat.zero_le _,rfl,hbW,by rw [List.take_zero,List.append_nil];exact hQ1,fun k hk=>by omega⟩ ?_
      rintro i f ds V ⟨hi,rfl,hbV,hQV,hgk⟩
      dsimp only at hi ⊢
      have HGK:=Lib.hid hgk
      clear hgk
      by_cases hic:i < x.ch.length
      ·exact absurd hic (by omega)
      ·obtain rfl:i=x.ch.length:=by omega
       have hgn:badN P n=false:=by
        rw [HB.out,HHD.out,Bool.false_or,Bool.eq_false_iff]
        intro hh
        rw [List.any_eq_true] at hh
        obtain ⟨k,hk,hb⟩:=hh
        rw [HGK.out k (List.mem_range.1 hk)] at hb;cases hb
       have HGN:=Lib.hid hgn
       clear hgn
       rw [List.take_length,← HES.out] at hQV
       go_wp2_with fail
       exact ⟨n+1,rfl,⟨by omega,by first | rfl | trivial,hbV,hQV,fun m hm=>by
        by_cases e:m=n
        ·subst e;exact HGN.out
        ·exact HG.out m (by omega)⟩,by omega⟩
   ·have hpos:0 < x.ch.length:=by omega
    have hh:badN P n=true:=by rw [HB.out,HBH.out];first | (simp;done) | (simp;omega)
    have HH:=Lib.hid hh
    clear hh
    go_wp2_with fail
    go_ret
    exact ⟨(n:Int),rfl,Or.inr ⟨n,hlt,rfl,HH.out,HG.out⟩,hb.alloc hb.size _⟩
 ·obtain rfl:n=P.length:=by omega
  go_wp2_with fail
  go_ret
  exact ⟨-1,rfl,Or.inl ⟨rfl,HG.out⟩,hb⟩
section
variable {w w':World} {base:Nat} {v:Value} {P:List Nd} {vss:List (List Value)} {vs:List Value} {x:Nd}
end
theorem own5 {w:World} {base n:Nat} {v:Value} {xs:List Value} {e:TypeId} {size:Nat} (h:w.ownsRow base e size v n xs):∃ A c,v=.slice A n c∧n≤c:=by
 rcases id h.2 with ⟨hv,hn⟩ | ⟨g,cap,cur,hv,_,_,hnc,_⟩
 ·exact ⟨none,0,by rw [hv,hn],by omega⟩
 ·exact ⟨_,cap,hv,hnc⟩
namespace Mix2
end Mix2
namespace Mix2
end Mix2
end Go.Proofs.YtafpmkdlciioaaaGreatDoor
