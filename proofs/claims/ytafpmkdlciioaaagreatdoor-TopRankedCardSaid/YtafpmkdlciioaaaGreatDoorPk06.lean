import Derived.Test.YtafpmkdlciioaaaGreatDoorPk04
import Derived.Test.YtafpmkdlciioaaaGreatDoorPk05
import Derived.ChangeKeysEq
set_option maxHeartbeats 4000000
set_option maxRecDepth 100000
namespace Go.Proofs.YtafpmkdlciioaaaGreatDoor
open Go.RowKit
def Dn (w w':World):Prop:=w.drawn≤w'.drawn
theorem Dn.refl (w:World):Dn w w:=Nat.le_refl _
theorem Dn.trans {a b c:World} (h:Dn a b) (k:Dn b c):Dn a c:=Nat.le_trans h k
theorem Dn.drew {a b:World} (h:Dn a b):Dn a b.drew:=Nat.le_trans h (Nat.le_succ _)
theorem Dn.setCell {a b:World} (h:Dn a b) (p:Addr) (v:Value):Dn a (b.setCell p v):=h
theorem Gw.dn {w w':World} (h:Gw w w'):Dn w w':=by
 obtain ⟨q,os,rfl⟩:=h
 exact Nat.le_add_right _ _
theorem Gw.of {w w':World} (hb:Below w.heap.size w w') (hd:Dn w w'):Gw w w':=by
 refine ⟨w'.drawn-w.drawn,w'.heap.extract w.heap.size w'.heap.size,?_⟩
 obtain ⟨h1,h2,h3,h4,h5⟩:=hb
 have hd':w.drawn+(w'.drawn-w.drawn)=w'.drawn:=Nat.add_sub_cancel' hd
 have hh:w.heap ++ w'.heap.extract w.heap.size w'.heap.size=w'.heap:=by
  apply Array.ext_getElem?
  intro i
  by_cases hi:i < w.heap.size
  ·rw [Array.getElem?_append_left hi,h5 i hi]
  ·rw [Array.getElem?_append_right (by omega),Array.getElem?_extract]
   by_cases hj:i < w'.heap.size
   ·rw [if_pos (by omega),show w.heap.size+(i-w.heap.size)=i by omega]
   ·rw [if_neg (by omega),Array.getElem?_eq_none (by omega)]
 unfold Go.Sort.grow World.drewN
 dsimp only
 rw [hh,hd']
 cases w;cases w'
 simp_all
section
variable {P:Program} {c:Code} {Q:Exit→Act→World→Prop} {a:Act} {w:World}
theorem dabs1 {c1:Array Value} {t1:TypeId} (h:∀ W,Blk W w.heap.size t1 c1→Below w.heap.size w W→W.heap.size=w.heap.size+1→Dn w W→c.wp P Q a W):c.wp P Q a (w.alloc (.cells c1 t1)) :=
 h _ (Blk.new _ _ _) ((Below.refl _ _).alloc (Nat.le_refl _) _) (by simp) (Dn.refl _)
theorem dabs2 {c1 c2:Array Value} {t1 t2:TypeId} (h:∀ W,Blk W w.heap.size t1 c1→Blk W (w.heap.size+1) t2 c2→Below w.heap.size w W→Dn w W→c.wp P Q a W):c.wp P Q a ((w.alloc (.cells c1 t1)).alloc (.cells c2 t2)) :=
 h _ ((Blk.new _ _ _).alloc _) (Blk.new_ (by simp) _ _) (((Below.refl _ _).alloc (Nat.le_refl _) _).alloc (by simp) _) (Dn.refl _)
theorem dabs4 {c1 c2 c3 c4:Array Value} {t1 t2 t3 t4:TypeId} (h:∀ W,Blk W w.heap.size t1 c1→Blk W (w.heap.size+1) t2 c2→Blk W (w.heap.size+2) t3 c3→Blk W (w.heap.size+3) t4 c4→Below w.heap.size w W→W.heap.size=w.heap.size+4→Dn w W→c.wp P Q a W) :
  c.wp P Q a ((((w.alloc (.cells c1 t1)).alloc (.cells c2 t2)).alloc (.cells c3 t3)).alloc (.cells c4 t4)) :=
 h _ ((((Blk.new _ _ _).alloc _).alloc _).alloc _) (((Blk.new_ (by simp) _ _).alloc _).alloc _) ((Blk.new_ (by simp) _ _).alloc _) (Blk.new_ (by simp) _ _) (((((Below.refl _ _).alloc (Nat.le_refl _) _).alloc (by simp) _).alloc (by simp;omega) _).alloc (by simp;omega) _) (by simp) (Dn.refl _)
end
theorem trim_g (A:Option Addr) (n c N:Nat) (w:World) (hw:Words w A n N) (_hn:n≤64) (hc:n≤c) (hc':c≤maxLen) :
  Calls Tryz.prog 70 #[.slice A n c] w fun e w'=>∃ r,e=.returned (.agg #[r])∧IsSet w' r N∧Below w.heap.size w w'∧Dn w w':=by
 go_enter Tryz.func70,Tryz.ntmps70
 go_wp2_with fail
 refine dabs1 fun W0 hA0 hbel0 hz hdn=>?_
 have hw0:=hw.below hbel0
 have cR:=hA0.cell 0
 have fR:=hA0.frozen 0
 go_loop [0] (fun s=>∃ m:Nat,m≤n∧s=.slice A m c∧Words W0 A m N) (fun s=>slen s)
 case atStart=>exact ⟨n,Nat.le_refl _,rfl,hw0⟩
 case round =>
  obtain ⟨m,hm,rfl,hwm⟩:=hrel
  by_cases h0:0 < m
  ·obtain ⟨g,cs,rfl,hB,hcs⟩:=hwm.1 h0
   have cW:=(hB.cell (m-1)).trans (hcs (m-1) (by omega))
   by_cases hzz:wd N (m-1)=0
   ·have e0:((wd N (m-1):Int) == 0)=true:=by simp [hzz]
    have hz2:∀ k,m-1≤k→wd N k=0:=fun k hk=>by
     by_cases hkm:k=m-1
     ·rw [hkm];exact hzz
     ·exact hwm.2 k (by omega)
    have HZ2:=Lib.hid hz2;clear hz2
    have HZZ:=Lib.hid hzz;clear hzz
    clear hw
    have HCS:=Lib.hid hcs;clear hcs
    go_wp2
    exact ⟨⟨m-1,by omega,rfl,fun hm0=>⟨g,cs,rfl,hB,fun k hk=>HCS.out k (by omega)⟩,HZ2.out⟩,by simp [slen];omega⟩
   ·have e0:((wd N (m-1):Int) == 0)=false:=by simp [hzz]
    have hm2:m=nw N:=(nw_of_top hwm.2 (.inr hzz)).symm
    have HZZ:=Lib.hid hzz;clear hzz
    have HM:=Lib.hid hm2;clear hm2
    clear hw
    have HCS:=Lib.hid hcs;clear hcs
    go_wp2
    have cX:=(hA0.set_ 0 (.slice (some ⟨g,0,none⟩) m c)).cell 0
    refine bodyPost_ret (v:=.agg #[.slice (some ⟨g,0,none⟩) m c]) (by simp [results,Tryz.results70,go_sem,cX]) rfl ⟨_,rfl,?_,hbel0.setCell (by simp) _,hdn.setCell _ _⟩
    have e:=HM.out;subst e
    exact IsSet.mk_ (hB.far (p:=⟨w.heap.size,0,none⟩) (hB.ne_ hA0 (by decide)) _) (by omega) (by omega) hc' HCS.out
  ·obtain rfl:m=0:=by omega
   have hN:N=0:=wd_ext fun k=>by rw [hwm.2 k (by omega),wd_zero]
   subst hN
   clear hw
   go_wp2
   have cX:=(hA0.set_ 0 (.slice A 0 c)).cell 0
   refine bodyPost_ret (v:=.agg #[.slice A 0 c]) (by simp [results,Tryz.results70,go_sem,cX]) rfl ⟨_,rfl,⟨A,c,rfl,by decide,by simp [nw_zero],hc',fun h=>absurd h (by decide)⟩,hbel0.setCell (by simp) _,hdn.setCell _ _⟩
theorem minus_g (v u:Value) (N M:Nat) (w:World) (hs:IsSet w v N) (ho:IsSet w u M) :
  Calls Tryz.prog 83 #[.agg #[v],.agg #[u]] w fun e w'=>∃ r,e=.returned (.agg #[r])∧IsSet w' r (minusN N M)∧Below w.heap.size w w'∧Dn w w':=by
 obtain ⟨A,c,rfl,hN,_,_,h4⟩:=id hs
 obtain ⟨A',c',rfl,hM,_,_,_⟩:=id ho
 obtain ⟨L,hLe⟩:∃ L,L=nw N:=⟨_,rfl⟩
 have hL:L≤64:=by omega
 have HL:=Lib.hid hLe
 have hmk:=make_u64 L (by omega)
 have hwz:∀ k,L≤k→wd (minusN N M) k=0:=fun k hk=>minusN_ge (by omega)
 have HWZ:=Lib.hid hwz
 clear hwz
 rw [← hLe]
 clear hLe
 go_enter Tryz.func83,Tryz.ntmps83
 go_wp2_with fail
 refine dabs4 fun W0 hA0 hB0 hR0 hW0 hbel0 hz hdn=>?_
 have hw0:=hW0.fill0 (fun j=>u64 (wd (minusN N M) j))
 have HZ:=Lib.hid hz;clear hz
 go_loopw [13] (fun i wr=>∃ k:Nat,k≤L∧i=.int .i64 k∧Blk wr (w.heap.size+3) 146 (filled (.int .u64 0) (fun j=>u64 (wd (minusN N M) j)) k L)∧Below (w.heap.size+3) W0 wr∧Dn w wr)
  (fun i _=>L-(intOf i).toNat)
 case atStart=>exact ⟨0,Nat.zero_le _,rfl,hw0,Below.refl _ _,hdn⟩
 case round =>
  obtain ⟨k,hk,rfl,hb,hbel,hdr⟩:=hrel
  have cA:=(hA0.below hbel (by omega)).cell 0
  have cB:=(hB0.below hbel (by omega)).cell 0
  have hbw:Below w.heap.size w wr:=hbel0.trans (hbel.mono (by omega))
  by_cases hlt:k < L
  ·have cW:=hb.cell k
   have fW:=hb.frozen k
   rw [filled_get _ _ hlt,if_neg (by omega)] at cW
   have hor:=minus_form N M k
   have hset:=filled_set (.int .u64 0) (fun j=>u64 (wd (minusN N M) j)) hlt
   have HSET:=Lib.hid hset;clear hset
   obtain ⟨g,cs,rfl,hg,hcs⟩:=h4 (by have:=HL.out;omega)
   have cN:=((hg.below hbw hg.lt).cell k).trans (hcs k (by have:=HL.out;omega))
   have HW:=hideC (fun W hW=>word_g (.slice A' (nw M) c') M k W (ho.below (w':=W) hW))
   clear hcs h4
   go_wp2_with fail
   refine wp_spine (fun W=>Below wr.heap.size wr W) [0,1,2,3,4,5,6,7,8] [9,10,11,12] (by kernel_rfl) (by kernel_rfl) ?_
   iterate 9 (refine wpE_op (v:=?_) rfl rfl (fun W hW=>?_) ?_;rotate_left;(have c1:=onB hW cA;have c2:=onB hW cB;have c3:=onB hW cN;go_simp;first | done | with_reducible rfl);simp only [pt1,pt3,pt4,pt5])
   refine wpE_nil ⟨fun h=>(by cases h),wpSp_op rfl (Below.refl _ _).drew ?_⟩
   go_wp2_with fail
   refine (HW.out _ (hbw.trans ((Below.refl wr.heap.size wr).drew.mono hbw.size))).mono ?_
   rintro e w2 ⟨rfl,hg2⟩
   have hb2:=hg2.below
   have hk2:Below wr.heap.size wr w2:=(Below.refl _ _).drew.trans hb2
   have cW2:=onB hk2 cW
   have fW2:=onFrozen hk2 cW fW
   go_wp2_with fail
   refine nxt_op rfl hk2 ?_
   go_wp2_with fail
   refine nxt_op rfl hk2 ?_
   go_wp2_with fail
   refine nxt_op rfl hk2 ?_
   go_wp2_with fail
   refine nxt_nil ?_
   go_wp2_with fail
   have hb3:=((hb.below hk2 hb.lt).set_ k (u64 (wd (minusN N M) k)))
   rw [HSET.out] at hb3
   exact ⟨⟨k+1,by omega,by go_num,hb3,(hbel.trans (hk2.mono (by have:=hbel.size;have:=HZ.out;omega))).setCell (by simp) _,(hdr.drew.trans hg2.dn).setCell _ _⟩,by simp [intOf];omega⟩
  ·obtain rfl:k=L:=by omega
   have hR:=hR0.below hbel (by omega)
   have cR:=hR.cell 0
   have fR:=hR.frozen 0
   have hw:Words wr (some ⟨w.heap.size+1+1+1,0,none⟩) k (minusN N M):=⟨fun _=>⟨_,_,rfl,hb,fun j hj=>by rw [filled_get _ _ hj,if_pos hj]⟩,fun j hj=>HWZ.out j hj⟩
   clear h4
   go_wp2_with fail
   refine (trim_g _ k k _ _ hw hL (Nat.le_refl _) (le64 hL)).mono ?_
   rintro e w1 ⟨r,rfl,hr,hb1,hd1⟩
   obtain ⟨A1,c1,rfl,_⟩:=id hr
   have hr1:=onB hb1 cR
   have fr1:=onFrozen hb1 cR fR
   go_wp2_with fail
   have hX:=(hR.below hb1 hR.lt).set_ 0 (.slice A1 (nw (minusN N M)) c1)
   have cX:=hX.cell 0
   refine bodyPost_ret (v:=.agg #[.slice A1 (nw (minusN N M)) c1]) (by simp [results,Tryz.results83,go_sem,cX]) rfl ⟨_,rfl,?_,((hbw.trans (hb1.mono (by have:=hbel.size;have:=HZ.out;omega)))).setCell (by simp;omega) _,(hdr.trans hd1).setCell _ _⟩
   exact hr.keep (KeepW.setCell (t:=58) (hR.below hb1 hR.lt) (by decide) _)
theorem or_g (v u:Value) (N M:Nat) (w:World) (hs:IsSet w v N) (ho:IsSet w u M) :
  Calls Tryz.prog 84 #[.agg #[v],.agg #[u]] w fun e w'=>∃ r,e=.returned (.agg #[r])∧IsSet w' r (N|||M)∧Below w.heap.size w w'∧Dn w w':=by
 obtain ⟨A,c,rfl,hN,_⟩:=id hs
 obtain ⟨A',c',rfl,hM,_⟩:=id ho
 have hL:nw (N|||M)≤64:=by rw [nw_or];omega
 have hmx:(if nw N < nw M then (nw M:Int) else (nw N:Int))=(nw (N|||M):Int):=by rw [nw_or];split <;> omega
 have hmx2:max (nw N:Int) (nw M:Int)=(nw (N|||M):Int):=by rw [nw_or];omega
 obtain ⟨L,hLe⟩:∃ L,L=nw (N|||M):=⟨_,rfl⟩
 rw [← hLe] at hL hmx hmx2
 clear hmx
 have HL:=Lib.hid hLe;clear hLe
 have hmk:=make_u64 L (by omega)
 go_enter Tryz.func84,Tryz.ntmps84
 go_wp2_with fail
 refine dabs4 fun W0 hA0 hB0 hR0 hW0 hbel0 hz hdn=>?_
 have hw0:=hW0.fill0 (fun j=>u64 (wd N j|||wd M j))
 have hs1:=hs.below hbel0
 have ho1:=ho.below hbel0
 have HZ:=Lib.hid hz;clear hz
 go_loopw [17] (fun i wr=>∃ k:Nat,k≤L∧i=.int .i64 k∧Blk wr (w.heap.size+3) 146 (filled (.int .u64 0) (fun j=>u64 (wd N j|||wd M j)) k L)∧Below (w.heap.size+3) W0 wr∧Dn w wr)
  (fun i _=>L-(intOf i).toNat)
 case atStart=>exact ⟨0,Nat.zero_le _,rfl,hw0,Below.refl _ _,hdn⟩
 case round =>
  obtain ⟨k,hk,rfl,hb,hbel,hdr⟩:=hrel
  have cA:=(hA0.below hbel (by omega)).cell 0
  have cB:=(hB0.below hbel (by omega)).cell 0
  have hbw:Below w.heap.size w wr:=hbel0.trans (hbel.mono (by omega))
  have hs1:=hs.below hbw
  have ho1:=ho.below hbw
  by_cases hlt:k < L
  ·have cW:=hb.cell k
   have fW:=hb.frozen k
   rw [filled_get _ _ hlt,if_neg (by omega)] at cW
   have hor:=u64_or_nat (wd N k) (wd M k) (wd_lt N k) (wd_lt M k)
   have hset:=filled_set (.int .u64 0) (fun j=>u64 (wd N j|||wd M j)) hlt
   have HSET:=Lib.hid hset;clear hset
   go_wp2_with fail
   refine wp_spine (fun W=>W.cell? ⟨w.heap.size,0,none⟩=some (.slice A (nw N) c)∧W.cell? ⟨w.heap.size+1,0,none⟩=some (.slice A' (nw M) c')∧Below wr.heap.size wr W) [0,1,2,3,5,6] [4,7,8,9,10] (by kernel_rfl) (by kernel_rfl) ?_
   iterate 6 (refine wpE_op (v:=?_) rfl rfl (fun W hW=>?_) ?_;rotate_left;(go_simp;first | done | with_reducible rfl);simp only [pt1,pt3,pt4,pt5])
   refine wpE_nil ⟨fun h=>(by cases h),wpSp_op rfl ⟨cA,cB,(Below.refl _ _).drew⟩ ?_⟩
   go_wp2_with fail
   refine (word_g _ N k _ (hs1.below (Below.refl _ _).drew)).mono ?_
   rintro e w1 ⟨rfl,hg1⟩
   have hb1:=hg1.below
   have hB1:Below wr.heap.size wr w1:=(Below.refl _ _).drew.trans hb1
   go_wp2_with fail
   refine nxt_op rfl ⟨onB hB1 cA,onB hB1 cB,hB1⟩ ?_
   go_wp2_with fail
   refine (word_g _ M k _ (ho1.below hB1)).mono ?_
   rintro e w2 ⟨rfl,hg2⟩
   have hb2:=hg2.below
   have hB2:Below wr.heap.size wr w2:=hB1.trans (hb2.mono hB1.size)
   go_wp2_with fail
   refine nxt_op rfl ⟨onB hB2 cA,onB hB2 cB,hB2⟩ ?_
   go_wp2_with fail
   refine nxt_op rfl ⟨onB hB2 cA,onB hB2 cB,hB2⟩ ?_
   go_wp2_with fail
   refine nxt_op rfl ⟨onB hB2 cA,onB hB2 cB,hB2⟩ ?_
   have cW2:=onB hB2 cW
   have fW2:w2.frozen? ⟨w.heap.size+3,k,none⟩=false:=onFrozen hB2 cW fW
   go_wp2_with fail
   refine nxt_nil ?_
   go_wp2_with fail
   have hb2:=((hb.below hB2 hb.lt).set_ k (u64 (wd N k|||wd M k)))
   rw [HSET.out] at hb2
   exact ⟨⟨k+1,by omega,by go_num,hb2,(hbel.trans (hB2.mono (by have:=hbel.size;have:=HZ.out;omega))).setCell (by simp) _,((hdr.drew.trans hg1.dn).trans hg2.dn).setCell _ _⟩,by simp [intOf];omega⟩
  ·obtain rfl:k=L:=by omega
   have cR:=(hR0.below hbel (by omega)).cell 0
   have fR:=(hR0.below hbel (by omega)).frozen 0
   go_wp2_with fail
   have cX:=((hR0.below hbel (by omega)).set_ 0 (.slice (some ⟨w.heap.size+3,0,none⟩) k k)).cell 0
   refine bodyPost_ret (v:=.agg #[.slice (some ⟨w.heap.size+3,0,none⟩) k k]) (by simp [results,Tryz.results84,go_sem,cX]) rfl ⟨_,rfl,?_,(hbel0.trans (hbel.mono (by omega))).setCell (by simp;omega) _,hdr.setCell _ _⟩
   have hk':=HL.out
   rw [hk'] at hb hL ⊢
   exact IsSet.mk_ (hb.far (by simp) _) hL (Nat.le_refl _) (le64 hL) (fun j hj=>by rw [filled_get _ _ hj,if_pos hj,wd_or])
theorem wd_all {N:Nat} (h:∀ i,i < nw N→wd N i=0):N=0:=wd_ext fun k=>by
 rw [wd_zero]
 by_cases hk:k < nw N
 ·exact h k hk
 ·exact wd_ge (by omega)
theorem least_no (v:Value) (w:World) (hs:IsSet w v 0) :
  Calls Tryz.prog 175 #[.agg #[v]] w fun e w'=>e=.returned (.tuple #[.int .i64 0,.bool false])∧Below w.heap.size w w'∧Dn w w':=by
 obtain ⟨A,c,rfl,hN,_⟩:=id hs
 rw [nw_zero]
 go_enter Tryz.func175,Tryz.ntmps175
 go_wp2_with fail
 refine wp_loopF (β:=Unit) (fun _ f=>#[f 0,f 1,f 2,f 3,f 4,f 5,f 6,.slice A 0 c,.int .i64 0,.int .i64 0,f 10,f 11,f 12,f 13,f 14,f 15,f 16,f 17,f 18,f 19,f 20,f 21])
  (fun _ ds wr=>ds=[]∧Below w.heap.size w wr∧Dn w wr) (fun _=>0) () rfl ⟨rfl,(Below.refl _ _).alloc (Nat.le_refl _) _,Dn.refl _⟩ ?_
 rintro _ f ds wr ⟨rfl,hb,hd⟩
 dsimp only
 go_wp2_with fail
 go_ret2
 exact ⟨rfl,hb,hd⟩
theorem least_yes (v:Value) (N L:Nat) (w:World) (hs:IsSet w v N) (hL:N.testBit L=true) (hlo:∀ j,j < L→N.testBit j=false) (hT:Tab w) :
  Calls Tryz.prog 175 #[.agg #[v]] w fun e w'=>e=.returned (.tuple #[.int .i64 L,.bool true])∧Below w.heap.size w w'∧Dn w w':=by
 obtain ⟨A,c,rfl,hN,hNc,_,h4⟩:=id hs
 have hN0:N≠0:=by rintro rfl;simp at hL
 have hLl:L < 64*nw N:=by
  by_cases h:L < 64*nw N
  ·exact h
  ·rw [testBit_ge (Nat.le_refl _) (by omega)] at hL;cases hL
 have hn0:0 < nw N:=by omega
 obtain ⟨g,cs,rfl,hg,hcs⟩:=h4 hn0
 clear h4
 go_enter Tryz.func175,Tryz.ntmps175
 go_wp2_with fail
 refine wp_loopF (β:=Nat) (fun k f=>#[f 0,f 1,f 2,f 3,f 4,f 5,f 6,.slice (some ⟨g,0,none⟩) (nw N) c,.int .i64 (nw N:Int),.int .i64 (k:Int),f 10,f 11,f 12,f 13,f 14,f 15,f 16,f 17,f 18,f 19,f 20,f 21])
  (fun k ds wr=>k≤nw N∧ds=[]∧Below w.heap.size w wr∧Dn w wr∧∀ i,i < k→wd N i=0) (fun k=>nw N-k) 0 rfl ⟨Nat.zero_le _,rfl,(Below.refl _ _).alloc (Nat.le_refl _) _,Dn.refl _,fun i hi=>by omega⟩ ?_
 rintro k f ds wr ⟨hk,rfl,hb,hd,hz⟩
 dsimp only at hk ⊢
 have HZ:=Lib.hid hz;clear hz
 by_cases hlt:k < nw N
 ·have cN:=((hg.below hb hg.lt).cell k).trans (hcs k hlt)
  have lg:=(hg.below hb hg.lt).lt
  by_cases h0:wd N k=0
  ·have e0:((wd N k:Int) != 0)=false:=by simp [h0]
   have H0:=Lib.hid h0
   clear h0 hcs
   go_wp2_with fail
   exact ⟨k+1,rfl,⟨by omega,by first | rfl | trivial,hb,hd,fun i hi=>by
    by_cases e:i=k
    ·subst e;exact H0.out
    ·exact HZ.out i (by omega)⟩,by omega⟩
  ·obtain ⟨b,hbe,hb64,hbt,hblow,_⟩:=ctz_spec (wd N k) h0 (wd_lt N k)
   have htz:=tz_any (wd N k) h0 (wd_lt N k) wr (fun j hj=>onB hb (hT j hj))
   rw [hbe] at htz
   have hLe:64*k+b=L:=by
    have h1:N.testBit (64*k+b)=true:=by
     have:=hbt;rw [testBit_wd] at this;simp at this;exact this.2
    rcases Nat.lt_trichotomy (64*k+b) L with h | h | h
    ·rw [hlo _ h] at h1;cases h1
    ·exact h
    ·
     exfalso
     have hq:(wd N (L/64)).testBit (L%64)=true:=by
      rw [testBit_wd,show 64*(L/64)+L%64=L by omega,hL];simp;omega
     by_cases hlk:L/64 < k
     ·rw [HZ.out _ hlk] at hq;simp at hq
     ·have e:L/64=k:=by omega
      rw [e,hblow _ (by omega)] at hq;cases hq
   have e0:((wd N k:Int) != 0)=true:=by rw [bne_iff_ne];omega
   have HTZ:=hideC htz
   have HLE:=Lib.hid hLe
   clear h0 hcs htz hbt hblow hbe hlo hL hLe
   go_wp2_with fail
   refine HTZ.out.mono ?_
   rintro e w1 ⟨rfl,rfl⟩
   have e9:(64:Int)*(k:Int)+(b:Int)=(L:Int):=by have:=HLE.out;omega
   go_wp2_with fail
   go_ret2
   exact ⟨by first | rfl | rw [e9],hb,hd⟩
 ·obtain rfl:k=nw N:=by omega
  exact absurd (wd_all HZ.out) hN0
def lecN (N M:Nat):Int:=if N=M then 0 else if lecR N M=true then -1 else 1
theorem lecN_lt (N M:Nat):decide (lecN N M < 0)=lecR N M:=by
 unfold lecN
 by_cases h:N=M
 ·subst h;simp [lecR_irrefl]
 ·rw [if_neg h];cases lecR N M <;> simp
def symD (N M:Nat):Nat:=minusN N M|||minusN M N
theorem testBit_symD (N M i:Nat):(symD N M).testBit i=(N.testBit i != M.testBit i):=by
 unfold symD
 rw [Nat.testBit_or,testBit_minusN,testBit_minusN]
 cases N.testBit i <;> cases M.testBit i <;> rfl
theorem symD_yes {N M L:Nat} (h:(symD N M).testBit L=true):N.testBit L=!M.testBit L:=by
 rw [testBit_symD] at h
 cases h1:N.testBit L <;> cases h2:M.testBit L <;> rw [h1,h2] at h <;> first | rfl | cases h
theorem symD_same {N M j:Nat} (h:(symD N M).testBit j=false):N.testBit j=M.testBit j:=by
 rw [testBit_symD] at h
 cases h1:N.testBit j <;> cases h2:M.testBit j <;> rw [h1,h2] at h <;> first | rfl | cases h
theorem symD_self (N:Nat):symD N N=0:=Nat.eq_of_testBit_eq fun i=>by rw [testBit_symD];simp
theorem symD_low {N M:Nat} (h:N≠M):∃ L,(symD N M).testBit L=true∧∀ j,j < L→(symD N M).testBit j=false:=by
 have h0:symD N M≠0:=fun e=>h (Nat.eq_of_testBit_eq fun i=>by
  have:=testBit_symD N M i
  rw [e,Nat.zero_testBit] at this
  cases h1:N.testBit i <;> cases h2:M.testBit i <;> simp_all)
 obtain ⟨L,h1,h2⟩:=least_ex (p:=fun i=>(symD N M).testBit i=true) _ (Nat.testBit_log2 h0)
 refine ⟨L,h1,fun j hj=>?_⟩
 cases hb:(symD N M).testBit j with
 | false=>rfl
 | true=>have:=h2 j hb;omega
namespace Mix2
theorem lectic_b (v u:Value) (N M:Nat) (w:World) (hs:IsSet w v N) (ho:IsSet w u M) (hT:Tab w) :
  Calls Tryz.prog 136 #[.agg #[v],.agg #[u]] w fun e w'=>e=.returned (.int .i64 (lecN N M))∧Below w.heap.size w w'∧Dn w w':=by
 obtain ⟨A,c,rfl,_⟩:=id hs
 obtain ⟨A',c',rfl,_⟩:=id ho
 go_enter Tryz.func136,Tryz.ntmps136
 go_wp2_with fail
 refine dabs2 fun W0 hA hB hb0 hd0=>?_
 have a0:=hA.cell 0
 have b0:=hB.cell 0
 refine wp_mix (fun V=>Below W0.heap.size W0 V) 13 (by kernel_rfl) (by kernel_rfl) (Below.refl _ _).drew ?_
 have hr:Below W0.heap.size W0 W0.drew:=(Below.refl _ _).drew
 have hd:Dn w W0.drew:=hd0.drew
 obtain ⟨w1,hw⟩:∃ V,V=W0.drew:=⟨_,rfl⟩
 rw [← hw] at hr hd ⊢
 clear hw
 have k:=hb0.trans (hr.mono hb0.size)
 (refine m_q 0 (v:=?_) (by kernel_rfl) rfl rfl (fun W hW=>?_) ?_;rotate_left;(have z0:=onB hW a0;have z1:=onB hW b0;go_simp;first | done | with_reducible rfl);simp only [pt1,pt3,pt4,pt5]);(refine m_q 1 (v:=?_) (by kernel_rfl) rfl rfl (fun W hW=>?_) ?_;rotate_left;(have z0:=onB hW a0;have z1:=onB hW b0;go_simp;first | done | with_reducible rfl);simp only [pt1,pt3,pt4,pt5]);(refine m_q 3 (v:=?_) (by kernel_rfl) rfl rfl (fun W hW=>?_) ?_;rotate_left;(have z0:=onB hW a0;have z1:=onB hW b0;go_simp;first | done | with_reducible rfl);simp only [pt1,pt3,pt4,pt5]);(refine m_q 4 (v:=?_) (by kernel_rfl) rfl rfl (fun W hW=>?_) ?_;rotate_left;(have z0:=onB hW a0;have z1:=onB hW b0;go_simp;first | done | with_reducible rfl);simp only [pt1,pt3,pt4,pt5])
 refine m_s1 2 (by kernel_rfl) rfl ?_
 go_wp2_with fail
 refine (minus_g _ _ N M _ (hs.below k) (ho.below k)).mono ?_
 rintro e w2 ⟨r1,rfl,s1,hb,hd2⟩
 obtain ⟨A1,c1,rfl,_⟩:=id s1
 replace hr:=hr.trans (hb.mono hr.size);replace k:=k.trans (hb.mono k.size);replace hd:=hd.trans hd2
 go_wp2_with fail
 refine m_keep hr ?_
 refine m_s1 5 (by kernel_rfl) rfl ?_
 go_wp2_with fail
 refine (minus_g _ _ M N _ (ho.below k) (hs.below k)).mono ?_
 rintro e w3 ⟨r2,rfl,s2,hb,hd2⟩
 obtain ⟨A2,c2,rfl,_⟩:=id s2
 replace s1:=s1.below hb
 replace hr:=hr.trans (hb.mono hr.size);replace k:=k.trans (hb.mono k.size);replace hd:=hd.trans hd2
 go_wp2_with fail
 refine m_keep hr ?_
 refine m_s1 6 (by kernel_rfl) rfl ?_
 go_wp2_with fail
 refine (or_g _ _ (minusN N M) (minusN M N) _ s1 s2).mono ?_
 rintro e w4 ⟨r3,rfl,s3,hb,hd2⟩
 obtain ⟨A3,c3,rfl,_⟩:=id s3
 replace hr:=hr.trans (hb.mono hr.size);replace k:=k.trans (hb.mono k.size);replace hd:=hd.trans hd2
 go_wp2_with fail
 refine m_keep hr ?_
 have hT4:=hT.below k
 by_cases hne:N=M
 ·subst hne
  have e3:minusN N N|||minusN N N=0:=symD_self N
  rw [e3] at s3 ⊢
  refine m_s1 7 (by kernel_rfl) rfl ?_
  go_wp2_with fail
  refine (least_no _ _ s3).mono ?_
  rintro e w5 ⟨rfl,hb,hd2⟩
  replace hr:=hr.trans (hb.mono hr.size);replace k:=k.trans (hb.mono k.size);replace hd:=hd.trans hd2
  go_wp2_with fail
  refine m_keep hr ?_
  (refine m_q 8 (v:=?_) (by kernel_rfl) rfl rfl (fun W hW=>?_) ?_;rotate_left;(go_simp;first | done | with_reducible rfl);simp only [pt1,pt3,pt4,pt5]);(refine m_q 9 (v:=?_) (by kernel_rfl) rfl rfl (fun W hW=>?_) ?_;rotate_left;(go_simp;first | done | with_reducible rfl);simp only [pt1,pt3,pt4,pt5]);(refine m_q 10 (v:=?_) (by kernel_rfl) rfl rfl (fun W hW=>?_) ?_;rotate_left;(go_simp;first | done | with_reducible rfl);simp only [pt1,pt3,pt4,pt5]);(refine m_q 11 (v:=?_) (by kernel_rfl) rfl rfl (fun W hW=>?_) ?_;rotate_left;(go_simp;first | done | with_reducible rfl);simp only [pt1,pt3,pt4,pt5]);(refine m_q 12 (v:=?_) (by kernel_rfl) rfl rfl (fun W hW=>?_) ?_;rotate_left;(go_simp;first | done | with_reducible rfl);simp only [pt1,pt3,pt4,pt5])
  refine m_end (by kernel_rfl) ?_
  go_wp2_with fail
  go_ret
  exact ⟨ret_int (by unfold lecN;rw [if_pos rfl]),k,hd⟩
 ·obtain ⟨L,hL,hlo⟩:=symD_low hne
  have HLL:=Lib.hid hL;have HLO:=Lib.hid hlo
  have hL4:L≤4095:=by
   by_cases h:L≤4095
   ·exact h
   ·obtain ⟨_,_,_,hn,_⟩:=id s3
    rw [symD,testBit_big hn (by omega)] at hL;cases hL
  clear hL hlo
  refine m_s1 7 (by kernel_rfl) rfl ?_
  go_wp2_with fail
  refine (least_yes _ _ L _ s3 HLL.out HLO.out hT4).mono ?_
  rintro e w5 ⟨rfl,hb,hd2⟩
  replace hr:=hr.trans (hb.mono hr.size);replace k:=k.trans (hb.mono k.size);replace hd:=hd.trans hd2
  go_wp2_with fail
  refine m_keep hr ?_
  (refine m_q 8 (v:=?_) (by kernel_rfl) rfl rfl (fun W hW=>?_) ?_;rotate_left;(go_simp;first | done | with_reducible rfl);simp only [pt1,pt3,pt4,pt5]);(refine m_q 9 (v:=?_) (by kernel_rfl) rfl rfl (fun W hW=>?_) ?_;rotate_left;(go_simp;first | done | with_reducible rfl);simp only [pt1,pt3,pt4,pt5]);(refine m_q 10 (v:=?_) (by kernel_rfl) rfl rfl (fun W hW=>?_) ?_;rotate_left;(go_simp;first | done | with_reducible rfl);simp only [pt1,pt3,pt4,pt5]);(refine m_q 11 (v:=?_) (by kernel_rfl) rfl rfl (fun W hW=>?_) ?_;rotate_left;(go_simp;first | done | with_reducible rfl);simp only [pt1,pt3,pt4,pt5]);(refine m_q 12 (v:=?_) (by kernel_rfl) rfl rfl (fun W hW=>?_) ?_;rotate_left;(go_simp;first | done | with_reducible rfl);simp only [pt1,pt3,pt4,pt5])
  refine m_end (by kernel_rfl) ?_
  have c0:=onB hr b0
  have hho:=ho.below k
  cases hm:M.testBit L with
  | true =>
   have HM:=Lib.hid hm
   have hh:=has_g _ M L w5 hho hL4
   rw [hm] at hh
   have HH:=hideC hh
   clear hm hh
   go_wp2_with fail
   refine HH.out.mono ?_
   rintro e w6 ⟨rfl,hg6⟩
   go_wp2_with fail
   go_ret
   exact ⟨ret_int (by
    have hn:N.testBit L=false:=by rw [symD_yes HLL.out,HM.out];rfl
    have hj:∀ j,j < L→N.testBit j=M.testBit j:=fun j hj=>symD_same (HLO.out j hj)
    unfold lecN
    rw [if_neg hne,if_pos (lecR_at L N M hj hn HM.out)]),k.trans (hg6.below.mono k.size),hd.trans hg6.dn⟩
  | false =>
   have HM:=Lib.hid hm
   have hh:=has_g _ M L w5 hho hL4
   rw [hm] at hh
   have HH:=hideC hh
   clear hm hh
   go_wp2_with fail
   refine HH.out.mono ?_
   rintro e w6 ⟨rfl,hg6⟩
   go_wp2_with fail
   go_ret
   exact ⟨ret_int (by
    have hn:N.testBit L=true:=by rw [symD_yes HLL.out,HM.out];rfl
    have hj:∀ j,j < L→M.testBit j=N.testBit j:=fun j hj=>(symD_same (HLO.out j hj)).symm
    unfold lecN
    rw [if_neg hne,if_neg (by rw [lecR_asymm _ _ (lecR_at L M N hj HM.out hn)];simp)]),k.trans (hg6.below.mono k.size),hd.trans hg6.dn⟩
end Mix2
theorem lectic_g (v u:Value) (N M:Nat) (w:World) (hs:IsSet w v N) (ho:IsSet w u M) (hT:Tab w) :
  Calls Tryz.prog 136 #[.agg #[v],.agg #[u]] w fun e w'=>e=.returned (.int .i64 (lecN N M))∧Gw w w':=by
 refine (Mix2.lectic_b v u N M w hs ho hT).mono ?_
 rintro e w' ⟨rfl,hb,hd⟩
 exact ⟨rfl,Gw.of hb hd⟩
theorem bit_form (n i:Nat) (hn:n < 2 ^ 62):(bits .and .i64 ((n:Int)/2 ^ i) 1 == 1)=n.testBit i:=by
 have e:((n:Int)/2 ^ i)=((n/2 ^ i:Nat):Int):=by simp
 have hx:n/2 ^ i < 2 ^ 63:=Nat.lt_of_le_of_lt (Nat.div_le_self _ _) (by omega)
 have e2:bits .and .i64 ((n/2 ^ i:Nat):Int) 1=((n/2 ^ i%2:Nat):Int):=by
  generalize n/2 ^ i=x at hx
  show IntKind.i64.wrap ((BitVec.ofInt 64 (x:Int)&&&BitVec.ofInt 64 1).toNat:Int)=_
  rw [BitVec.toNat_and,show (BitVec.ofInt 64 1).toNat=2 ^ 1-1 by decide,Nat.and_two_pow_sub_one_eq_mod,IntKind.wrap_i64]
  have:(BitVec.ofInt 64 (x:Int)).toNat=x:=by
   rw [BitVec.toNat_ofInt];omega
  rw [this]
  omega
 rw [e,e2,Bool.eq_iff_iff,← testBit_mod]
 simp only [beq_iff_eq]
 omega
def conP (C:Nat) (Ns:List Nat) (i j:Int):List Nat:=if mhas C Ns i j=true∧card (mrow Ns i)≤12 then conL C Ns i.toNat j.toNat else []
def tryS (j:Nat) (K n:Nat):Nat:=2 ^ j|||subN (mems K) n
def candL (C:Nat) (Ns:List Nat) (j K:Nat) (n:Nat):List Nat:=((List.range n).map (tryS j K)).filter fun s=>decide (cloN C Ns s=s&&&lowN C)
theorem candL_succ (C:Nat) (Ns:List Nat) (j K n:Nat):candL C Ns j K (n+1)=if cloN C Ns (tryS j K n)=tryS j K n&&&lowN C then candL C Ns j K n ++ [tryS j K n] else candL C Ns j K n:=by
 unfold candL
 rw [List.range_succ,List.map_append,List.filter_append]
 by_cases h:cloN C Ns (tryS j K n)=tryS j K n&&&lowN C
 ·rw [if_pos h];simp [h]
 ·rw [if_neg h];simp [h]
theorem candL_le (C:Nat) (Ns:List Nat) (j K n:Nat):(candL C Ns j K n).length≤n:=by
 unfold candL;exact Nat.le_trans (List.length_filter_le _ _) (by simp)
theorem tryS_bit (j K n x:Nat):(tryS j K n).testBit x=true↔x=j∨(subN (mems K) n).testBit x=true:=by
 unfold tryS
 rw [Nat.testBit_or,Bool.or_eq_true,Nat.testBit_two_pow,decide_eq_true_eq]
 constructor <;> rintro (h | h) <;> simp [h]
section
variable {C:Nat} {Ns:List Nat} {i j D K:Nat}
theorem tryS_inj (hK:K.testBit j=false) {n m:Nat} (hn:n < 2 ^ (mems K).length) (hm:m < 2 ^ (mems K).length) (h:tryS j K n=tryS j K m):n=m:=by
 have key:∀ x,(subN (mems K) x).testBit j=false:=fun x=>by
  cases hb:(subN (mems K) x).testBit j with
  | false=>rfl
  | true=>have:=subN_mems K x hb;rw [hK] at this;cases this
 refine subN_inj hn hm (nat_ext fun y=>?_)
 have h1:=tryS_bit j K n y
 rw [h,tryS_bit] at h1
 by_cases e:y=j
 ·subst e;rw [key,key]
 ·simp only [e,false_or] at h1;exact h1.symm
theorem candL_nodup (hK:K.testBit j=false):(candL C Ns j K (2 ^ (mems K).length)).Nodup:=by
 unfold candL
 refine List.Pairwise.filter _ ?_
 rw [List.pairwise_map]
 have h:(List.range (2 ^ (mems K).length)).Pairwise (fun a b=>a < b):=List.pairwise_lt_range
 refine h.imp_of_mem fun {a b} ha hb hab e=>?_
 have:=tryS_inj hK (List.mem_range.1 ha) (List.mem_range.1 hb) e
 omega
theorem mem_candL (hl:Ns.length≤4096) (hi:i < Ns.length) (hD:∀ x,D.testBit x=true↔(Ns.getD i 0).testBit x=true) (hDC:∀ x,D.testBit x=true→x < C) (hj:D.testBit j=true) (hK:∀ x,K.testBit x=true↔D.testBit x=true∧x≠j) (s:Nat) :
  s∈candL C Ns j K (2 ^ (mems K).length)↔s∈conL C Ns i j:=by
 have hin:∀ s,(∀ x,s.testBit x=true→x < C)→((havN C Ns s).testBit i=true↔∀ x,s.testBit x=true→D.testBit x=true):=fun s hs=>by
  rw [testBit_havN C Ns hl]
  exact ⟨fun h x hx=>(hD x).2 (h.2 x hx (hs x hx)),fun h=>⟨hi,fun x hx _=>(hD x).1 (h x hx)⟩⟩
 have hlow:∀ s,(∀ x,s.testBit x=true→x < C)→s&&&lowN C=s:=fun s hs=>nat_ext fun x=>by
  rw [Nat.testBit_and,testBit_lowN,Bool.and_eq_true,decide_eq_true_eq]
  exact ⟨fun h=>h.1,fun h=>⟨h,hs x h⟩⟩
 rw [mem_conL]
 unfold candL inC
 rw [List.mem_filter,List.mem_map,decide_eq_true_eq,Bool.and_eq_true,Bool.and_eq_true,decide_eq_true_eq]
 constructor
 ·rintro ⟨⟨n,hn,rfl⟩,hc⟩
  have hsub:∀ x,(tryS j K n).testBit x=true→D.testBit x=true:=fun x hx=>by
   rcases (tryS_bit j K n x).1 hx with rfl | h
   ·exact hj
   ·exact ((hK x).1 (subN_mems K n h)).1
  have hsc:∀ x,(tryS j K n).testBit x=true→x < C:=fun x hx=>hDC x (hsub x hx)
  rw [hlow _ hsc] at hc
  exact ⟨⟨hc,(tryS_bit j K n j).2 (Or.inl rfl)⟩,(hin _ hsc).2 hsub⟩
 ·rintro ⟨⟨hc,hjs⟩,hi'⟩
  have hsc:∀ x,s.testBit x=true→x < C:=fun x hx=>comN_lt (by rw [cloN] at hc;rw [hc];exact hx)
  have hsub:=(hin s hsc).1 hi'
  refine ⟨?_,by rw [hlow _ hsc];exact hc⟩
  obtain ⟨n,hn,e⟩:=subN_onto (K:=K) (S:=s&&&K) fun x hx=>by rw [Nat.testBit_and,Bool.and_eq_true] at hx;exact hx.2
  refine ⟨n,List.mem_range.2 hn,nat_ext fun x=>?_⟩
  rw [tryS_bit,e,Nat.testBit_and,Bool.and_eq_true]
  constructor
  ·rintro (rfl | h)
   ·exact hjs
   ·exact h.1
  ·intro hx
   by_cases ex:x=j
   ·exact Or.inl ex
   ·exact Or.inr ⟨hx,(hK x).2 ⟨hsub x hx,ex⟩⟩
end
theorem lec_of {Ls K:List Nat} (hp:Ls.Perm K) (hK:K.Nodup) (h:Ls.Pairwise (fun a b=>lecR b a=false)):Lec Ls:=by
 have hn:Ls.Pairwise (·≠·):=hp.nodup_iff.2 hK
 exact (hn.and h).imp fun {a b} hab=>lecR_total b a (Ne.symm hab.1) hab.2
theorem mhas_parts {C:Nat} {Ns:List Nat} {i j:Int} (h:mhas C Ns i j=true):∃ a b:Nat,i=a∧j=b∧a < Ns.length∧b < C∧(Ns.getD a 0).testBit b=true:=by
 unfold mhas insideB at h
 rw [Bool.and_eq_true,decide_eq_true_eq] at h
 exact ⟨i.toNat,j.toNat,by omega,by omega,by omega,by omega,h.2⟩
theorem res3 {P:Program} {f:FuncId} {args:Array Value} {w:World} {N N':Nat} (hN:N=N') (h:Calls P f args w fun e w'=>∃ r,e=.returned (.agg #[r])∧IsSet w' r N∧Below w.heap.size w w') :
  Calls P f args w fun e w'=>∃ A n c,e=.returned (.agg #[.slice A n c])∧IsSet w' (.slice A n c) N'∧Below w.heap.size w w':=by
 refine h.mono ?_
 rintro e w' ⟨r,rfl,hr,hb⟩
 obtain ⟨A,c,rfl,_⟩:=id hr
 rw [← hN]
 exact ⟨_,_,_,rfl,hr,hb⟩
theorem has_v {w:World} {m:Option Addr} {C:Nat} {Ns:List Nat} (h:IsMV w m C Ns) (i j:Int) :
  Calls Tryz.prog 99 #[.pointer m,.int .i64 i,.int .i64 j] w fun e w'=>e=.returned (.bool (mhas C Ns i j))∧Below w.heap.size w w':=by
 rcases h with ⟨rfl,rfl,rfl⟩ | ⟨p,rfl,h⟩
 ·refine (hasm_nil i j w).mono ?_
  rintro e w' ⟨rfl,rfl⟩
  refine ⟨ret_bool ?_,Below.refl _ _⟩
  rw [eq_comm];unfold mhas insideB;rw [decide_eq_false (by simp)];rfl
 ·exact hasm_any p C Ns i j w h
theorem conc_no (m:Option Addr) (C:Nat) (Ns:List Nat) (i j:Int) (w:World) (h:IsMV w m C Ns) (hn:¬ (mhas C Ns i j=true∧card (mrow Ns i)≤12)) :
  Calls Tryz.prog 92 #[.pointer m,.int .i64 i,.int .i64 j] w fun e w'=>e=.returned (.slice none 0 0)∧Below w.heap.size w w':=by
 have HH:=hideC (has_v h i j)
 go_enter Tryz.func92,Tryz.ntmps92
 go_wp2_with fail
 refine HH.out.mono ?_
 cases hm:mhas C Ns i j with
 | false =>
  rintro e w1 ⟨rfl,hb⟩
  go_wp2_with fail
  go_ret
  exact ⟨rfl,hb⟩
 | true =>
  rw [hm] at hn
  have hc:12 < card (mrow Ns i):=by simpa using hn
  obtain ⟨a,b,rfl,rfl,ha,hb',_⟩:=mhas_parts hm
  rintro e w1 ⟨rfl,hb⟩
  have hrow:=row_v (h.below hb) ha
  rw [mrow,if_pos (by omega),Int.toNat_natCast] at hc
  generalize Ns.getD a 0=D at hrow hc
  have HR:=hideC hrow
  clear hm hn hrow
  go_wp2_with fail
  refine HR.out.mono ?_
  rintro e w2 ⟨r,rfl,hr,hb2⟩
  have HL:=hideC (len_any _ _ w2 hr)
  obtain ⟨cd,hcd⟩:∃ x,x=card D:=⟨_,rfl⟩
  rw [← hcd] at HL hc
  clear hcd
  obtain ⟨A,c,rfl,_⟩:=id hr
  have b2:=hb.trans (hb2.mono hb.size)
  go_wp2_with fail
  refine HL.out.mono ?_
  rintro e w3 ⟨rfl,hb3⟩
  go_wp2_with fail
  go_ret
  exact ⟨rfl,b2.trans (hb3.mono b2.size)⟩
theorem card_mem_le (K x:Nat) (h:K.testBit x=true) (w:World) (A:Option Addr) (n c:Nat) (hs:IsSet w (.slice A n c) K):x≤4095:=by
 by_cases hh:x≤4095
 ·exact hh
 ·obtain ⟨_,_,_,hnk,_⟩:=id hs
  rw [testBit_big hnk (by omega)] at h;cases h
theorem cells_int2:Tryz.prog.cellsOf 3=1:=by kernel_rfl
theorem plain_int2:Tryz.prog.plainKey 3=true:=by kernel_rfl
theorem int_eqr (d:Nat) (x y:Int) (W:World):(Op.equalIn (d+1) 3 (.int .i64 x) (.int .i64 y)).run Tryz.prog W=.ok (x == y) W:=by
 have:=run_equalIn_int (P:=Tryz.prog) W d 3 .i64 .i64 x y Tryz.underlying3
 exact this
theorem pair_run (a b:Int×Int) (W:World):(Op.equalIn 10000 117 (.agg #[.int .i64 a.1,.int .i64 a.2]) (.agg #[.int .i64 b.1,.int .i64 b.2])).run Tryz.prog W=.ok (decide (a=b)) W:=by
 obtain ⟨i0,hi0,hz0,hz1,hz2⟩:=info_parts info_int
 rw [show (10000:Nat)=9998+1+1 from rfl,run_equalIn_array (w:=W) (9998+1) _ _ Tryz.underlying117 hi0,cells_int2]
 have h0:List.range 2=[0,1]:=by decide
 rw [h0]
 have p0:∀ c:Int×Int,(Go.part 3 #[.int .i64 c.1,.int .i64 c.2] 0).run Tryz.prog W=.ok (.int .i64 c.1) W:=fun c=>run_part_plain W plain_int2 rfl
 have p1:∀ c:Int×Int,(Go.part 3 #[.int .i64 c.1,.int .i64 c.2] 1).run Tryz.prog W=.ok (.int .i64 c.2) W:=fun c=>run_part_plain W plain_int2 rfl
 simp only [Op.eqItems,Sem.run_bind,Nat.zero_mul,Nat.one_mul,p0,Result.andThen_ok,int_eqr]
 have e:a=b↔a.1=b.1∧a.2=b.2:=Prod.ext_iff
 by_cases h1:a.1=b.1
 ·by_cases h2:a.2=b.2
  ·rw [decide_eq_true (e.2 ⟨h1,h2⟩),beq_iff_eq.2 h1,if_neg (by decide)]
   simp only [Sem.run_bind,p1,Result.andThen_ok,int_eqr]
   rw [beq_iff_eq.2 h2];rfl
  ·rw [decide_eq_false (fun h=>h2 (e.1 h).2),beq_iff_eq.2 h1,if_neg (by decide)]
   simp only [Sem.run_bind,p1,Result.andThen_ok,int_eqr]
   rw [beq_eq_false_iff_ne.2 h2];rfl
 ·rw [decide_eq_false (fun h=>h1 (e.1 h).1),beq_eq_false_iff_ne.2 h1];rfl
def cellsP (l:List (Int×Int)):List Value:=l.flatMap fun c=>[.int .i64 c.1,.int .i64 c.2]
theorem cellsP_app (l m:List (Int×Int)):cellsP (l ++ m)=cellsP l ++ cellsP m:=by unfold cellsP;rw [List.flatMap_append]
theorem cellsP_len (l:List (Int×Int)):(cellsP l).length=2*l.length:=by
 induction l with
 | nil=>rfl
 | cons c l ih=>unfold cellsP at *;rw [List.flatMap_cons,List.length_append,ih];simp;omega
theorem cellsP_get:∀ (l:List (Int×Int)) {k:Nat} {c:Int×Int},l[k]?=some c→(cellsP l)[2*k]?=some (.int .i64 c.1)∧(cellsP l)[2*k+1]?=some (.int .i64 c.2)
 | [],_,_,h=>by simp at h
 | d :: l,0,c,h=>by
  obtain rfl:d=c:=by simpa using h
  exact ⟨rfl,rfl⟩
 | d :: l,k+1,c,h=>by
  have ih:=cellsP_get l (k:=k) (c:=c) (by simpa using h)
  unfold cellsP at *
  rw [List.flatMap_cons]
  exact ⟨by rw [show 2*(k+1)=(2*k)+1+1 by omega];exact ih.1,by rw [show 2*(k+1)+1=(2*k+1)+1+1 by omega];exact ih.2⟩
def IsPairs (w:World) (v:Value) (l:List (Int×Int)):Prop:=∃ A c,v=.slice A l.length c∧Row w A (cellsP l)∧l.length≤c∧l.length≤1000000
theorem IsPairs.below {w w':World} {v:Value} {l:List (Int×Int)} (h:IsPairs w v l) (hb:Below w.heap.size w w'):IsPairs w' v l:=by
 obtain ⟨A,c,h1,h2,h3⟩:=h;exact ⟨A,c,h1,h2.below hb,h3⟩
theorem row_pairs {w:World} {A:Option Addr} {l:List (Int×Int)} (h:Row w A (cellsP l)) {k:Nat} {c:Int×Int} (hk:l[k]?=some c) :
  ∃ g off,A=some ⟨g,off,none⟩∧g < w.heap.size∧w.cell? ⟨g,off+k*2,none⟩=some (.int .i64 c.1)∧w.cell? ⟨g,off+k*2+1,none⟩=some (.int .i64 c.2):=by
 have hlt:=(List.getElem?_eq_some_iff.1 hk).1
 obtain ⟨g,off,rfl,hg,hc⟩:=h (by rw [cellsP_len];omega)
 obtain ⟨h1,h2⟩:=cellsP_get l hk
 have e1:=hc _ _ h1
 have e2:=hc _ _ h2
 rw [← Nat.add_assoc] at e2
 rw [Nat.mul_comm] at e1 e2
 exact ⟨g,off,rfl,hg,e1,e2⟩
theorem independent_any (m:Option Addr) (C:Nat) (Ns:List Nat) (a b:Int×Int) (w:World) (h:IsMV w m C Ns) :
  Calls Tryz.prog 53 #[.pointer m,.agg #[.int .i64 a.1,.int .i64 a.2],.agg #[.int .i64 b.1,.int .i64 b.2]] w fun e w'=>e=.returned (.bool (indep C Ns a b))∧Below w.heap.size w w':=by
 obtain ⟨x,hx⟩:∃ x,x=mhas C Ns a.1 b.2:=⟨_,rfl⟩
 obtain ⟨y,hy⟩:∃ y,y=mhas C Ns b.1 a.2:=⟨_,rfl⟩
 have hI:indep C Ns a b=(!x||!y):=by rw [hx,hy];rfl
 rw [hI]
 have h1:∀ W,Below w.heap.size w W→_:=fun W hb=>has_v (h.below hb) a.1 b.2
 have h2:∀ W,Below w.heap.size w W→_:=fun W hb=>has_v (h.below hb) b.1 a.2
 rw [← hx] at h1
 rw [← hy] at h2
 have HH:=Lib.hid h1;have H2:=Lib.hid h2
 clear h1 h2 hx hy hI
 go_enter Tryz.func53,Tryz.ntmps53
 go_wp2_with fail
 refine absC2 fun W0 hA hB hb0 hz=>?_
 have a0:=hA.cell 0
 have a1:=hA.cell 1
 have b0:=hB.cell 0
 have b1:=hB.cell 1
 cases x with
 | false =>
  refine (HH.out _ hb0).mono ?_
  rintro e w1 ⟨rfl,hb⟩
  go_wp2_with fail
  go_ret
  exact ⟨rfl,hb0.trans (hb.mono hb0.size)⟩
 | true =>
  refine (HH.out _ hb0).mono ?_
  rintro e w1 ⟨rfl,hb⟩
  have k:=hb0.trans (hb.mono hb0.size)
  have c0:=onB hb a0
  have c1:=onB hb a1
  have d0:=onB hb b0
  have d1:=onB hb b1
  clear a0 a1 b0 b1
  go_wp2_with fail
  refine (H2.out _ k).mono ?_
  rintro e w2 ⟨rfl,hb2⟩
  go_wp2_with fail
  go_ret
  exact ⟨rfl,k.trans (hb2.mono k.size)⟩
def goodP (C:Nat) (Ns:List Nat) (a b:Int×Int):Bool:=decide (a≠b)&&indep C Ns a b
theorem apartB_iff (C:Nat) (Ns:List Nat) (l:List (Int×Int)):apartB C Ns l=true↔∀ (y z:Nat) (a b:Int×Int),z < y→l[y]?=some a→l[z]?=some b→goodP C Ns a b=true:=by
 unfold apartB goodP
 rw [decide_eq_true_eq,List.pairwise_iff_getElem]
 constructor
 ·intro h y z a b hzy ha hb
  obtain ⟨ly,ea⟩:=List.getElem?_eq_some_iff.1 ha
  obtain ⟨lz,eb⟩:=List.getElem?_eq_some_iff.1 hb
  have:=h z y lz ly hzy
  rw [ea,eb] at this
  rw [Bool.and_eq_true,decide_eq_true_eq];exact this
 ·intro h z y lz ly hzy
  have:=h y z _ _ hzy (List.getElem?_eq_getElem ly) (List.getElem?_eq_getElem lz)
  rw [Bool.and_eq_true,decide_eq_true_eq] at this;exact this
theorem apart_any (m:Option Addr) (C:Nat) (Ns:List Nat) (v:Value) (l:List (Int×Int)) (w:World) (h:IsMV w m C Ns) (hp:IsPairs w v l) :
  Calls Tryz.prog 90 #[.pointer m,v] w fun e w'=>e=.returned (.bool (apartB C Ns l))∧Below w.heap.size w w':=by
 obtain ⟨A,c,rfl,hrow,hlc,hlm⟩:=hp
 go_enter Tryz.func90,Tryz.ntmps90
 go_wp2_with fail
 refine wp_loopF (β:=Nat) (fun i f=>#[.pointer m,.slice A l.length c,f 2,f 3,.bool false,f 5,f 6,f 7,f 8,.slice A l.length c,.int .i64 (l.length:Int),.int .i64 (i:Int),f 12,f 13,f 14,f 15,f 16,f 17,f 18,f 19,f 20,f 21,f 22,f 23,f 24,f 25,f 26,f 27,f 28,f 29,f 30,f 31,f 32,f 33,f 34,f 35])
  (fun i ds W=>i≤l.length∧ds=[]∧Below w.heap.size w W∧∀ (y z:Nat) (a b:Int×Int),y < i→z < y→l[y]?=some a→l[z]?=some b→goodP C Ns a b=true) (fun i=>l.length-i) 0 rfl
  ⟨Nat.zero_le _,rfl,Below.refl _ _,fun y z a b hy=>by omega⟩ ?_
 rintro i f ds W ⟨hi,rfl,hb,hgood⟩
 dsimp only at hi ⊢
 have HG:=Lib.hid hgood
 clear hgood
 by_cases hlt:i < l.length
 ·obtain ⟨a,ha⟩:∃ a,l[i]?=some a:=⟨_,List.getElem?_eq_getElem hlt⟩
  obtain ⟨g,off,rfl,hg,c0,c1⟩:=row_pairs (hrow.below hb) ha
  have hic:i≤c:=by omega
  go_wp2_with fail
  refine abs1 fun W1 hA1 hb1 hz1=>?_
  have hb':=hb.trans (hb1.mono hb.size)
  obtain ⟨q,hq⟩:∃ q,q=W.heap.size:=⟨_,rfl⟩
  rw [← hq] at hA1 ⊢
  clear hq c0 c1 hz1
  refine wp_loopF (β:=Nat) (fun z f=>#[.pointer m,.slice (some ⟨g,off,none⟩) l.length c,f 2,f 3,.bool false,.int .i64 (i:Int),.pointer (some ⟨q,0,none⟩),f 7,f 8,.slice (some ⟨g,off,none⟩) l.length c,.int .i64 (l.length:Int),.int .i64 (i:Int),f 12,f 13,f 14,f 15,f 16,f 17,.slice (some ⟨g,off,none⟩) i c,.int .i64 (i:Int),.int .i64 (z:Int),f 21,f 22,f 23,f 24,f 25,f 26,f 27,f 28,f 29,f 30,f 31,f 32,f 33,f 34,f 35])
   (fun z ds V=>z≤i∧ds=[]∧Below W1.heap.size W1 V∧∀ (y:Nat) (b:Int×Int),y < z→l[y]?=some b→goodP C Ns a b=true) (fun z=>i-z) 0 rfl
   ⟨Nat.zero_le _,rfl,Below.refl _ _,fun y b hy=>by omega⟩ ?_
  rintro z f ds V ⟨hz,rfl,hbV,hgz⟩
  dsimp only at hz ⊢
  have HGZ:=Lib.hid hgz
  clear hgz
  have kV:=hb'.trans (hbV.mono hb'.size)
  by_cases hzi:z < i
  ·obtain ⟨b,hbe⟩:∃ b,l[z]?=some b:=⟨_,List.getElem?_eq_getElem (by omega)⟩
   obtain ⟨g2,off2,e2,hg2,d0,d1⟩:=row_pairs (hrow.below kV) hbe
   cases e2
   have hAV:=hA1.below hbV hA1.lt
   have a0:=hAV.cell 0
   have a1:=hAV.cell 1
   have lA:=hAV.lt
   have HI:=hideC (fun W hW=>independent_any m C Ns a b W (h.below (w':=W) hW))
   have hgp:goodP C Ns a b=(decide (a≠b)&&indep C Ns a b):=rfl
   obtain ⟨x,hx⟩:∃ x,x=indep C Ns a b:=⟨_,rfl⟩
   rw [← hx] at HI hgp
   have HGP:=Lib.hid hgp
   clear hgp hx
   have hpr:=fun W=>pair_run a b W
   by_cases hab:a=b
   ·have hd:decide (a=b)=true:=decide_eq_true hab
    rw [hd] at hpr
    have hbad:goodP C Ns a b=false:=by rw [HGP.out,decide_eq_false (fun h=>h hab)];rfl
    have hno:apartB C Ns l=false:=by
     rw [Bool.eq_false_iff];intro hh
     have:=(apartB_iff C Ns l).1 hh i z a b hzi ha hbe
     rw [hbad] at this;cases this
    have HNO:=Lib.hid hno
    clear hd hbad hno HI hab ha hbe
    go_wp2_with fail
    go_ret
    exact ⟨by rw [HNO.out];rfl,(kV.alloc kV.size _)⟩
   ·have hd:decide (a=b)=false:=decide_eq_false hab
    rw [hd] at hpr
    have hg2:=HGP.out
    rw [decide_eq_true hab,Bool.true_and] at hg2
    have HGP:=Lib.hid hg2
    clear hd hab hg2
    go_wp2_with fail
    refine absC1 fun V1 hB1 hb8 hz8=>?_
    have k1:=kV.trans (hb8.mono kV.size)
    refine (HI.out V1 k1).mono ?_
    rintro e V2 ⟨rfl,hb9⟩
    have k2:=hbV.trans ((hb8.trans (hb9.mono hb8.size)).mono hbV.size)
    have k3:=k1.trans (hb9.mono k1.size)
    cases x with
    | true =>
     have hn:∀ (y:Nat) (b':Int×Int),y < z+1→l[y]?=some b'→goodP C Ns a b'=true:=fun y b' hy h1=>by
      by_cases e:y=z
      ·subst e
       rw [hbe] at h1;cases h1
       exact HGP.out
      ·exact HGZ.out y b' (by omega) h1
     have HN:=Lib.hid hn
     clear hn hbe ha
     go_wp2_with fail
     exact ⟨z+1,rfl,⟨by omega,by first | rfl | trivial,k2,HN.out⟩,by omega⟩
    | false =>
     have hno:apartB C Ns l=false:=by
      rw [Bool.eq_false_iff];intro hh
      have:=(apartB_iff C Ns l).1 hh i z a b hzi ha hbe
      rw [HGP.out] at this;cases this
     have HNO:=Lib.hid hno
     clear hno ha hbe
     go_wp2_with fail
     go_ret
     exact ⟨by rw [HNO.out];rfl,k3⟩
  ·obtain rfl:z=i:=by omega
   have hnext:∀ (y z':Nat) (a' b':Int×Int),y < z+1→z' < y→l[y]?=some a'→l[z']?=some b'→goodP C Ns a' b'=true:=fun y z' a' b' hy hz' h1 h2=>by
    by_cases e:y=z
    ·subst e
     rw [ha] at h1;cases h1
     exact HGZ.out z' b' hz' h2
    ·exact HG.out y z' a' b' (by omega) hz' h1 h2
   have HN:=Lib.hid hnext
   clear hnext ha
   go_wp2_with fail
   exact ⟨z+1,rfl,⟨by omega,by first | rfl | trivial,kV,HN.out⟩,by omega⟩
 ·obtain rfl:i=l.length:=by omega
  have hyes:apartB C Ns l=true:=(apartB_iff C Ns l).2 fun y z a b hzy ha hb=>HG.out y z a b (List.getElem?_eq_some_iff.1 ha).1 hzy ha hb
  have HY:=Lib.hid hyes
  clear hyes
  go_wp2_with fail
  go_ret
  exact ⟨by rw [HY.out];rfl,hb⟩
theorem index_node (cp fv:Value) (hfv:fv=.func (.func 89) #[] #[cp]) (p:Int×Int→Bool) (v:Value) (l:List (Int×Int)) (w:World) (hp:IsPairs w v l)
  (hf:∀ W,Below w.heap.size w W→∀ c,Calls Tryz.prog 89 #[.agg #[.int .i64 c.1,.int .i64 c.2],cp] W fun e w'=>e=.returned (.bool (p c))∧Below W.heap.size W w') :
  Calls Tryz.prog 133 #[v,fv] w fun e w'=>∃ r:Int,e=.returned (.int .i64 r)∧decide (0≤r)=l.any p∧Below w.heap.size w w':=by
 obtain ⟨A,c,rfl,hrow,hlc,hlm⟩:=hp
 have HF:=Lib.hid hf
 clear hf
 go_enter Tryz.func133,Tryz.ntmps133
 go_wp2_with fail
 refine wp_loopF (β:=Nat) (fun i f=>#[.slice A l.length c,fv,f 2,f 3,.int .i64 0,f 5,f 6,.int .i64 (l.length:Int),.int .i64 (i:Int),f 9,f 10,f 11,f 12,f 13,f 14,f 15,f 16,f 17,f 18])
  (fun i ds W=>i≤l.length∧ds=[]∧Below w.heap.size w W∧(l.take i).any p=false) (fun i=>l.length-i) 0 rfl
  ⟨Nat.zero_le _,rfl,Below.refl _ _,by simp⟩ ?_
 rintro i f ds W ⟨hi,rfl,hb,hno⟩
 dsimp only at hi ⊢
 have HN:=Lib.hid hno
 clear hno
 by_cases hlt:i < l.length
 ·obtain ⟨a,ha⟩:∃ a,l[i]?=some a:=⟨_,List.getElem?_eq_getElem hlt⟩
  obtain ⟨g,off,rfl,hg,c0,c1⟩:=row_pairs (hrow.below hb) ha
  have hc:=HF.out W hb a
  obtain ⟨x,hx⟩:∃ x,x=p a:=⟨_,rfl⟩
  rw [← hx] at hc
  have HC:=hideC hc
  have htk:(l.take (i+1)).any p=x:=by
   rw [List.take_add_one,List.any_append,HN.out,ha,hx];simp
  have HT:=Lib.hid htk
  clear hc htk hx
  have HA:=Lib.hid ha
  clear ha
  subst hfv
  go_wp2_with fail
  refine HC.out.mono ?_
  rintro e w1 ⟨rfl,hb1⟩
  have k1:=hb.trans (hb1.mono hb.size)
  cases x with
  | true =>
   go_wp2_with fail
   go_ret
   refine ⟨(i:Int),rfl,?_,k1⟩
   rw [decide_eq_true (by omega),eq_comm,List.any_eq_true]
   have:=HT.out
   rw [List.any_eq_true] at this
   obtain ⟨y,hy,hp⟩:=this
   exact ⟨y,List.mem_of_mem_take hy,hp⟩
  | false =>
   go_wp2_with fail
   exact ⟨i+1,rfl,⟨by omega,by first | rfl | trivial,k1,HT.out⟩,by omega⟩
 ·obtain rfl:i=l.length:=by omega
  have hn:=HN.out
  rw [List.take_length] at hn
  have HN2:=Lib.hid hn
  clear hn
  go_wp2_with fail
  go_ret
  exact ⟨-1,rfl,by rw [HN2.out];rfl,hb⟩
theorem contains_node (cp:Value) (p:Int×Int→Bool) (v:Value) (l:List (Int×Int)) (w:World) (hp:IsPairs w v l)
  (hf:∀ W,Below w.heap.size w W→∀ c,Calls Tryz.prog 89 #[.agg #[.int .i64 c.1,.int .i64 c.2],cp] W fun e w'=>e=.returned (.bool (p c))∧Below W.heap.size W w') :
  Calls Tryz.prog 88 #[v,.func (.func 89) #[] #[cp]] w fun e w'=>e=.returned (.bool (l.any p))∧Below w.heap.size w w':=by
 have HI:=hideC (index_node cp _ rfl p v l w hp hf)
 obtain ⟨x,hx⟩:∃ x,x=l.any p:=⟨_,rfl⟩
 rw [← hx] at HI ⊢
 clear hx
 obtain ⟨A,c,rfl,_⟩:=id hp
 go_enter Tryz.func88,Tryz.ntmps88
 go_wp2_with fail
 refine HI.out.mono ?_
 rintro e w1 ⟨r,rfl,hr,hb⟩
 have HR:=Lib.hid hr
 clear hr
 go_wp2_with fail
 go_ret
 exact ⟨ret_bool HR.out,hb⟩
theorem index_fool (cp fv:Value) (hfv:fv=.func (.func 176) #[] #[cp]) (p:Int×Int→Bool) (v:Value) (l:List (Int×Int)) (w:World) (hp:IsPairs w v l)
  (hf:∀ W,Below w.heap.size w W→∀ c,Calls Tryz.prog 176 #[.agg #[.int .i64 c.1,.int .i64 c.2],cp] W fun e w'=>e=.returned (.bool (p c))∧Below W.heap.size W w') :
  Calls Tryz.prog 133 #[v,fv] w fun e w'=>∃ r:Int,e=.returned (.int .i64 r)∧decide (0≤r)=l.any p∧Below w.heap.size w w':=by
 obtain ⟨A,c,rfl,hrow,hlc,hlm⟩:=hp
 have HF:=Lib.hid hf
 clear hf
 go_enter Tryz.func133,Tryz.ntmps133
 go_wp2_with fail
 refine wp_loopF (β:=Nat) (fun i f=>#[.slice A l.length c,fv,f 2,f 3,.int .i64 0,f 5,f 6,.int .i64 (l.length:Int),.int .i64 (i:Int),f 9,f 10,f 11,f 12,f 13,f 14,f 15,f 16,f 17,f 18])
  (fun i ds W=>i≤l.length∧ds=[]∧Below w.heap.size w W∧(l.take i).any p=false) (fun i=>l.length-i) 0 rfl
  ⟨Nat.zero_le _,rfl,Below.refl _ _,by simp⟩ ?_
 rintro i f ds W ⟨hi,rfl,hb,hno⟩
 dsimp only at hi ⊢
 have HN:=Lib.hid hno
 clear hno
 by_cases hlt:i < l.length
 ·obtain ⟨a,ha⟩:∃ a,l[i]?=some a:=⟨_,List.getElem?_eq_getElem hlt⟩
  obtain ⟨g,off,rfl,hg,c0,c1⟩:=row_pairs (hrow.below hb) ha
  have hc:=HF.out W hb a
  obtain ⟨x,hx⟩:∃ x,x=p a:=⟨_,rfl⟩
  rw [← hx] at hc
  have HC:=hideC hc
  have htk:(l.take (i+1)).any p=x:=by
   rw [List.take_add_one,List.any_append,HN.out,ha,hx];simp
  have HT:=Lib.hid htk
  clear hc htk hx
  have HA:=Lib.hid ha
  clear ha
  subst hfv
  go_wp2_with fail
  refine HC.out.mono ?_
  rintro e w1 ⟨rfl,hb1⟩
  have k1:=hb.trans (hb1.mono hb.size)
  cases x with
  | true =>
   go_wp2_with fail
   go_ret
   refine ⟨(i:Int),rfl,?_,k1⟩
   rw [decide_eq_true (by omega),eq_comm,List.any_eq_true]
   have:=HT.out
   rw [List.any_eq_true] at this
   obtain ⟨y,hy,hp⟩:=this
   exact ⟨y,List.mem_of_mem_take hy,hp⟩
  | false =>
   go_wp2_with fail
   exact ⟨i+1,rfl,⟨by omega,by first | rfl | trivial,k1,HT.out⟩,by omega⟩
 ·obtain rfl:i=l.length:=by omega
  have hn:=HN.out
  rw [List.take_length] at hn
  have HN2:=Lib.hid hn
  clear hn
  go_wp2_with fail
  go_ret
  exact ⟨-1,rfl,by rw [HN2.out];rfl,hb⟩
theorem contains_fool (cp:Value) (p:Int×Int→Bool) (v:Value) (l:List (Int×Int)) (w:World) (hp:IsPairs w v l)
  (hf:∀ W,Below w.heap.size w W→∀ c,Calls Tryz.prog 176 #[.agg #[.int .i64 c.1,.int .i64 c.2],cp] W fun e w'=>e=.returned (.bool (p c))∧Below W.heap.size W w') :
  Calls Tryz.prog 88 #[v,.func (.func 176) #[] #[cp]] w fun e w'=>e=.returned (.bool (l.any p))∧Below w.heap.size w w':=by
 have HI:=hideC (index_fool cp _ rfl p v l w hp hf)
 obtain ⟨x,hx⟩:∃ x,x=l.any p:=⟨_,rfl⟩
 rw [← hx] at HI ⊢
 clear hx
 obtain ⟨A,c,rfl,_⟩:=id hp
 go_enter Tryz.func88,Tryz.ntmps88
 go_wp2_with fail
 refine HI.out.mono ?_
 rintro e w1 ⟨r,rfl,hr,hb⟩
 have HR:=Lib.hid hr
 clear hr
 go_wp2_with fail
 go_ret
 exact ⟨ret_bool HR.out,hb⟩
def hasO (Os:List Nat) (i j:Int):Bool:=decide (0≤i)&&decide (i < Os.length)&&hasB (Os.getD i.toNat 0) j
def IsOpen (w:World) (g:Nat) (Os:List Nat):Prop:=∃ A c vs,Blk w g 67 #[.slice A Os.length c]∧Row w A vs∧Sets w vs Os∧Os.length≤c
theorem IsOpen.below {w w':World} {g:Nat} {Os:List Nat} (h:IsOpen w g Os) (hb:Below w.heap.size w w'):IsOpen w' g Os:=by
 obtain ⟨A,c,vs,h1,h2,h3,h4⟩:=h
 exact ⟨A,c,vs,h1.below hb h1.lt,h2.below hb,h3.below hb,h4⟩
theorem hasO_any (g:Nat) (Os:List Nat) (i j:Int) (w:World) (h:IsOpen w g Os) :
  Calls Tryz.prog 86 #[.int .i64 i,.int .i64 j,.pointer (some ⟨g,0,none⟩)] w fun e w'=>e=.returned (.bool (hasO Os i j))∧Below w.heap.size w w':=by
 obtain ⟨A,c,vs,hB,hr,hs,_⟩:=h
 have b0:=hB.cell 0
 by_cases h0:0≤i
 ·obtain ⟨n,rfl⟩:=Int.eq_ofNat_of_zero_le h0
  by_cases h1:n < Os.length
  ·have hv:n < vs.length:=by rw [hs.1];exact h1
   obtain ⟨v,hvx⟩:∃ v,vs[n]?=some v:=⟨_,List.getElem?_eq_getElem hv⟩
   have sv:=hs.2 n v _ hvx (List.getElem?_eq_getElem h1)
   obtain ⟨Av,cv,rfl,_⟩:=id sv
   obtain ⟨g1,o1,rfl,hg1,hc1⟩:=hr (by omega)
   have d1:=hc1 n _ hvx
   have hh:=has_any _ _ j w sv
   have e:hasO Os (n:Int) j=hasB Os[n] j:=by
    unfold hasO
    rw [decide_eq_true (by omega),decide_eq_true (by omega),Int.toNat_natCast,List.getD_eq_getElem?_getD,List.getElem?_eq_getElem h1];rfl
   rw [e]
   generalize hasB Os[n] j=x at hh ⊢
   have HH:=hideC hh
   clear hh e sv hvx hc1 hv
   generalize nw Os[n]=q at HH d1
   go_enter Tryz.func86,Tryz.ntmps86
   go_wp2_with fail
   refine HH.out.mono ?_
   rintro e w1 ⟨rfl,hb⟩
   go_wp2_with fail
   go_ret
   exact ⟨rfl,hb⟩
  ·have e:hasO Os (n:Int) j=false:=by
    unfold hasO
    rw [decide_eq_false (show ¬ ((n:Int) < (Os.length:Int)) by omega),Bool.and_false];rfl
   rw [e]
   clear e
   go_enter Tryz.func86,Tryz.ntmps86
   go_wp2_with fail
   go_ret
   exact ⟨rfl,Below.refl _ _⟩
 ·have e:hasO Os i j=false:=by
   unfold hasO
   rw [decide_eq_false h0];rfl
  rw [e]
  clear e
  go_enter Tryz.func86,Tryz.ntmps86
  go_wp2_with fail
  go_ret
  exact ⟨rfl,Below.refl _ _⟩
theorem node2_any (g q:Nat) (t:TypeId) (Os:List Nat) (c:Int×Int) (w:World) (h:IsOpen w g Os) (hq:Blk w q t #[.func (.func 86) #[] #[.pointer (some ⟨g,0,none⟩)]]) :
  Calls Tryz.prog 89 #[.agg #[.int .i64 c.1,.int .i64 c.2],.pointer (some ⟨q,0,none⟩)] w fun e w'=>e=.returned (.bool (!hasO Os c.1 c.2))∧Below w.heap.size w w':=by
 have HH:=Lib.hid (fun W hb=>hasO_any g Os c.1 c.2 W (h.below hb))
 have q0:=hq.cell 0
 have lq:=hq.lt
 go_enter Tryz.func89,Tryz.ntmps89
 go_wp2_with fail
 refine absC1 fun W0 hA hb0 hz=>?_
 refine (HH.out W0 hb0).mono ?_
 rintro e w1 ⟨rfl,hb⟩
 go_wp2_with fail
 go_ret
 exact ⟨rfl,hb0.trans (hb.mono hb0.size)⟩
theorem fool1_any (m:Option Addr) (C:Nat) (Ns:List Nat) (q:Nat) (t:TypeId) (c:Int×Int) (w:World) (h:IsMV w m C Ns) (hq:Blk w q t #[.pointer m]) :
  Calls Tryz.prog 176 #[.agg #[.int .i64 c.1,.int .i64 c.2],.pointer (some ⟨q,0,none⟩)] w fun e w'=>e=.returned (.bool (!mhas C Ns c.1 c.2))∧Below w.heap.size w w':=by
 have HH:=Lib.hid (fun W hb=>has_v (h.below (w':=W) hb) c.1 c.2)
 have q0:=hq.cell 0
 have lq:=hq.lt
 go_enter Tryz.func176,Tryz.ntmps176
 go_wp2_with fail
 refine absC1 fun W0 hA hb0 hz=>?_
 refine (HH.out W0 hb0).mono ?_
 rintro e w1 ⟨rfl,hb⟩
 go_wp2_with fail
 go_ret
 exact ⟨rfl,hb0.trans (hb.mono hb0.size)⟩
end Go.Proofs.YtafpmkdlciioaaaGreatDoor
