import Derived.Test.YtafpmkdlciioaaaGreatDoorPk02
import Derived.Test.YtafpmkdlciioaaaGreatDoorPk11
import Derived.Test.YtafpmkdlciioaaaGreatDoorPk14
import Derived.Test.YtafpmkdlciioaaaGreatDoorPk13
import Derived.Deep.DeepCutAuto
import Derived.Deep.CutBlock
set_option maxHeartbeats 16000000
set_option maxRecDepth 100000
namespace Go.Proofs.YtafpmkdlciioaaaGreatDoor
open Go.RowKit
def IsMO (w:World) (q C:Nat) (Ns:List Nat):Prop:=∃ rv vs,Bld 0 q C Ns w rv vs∧C≤4096∧Ns.length≤4096
theorem IsMO.mat {w:World} {q C:Nat} {Ns:List Nat} (h:IsMO w q C Ns):IsMat w q C Ns:=by
 obtain ⟨rv,vs,hb,h1,h2⟩:=h
 exact hb.mat h1 h2
theorem IsMO.below {w w':World} {q C:Nat} {Ns:List Nat} (h:IsMO w q C Ns) (hb:Below w.heap.size w w'):IsMO w' q C Ns:=by
 obtain ⟨rv,vs,h0,h1,h2⟩:=h
 exact ⟨rv,vs,h0.below hb,h1,h2⟩
theorem IsMO.put {w:World} {q C g i:Nat} {Ns:List Nat} {t:TypeId} {cs:Array Value} (h:IsMO w q C Ns) (hB:Blk w g t cs) (h1:104≠t) (h2:t≠58) (h3:146≠t) (u:Value):IsMO (w.setCell ⟨g,i,none⟩ u) q C Ns:=by
 obtain ⟨rv,vs,⟨k1,k2,k3⟩,k4,k5⟩:=h
 exact ⟨rv,vs,⟨k1.far (p:=⟨g,i,none⟩) (k1.ne_ hB h1) u,ownsRow_setCell_other k2 (a:=⟨g,i,none⟩) (fun e=>own_ne k2 hB h2 e.symm) u,k3.keep (KeepW.setCell (p:=⟨g,i,none⟩) hB h3 u)⟩,k4,k5⟩
theorem own_low0 {w:World} {base:Nat} {e:TypeId} {size:Nat} {v:Value} {n:Nat} {xs:List Value} (h:w.ownsRow base e size v n xs):w.ownsRow 0 e size v n xs :=
 ⟨h.1,h.2.imp id fun ⟨g,cap,cur,hv,_,r⟩=>⟨g,cap,cur,hv,Nat.zero_le _,r⟩⟩
theorem le64_ {n:Nat} (h:n≤256):n≤maxLen:=by unfold maxLen;omega
theorem filled_sizeO (z:Value) (f:Nat→Value) (k n:Nat):(filled z f k n).size=n:=by unfold filled;simp
theorem ofm_own (A:Option Addr) (c C:Nat) (vs:List Value) (Ns:List Nat) (w:World) (hr:Row w A vs) (hs:Sets w vs Ns) (hC:C≤256) (hn:Ns.length≤256) :
  Calls Tryz.prog 20 #[.int .i64 C,.slice A Ns.length c] w fun e w'=>(e=pair (.pointer none) 2∧¬ rowsIn C Ns∧Below w.heap.size w w')∨(∃ q,e=pair (ptr q) 0∧rowsIn C Ns∧IsMO w' q C Ns∧w.heap.size≤q∧Below w.heap.size w w'):=by
 have HN:=hideC (new_yes Ns.length C w hn hC)
 go_enter Tryz.func20,Tryz.ntmps20
 go_wp2_with fail
 refine HN.out.mono ?_
 rintro e w1 ⟨rfl,hw1⟩
 have hb:=(Blk.new w 58 (zeros (.slice none 0 0) Ns.length)).alloc (.cells #[.int .i64 (C:Int),.slice (some ⟨w.heap.size,0,none⟩) Ns.length Ns.length] 104)
 have hm:=Blk.new_ (n:=w.heap.size+1) (w:=w.alloc (.cells (zeros (.slice none 0 0) Ns.length) 58)) (by simp) 104 #[.int .i64 (C:Int),.slice (some ⟨w.heap.size,0,none⟩) Ns.length Ns.length]
 have hbl:Below w.heap.size w w1:=by rw [hw1];exact ((Below.refl _ _).alloc (Nat.le_refl _) _).alloc (by simp) _
 have hz1:w1.heap.size=w.heap.size+2:=by rw [hw1];simp
 rw [← hw1] at hb hm
 clear hw1
 have HZ1:=Lib.hid hz1;clear hz1
 go_wp2_with fail
 go_loopw [22] (fun i wr=>∃ k:Nat,k≤Ns.length∧i=.int .i64 k∧(∀ j,j < k→Ns.getD j 0&&&lowN C=Ns.getD j 0)∧Blk wr (w.heap.size+1) 104 #[.int .i64 (C:Int),.slice (some ⟨w.heap.size,0,none⟩) Ns.length Ns.length] ∧
   Blk wr w.heap.size 58 (filled (.slice none 0 0) (fun j=>vs.getD j undef) k Ns.length)∧Below w.heap.size w wr) (fun i _=>Ns.length-(intOf i).toNat)
 case atStart=>exact ⟨0,Nat.zero_le _,rfl,fun j hj=>absurd hj (by omega),hm,hb.fill0 _,hbl⟩
 case round =>
  obtain ⟨k,hk,rfl,heq,hmb,hrb,hbel⟩:=hrel
  have HEQ:=Lib.hid heq;clear heq
  by_cases hlt:k < Ns.length
  ·obtain ⟨A1,c1,hv,hset⟩:=hs.at_ hlt
   obtain ⟨g,off,rfl,hg,hcell⟩:=hr (by rw [hs.1];omega)
   have cv:=onB hbel (hcell k _ hv)
   have hf:=filled_set (.slice none 0 0) (fun j=>vs.getD j undef) hlt
   have hvD:vs.getD k undef=.slice A1 (nw Ns[k]) c1:=by rw [List.getD_eq_getElem?_getD,hv];rfl
   rw [hvD] at hf
   have HF:=Lib.hid hf;clear hf hvD
   clear hcell hr hs hv hb hm
   have hsb:=hset.below hbel
   go_wp2_with fail
   refine abs1 fun W1 hX hbx hz1=>?_
   have cX:=hX.cell 0
   have HZ:=Lib.hid hz1;clear hz1
   have hbel1:=hbel.trans (hbx.mono hbel.size)
   have hbe:=below_any (C:Int) W1.drew
   rw [clamp_nat (by omega)] at hbe
   have HB:=hideC hbe;clear hbe
   by_cases he:Ns[k]&&&lowN C=Ns[k]
   ·have HE:=Lib.hid he;clear he
    refine wp_spine (fun W=>Below W1.heap.size W1 W) [0,1] [2,3,4] (by kernel_rfl) (by kernel_rfl) ?_
    iterate 2 (refine wpE_op (v:=?_) rfl rfl (fun W hW=>?_) ?_;rotate_left;(have x1:=onB hW cX;go_simp;first | done | with_reducible rfl);simp only [pt1,pt3,pt4,pt5])
    refine wpE_nil ⟨fun h=>(by cases h),wpSp_op rfl (Below.refl _ _).drew ?_⟩
    go_wp2_with fail
    refine HB.out.mono ?_
    rintro e w2 ⟨r,rfl,hset2,hb2⟩
    obtain ⟨A2,c2,rfl,_⟩:=id hset2
    have hb3:Below W1.heap.size W1 w2:=(Below.refl _ _).drew.trans hb2
    have hcall:=within_any _ _ _ _ w2 ((hsb.below hbx).below hb3) hset2
    rw [decide_eq_true HE.out] at hcall
    have HC:=hideC hcall;clear hcall
    go_wp2_with fail
    refine nxt_op rfl hb3 ?_
    go_wp2_with fail
    refine HC.out.mono ?_
    rintro e w3 ⟨rfl,hb4⟩
    have hb5:Below W1.heap.size W1 w3:=hb3.trans (hb4.mono hb3.size)
    go_wp2_with fail
    refine nxt_op rfl hb5 ?_
    go_wp2_with fail
    refine nxt_nil ?_
    have hm3:=(hmb.below hbx hmb.lt).below hb5 (Blk.lt (hmb.below hbx hmb.lt))
    have hr3:=(hrb.below hbx hrb.lt).below hb5 (Blk.lt (hrb.below hbx hrb.lt))
    have cX3:=onB hb5 cX
    have cm3:=hm3.cell 1
    have cr3:=(hr3.cell k).trans (filled_get _ _ hlt)
    have fr3:=hr3.frozen k
    go_wp2_with fail
    refine wp_spine (fun W=>Below w3.heap.size w3 W) [0,1,2,3,4,5,6] [7] (by kernel_rfl) (by kernel_rfl) ?_
    iterate 7 (refine wpE_op (v:=?_) rfl rfl (fun W hW=>?_) ?_;rotate_left;(have x1:=onB hW cX3;have x2:=onB hW cm3;go_simp;first | done | with_reducible rfl);simp only [pt1,pt3,pt4,pt5])
    refine wpE_nil ⟨fun h=>(by cases h),wpSp_op rfl (Below.refl _ _).drew ?_⟩
    go_wp2_with fail
    refine nxt_nil ?_
    go_wp2_with fail
    have hr4:=hr3.drew.set_ k (.slice A1 (nw Ns[k]) c1)
    rw [HF.out] at hr4
    have hne:w.heap.size+1≠w.heap.size:=by omega
    exact ⟨⟨k+1,by omega,by go_num,fun j hj=>by
     by_cases h:j=k
     ·rw [h,getD_at hlt];exact HE.out
     ·exact HEQ.out j (by omega),hm3.drew.far (p:=⟨w.heap.size,k,none⟩) hne _,hr4,((hbel1.trans (hb5.mono hbel1.size)).drew).setCell (Nat.le_refl _) _⟩,by simp [intOf];omega⟩
   ·have HE:=Lib.hid he;clear he
    refine wp_spine (fun W=>Below W1.heap.size W1 W) [0,1] [2,3,4] (by kernel_rfl) (by kernel_rfl) ?_
    iterate 2 (refine wpE_op (v:=?_) rfl rfl (fun W hW=>?_) ?_;rotate_left;(have x1:=onB hW cX;go_simp;first | done | with_reducible rfl);simp only [pt1,pt3,pt4,pt5])
    refine wpE_nil ⟨fun h=>(by cases h),wpSp_op rfl (Below.refl _ _).drew ?_⟩
    go_wp2_with fail
    refine HB.out.mono ?_
    rintro e w2 ⟨r,rfl,hset2,hb2⟩
    obtain ⟨A2,c2,rfl,_⟩:=id hset2
    have hb3:Below W1.heap.size W1 w2:=(Below.refl _ _).drew.trans hb2
    have hcall:=within_any _ _ _ _ w2 ((hsb.below hbx).below hb3) hset2
    rw [decide_eq_false HE.out] at hcall
    have HC:=hideC hcall;clear hcall
    go_wp2_with fail
    refine nxt_op rfl hb3 ?_
    go_wp2_with fail
    refine HC.out.mono ?_
    rintro e w3 ⟨rfl,hb4⟩
    have hb5:Below W1.heap.size W1 w3:=hb3.trans (hb4.mono hb3.size)
    go_wp2_with fail
    refine nxt_op rfl hb5 ?_
    go_wp2_with fail
    refine nxt_nil ?_
    go_wp2_with fail
    go_ret2
    exact .inl ⟨rfl,fun h=>HE.out (by have:=h k hlt;rwa [getD_at hlt] at this),hbel1.trans (hb5.mono hbel1.size)⟩
  ·obtain rfl:k=Ns.length:=by omega
   go_wp2
   go_ret2
   refine .inr ⟨_,rfl,HEQ.out,⟨_,vs,⟨hmb,?_,hs.below hbel⟩,by omega,by omega⟩,by omega,hbel⟩
   refine ⟨by rw [hs.1];omega,.inr ⟨w.heap.size,Ns.length,_,rfl,Nat.zero_le _,hrb,Nat.le_refl _,le64_ hn,by rw [filled_sizeO];omega,?_⟩⟩
   refine List.ext_getElem? fun j=>?_
   rw [Nat.mul_one,List.getElem?_take,Array.getElem?_toList]
   by_cases hj:j < Ns.length
   ·rw [if_pos hj,filled_get _ _ hj,if_pos hj]
    have hv:j < vs.length:=by rw [hs.1];exact hj
    rw [List.getD_eq_getElem?_getD,List.getElem?_eq_getElem hv];rfl
   ·rw [if_neg hj,List.getElem?_eq_none (by rw [hs.1];omega)]
theorem trans_own (p C:Nat) (Ns:List Nat) (w:World) (h:IsMat w p C Ns) :
  Calls Tryz.prog 14 #[ptr p] w fun e w'=>∃ q,e=.returned (ptr q)∧IsMO w' q Ns.length (mtrans C Ns C)∧Below w.heap.size w w':=by
 obtain ⟨i0,hi0,hz0,hz1,hz2⟩:=info_parts info_set
 obtain ⟨h1,h2,A,c,vs,hB,hc,hr,hs⟩:=id h
 have m0:=hB.cell 0
 have m1:=hB.cell 1
 have lB:=hB.lt
 clear hB hr hs
 go_enter Tryz.func14,Tryz.ntmps14
 go_wp2_with fail
 refine abs1 fun W0 hQ0 hbel0 hz=>?_
 have HZ:=Lib.hid hz;clear hz
 go_loopw [18] (fun i wr=>∃ k:Nat,k≤C∧i=.int .i64 k∧(∃ rv us,Bld w.heap.size w.heap.size Ns.length (mtrans C Ns k) wr rv us)∧Below w.heap.size w wr) (fun i _=>C-(intOf i).toNat)
 case atStart=>exact ⟨0,Nat.zero_le _,rfl,⟨_,_,Bld.start _ _ _ _ hQ0⟩,hbel0⟩
 case round =>
  obtain ⟨k,hk,rfl,⟨rv,us,hbld⟩,hbel⟩:=hrel
  by_cases hlt:k < C
  ·have q1:=hbld.1.cell 1
   have n1:=hbld.ne
   have hc0:=col_any p C Ns (k:Nat) wr.drew ((h.below hbel).below (Below.refl _ _).drew)
   have HC:=hideC hc0;clear hc0
   go_wp2_with fail
   refine wp_spine (fun W=>But rv.ownBlock wr W) [0,1,2,3,4,5,6] [7,8,9,10,11,12] (by kernel_rfl) (by kernel_rfl) ?_
   iterate 7 (refine wpE_op (v:=?_) rfl rfl (fun W hW=>?_) ?_;rotate_left;(have x1:=hW.on q1 n1;go_simp;first | done | with_reducible rfl);simp only [pt1,pt3,pt4,pt5])
   refine wpE_nil ⟨fun h=>(by cases h),wpSp_op rfl ((But.refl _ _).below (Below.refl _ _).drew) ?_⟩
   go_wp2_with fail
   refine HC.out.mono ?_
   rintro e w2 ⟨r,rfl,hset,hb2⟩
   obtain ⟨A2,c2,rfl,_⟩:=id hset
   have hb3:Below wr.heap.size wr w2:=(Below.refl _ _).drew.trans hb2
   go_wp2_with fail
   refine nxt_op rfl (.of_below hb3) ?_
   go_wp2_with fail
   have hb4:=hb3.alloc hb3.size (.cells #[.slice A2 (nw (mcol C Ns (k:Nat))) c2] 58)
   have hbld4:=hbld.below hb4
   have hset4:=hset.keep (KeepW.alloc _ (.cells #[.slice A2 (nw (mcol C Ns (k:Nat))) c2] 58))
   have hln:=mtrans_len C Ns k
   have hsz:=hbel.size
   have hsz2:=hb3.size
   refine nxt_op rfl (.of_below hb4) ?_
   go_wp2_with (at_builtin;refine wpList_append_own _ rfl _ _ 67 rfl (w.heap.size) 58 i0 (.agg #[.slice none 0 0]) 1 24 Tryz.underlying67 hi0 hz0 hz1 hz2 rfl (by decide) _ _ _ rfl (hbld4.2.1) ⟨w2.heap.size,0,none⟩ 1 1 [.slice A2 (nw (mcol C Ns (k:Nat))) c2] rfl rfl (cell_one_new _ _ _) (by simp [Value.oneCell']) (by unfold maxLen;omega) (by omega) (by simp;omega) ?_;intro v' w3 hown' hgrow _)
   obtain ⟨g',cap',rfl⟩:=ownsRow_succ hown'
   have hbut:=(But.of_below hb4).trans (But.grown hgrow)
   have hbel3:=(hbel.trans (hb4.mono hbel.size)).grown hgrow (by simp;omega) (fun q hq=>(hbld4.2.1.lt q hq).1)
   have q3:=hbut.on q1 n1
   have f3:=hbut.frozen q1 (hbld.1.frozen 1) n1
   obtain ⟨hbld5,_⟩:=hbld4.push hset4 rfl rfl hown' hgrow
   rw [hln] at hbld5
   refine nxt_op rfl hbut ?_
   go_wp2_with fail
   refine nxt_op rfl hbut ?_
   go_wp2_with fail
   refine nxt_op rfl hbut ?_
   go_wp2_with fail
   refine nxt_nil ?_
   go_wp2_with fail
   exact ⟨⟨k+1,by omega,by go_num,⟨_,_,by rw [mtrans_succ];exact hbld5⟩,hbel3.setCell (by simp) _⟩,by simp [intOf];omega⟩
  ·obtain rfl:k=C:=by omega
   have hm:IsMO wr w.heap.size Ns.length (mtrans k Ns k):=⟨rv,us,⟨hbld.1,own_low0 hbld.2.1,hbld.2.2⟩,h2,by rw [mtrans_len];omega⟩
   go_wp2
   go_ret
   exact ⟨_,rfl,hm,hbel⟩
theorem rowsIn_hav {C:Nat} {Ns:List Nat} (hl:Ns.length≤4096) (M:List Nat):rowsIn Ns.length (M.map (havN C Ns)):=fun i hi=>by
 rw [List.length_map] at hi
 rw [List.getD_eq_getElem?_getD,List.getElem?_map,List.getElem?_eq_getElem hi]
 refine Nat.eq_of_testBit_eq fun x=>?_
 show (havN C Ns M[i]&&&lowN Ns.length).testBit x=(havN C Ns M[i]).testBit x
 rw [Nat.testBit_and,testBit_lowN]
 cases hx:(havN C Ns M[i]).testBit x with
 | false=>rfl
 | true=>rw [decide_eq_true (havN_lt hl hx)];rfl
theorem rowsIn_clo {C:Nat} {Ns M:List Nat} (h:∀ s∈M,cloN C Ns s=s):rowsIn C M:=fun i hi=>by
 have hm:M.getD i 0∈M:=by rw [List.getD_eq_getElem?_getD,List.getElem?_eq_getElem hi];exact List.getElem_mem _
 refine Nat.eq_of_testBit_eq fun x=>?_
 rw [Nat.testBit_and,testBit_lowN]
 cases hx:(M.getD i 0).testBit x with
 | false=>rfl
 | true =>
  rw [← h _ hm] at hx
  rw [decide_eq_true (comN_lt hx)];rfl
def usersN (C:Nat) (Ns M:List Nat):List Nat:=mtrans Ns.length (M.map (havN C Ns)) Ns.length
theorem build_any (base:Nat) (v:Value) (C:Nat) (Ns M:List Nat) (w:World) (hK:OwnK w base v C Ns M) (hM:M.length≤256) (hR:Ns.length≤256) (hC:C≤256) (hcl:∀ s∈M,cloN C Ns s=s) :
  Calls Tryz.prog 33 #[.int .i64 Ns.length,.int .i64 C,v] w fun e w'=>∃ u p,e=.returned (.tuple #[.agg #[ptr u,ptr p],.int .i64 0])∧IsMO w' u M.length (usersN C Ns M)∧IsMO w' p C M∧Below w.heap.size w w':=by
 obtain ⟨i0,hi0,hz0,hz1,hz2⟩:=info_parts info_set
 have hl:Ns.length≤4096:=by omega
 obtain ⟨A,c,rfl⟩:=hK.val
 have HK:=Lib.hid hK
 have HR1:=Lib.hid (rowsIn_hav (C:=C) hl M)
 have HR2:=Lib.hid (rowsIn_clo hcl)
 clear hK hcl
 go_enter Tryz.func33,Tryz.ntmps33
 go_upto_region 2 with fail
 refine abs1 fun W0 h6 hb0 hz=>?_
 clear hz
 obtain ⟨g6,hg6⟩:∃ x,x=w.heap.size:=⟨_,rfl⟩
 have hgw:w.heap.size≤g6:=by omega
 rw [← hg6] at h6 ⊢
 clear hg6
 go_wp2_with fail
 refine wp_loopF (β:=Nat×Value×Value) (fun x f=>#[.int .i64 (Ns.length:Int),.int .i64 (C:Int),f 2,f 3,f 4,f 5,ptr g6,.int .i64 0,x.2.1,x.2.2,f 10,f 11,f 12,f 13,f 14,.slice A M.length c,.int .i64 (M.length:Int),.int .i64 (x.1:Int),f 18,f 19,f 20,f 21,f 22,f 23,f 24,f 25,f 26,f 27,f 28,f 29,f 30,f 31,f 32,f 33,f 34,f 35,f 36,f 37,f 38,f 39,f 40,f 41,f 42,f 43,f 44,f 45,f 46,f 47,f 48,f 49,f 50,f 51,f 52,f 53,f 54,f 55])
  (fun x ds W=>ds=[]∧x.1≤M.length∧Below w.heap.size w W∧Blk W g6 33 #[.pointer none,.pointer none]∧OwnO W w.heap.size x.2.1 ((M.take x.1).map (havN C Ns))∧OwnO W w.heap.size x.2.2 (M.take x.1)∧∀ g,x.2.1.ownBlock=some g→x.2.2.ownBlock≠some g) (fun x=>M.length-x.1) (0,.slice none 0 0,.slice none 0 0) rfl
  ⟨rfl,Nat.zero_le _,hb0,h6,OwnO.nil _ _,OwnO.nil _ _,fun g hg=>(by cases hg)⟩ ?_
 rintro ⟨k,v8,v9⟩ f ds W ⟨rfl,hk,hb,k6,hU,hP,hne⟩
 dsimp only at hk hU hP hne ⊢
 by_cases hlt:k < M.length
 ·obtain ⟨s,hs⟩:∃ s,M[k]?=some s:=⟨_,List.getElem?_eq_getElem hlt⟩
  obtain ⟨gr,off,A1,c1,A2,c2,rfl,hgr,d0,d1,s1,s2⟩:=((HK.out.below hb).isK (by omega)).at hs
  obtain ⟨X,hX⟩:∃ X,X=havN C Ns s:=⟨_,rfl⟩
  rw [← hX] at d0 s1
  have htk:M.take (k+1)=M.take k ++ [s]:=by rw [List.take_add_one,hs];rfl
  have htm:(M.take (k+1)).map (havN C Ns)=(M.take k).map (havN C Ns) ++ [X]:=by rw [htk,List.map_append,hX];rfl
  have htl:(M.take k).length=k:=by rw [List.length_take];omega
  obtain ⟨vu,hU0,hUs⟩:=hU
  obtain ⟨vp,hP0,hPs⟩:=hP
  rw [List.length_map,htl] at hU0
  rw [htl] at hP0
  have HTK:=Lib.hid htk;have HTM:=Lib.hid htm;have HTL:=Lib.hid htl;have HUS:=Lib.hid hUs;have HPS:=Lib.hid hPs
  clear htk htm htl hUs hPs hs hX
  go_upto_region 5 with fail
  refine abs1 fun W1 h11 hb1 hz=>?_
  clear hz
  have b1:=hb.trans (hb1.mono hb.size)
  obtain ⟨g11,hg11⟩:∃ x,x=W.heap.size:=⟨_,rfl⟩
  rw [← hg11] at h11 ⊢
  clear hg11
  have c0:=h11.cell 0
  have k61:=k6.below hb1 k6.lt
  obtain ⟨A8,c8,rfl,-⟩:=RowN.of_own hU0
  obtain ⟨A9,c9,rfl,-⟩:=RowN.of_own hP0
  have hba:Below W1.heap.size W1 (W1.alloc (.cells #[.slice A1 (nw X) c1] 58)):=(Below.refl _ _).alloc (Nat.le_refl _) _
  have hU1:=own_below (own_below hU0 hb1) hba
  have hP1:=own_below (own_below hP0 hb1) hba
  have hb1a:=hb1.trans (hba.mono hb1.size)
  have s1a:=s1.below hb1a
  have s2a:=s2.below hb1a
  have b2:=b1.trans (hba.mono b1.size)
  have k62:=k61.below hba k61.lt
  have h112:=h11.below hba h11.lt
  have HUS1:=Lib.hid (HUS.out.below hb1a)
  have HPS1:=Lib.hid (HPS.out.below hb1a)
  have hsz:=b1.size
  have hgP:∀ g,(Value.slice A9 k c9).ownBlock=some g→g < W1.heap.size:=fun g hg=>by
   obtain ⟨cs,hB⟩:=own_kind (own_below hP0 hb1) g hg
   exact hB.lt
  clear hU0 hP0 d0 d1 s1 s2 k6 k61 hb1 hb hb1a
  go_wp2_with (at_builtin;refine wpList_append_lies _ rfl _ _ 67 rfl w.heap.size 58 i0 (.agg #[.slice none 0 0]) 1 24 Tryz.underlying67 hi0 hz0 hz1 hz2 rfl (by decide) _ _ _ rfl hU1 ⟨W1.heap.size,0,none⟩ 1 1 [.slice A1 (nw X) c1] rfl rfl (World.news_of_block (Blk.new _ _ _)) (by simp [Value.oneCell']) (by omega) (by unfold maxLen;omega) (by omega) (by first | omega | (simp;omega)) _ rfl ?_)
  intro gu cu w5 hU5 hgrow5 hlies5 hlt5
  have hgu:gu < w5.heap.size∧(Value.slice A9 k c9).ownBlock≠some gu:=by
   refine ⟨?_,?_⟩
   ·obtain ⟨cs,hB⟩:=own_kind hU5 gu rfl
    exact hB.lt
   ·rcases hlies5 with h | h
    ·exact hne gu h
    ·intro e
     have h1:=hgP gu e
     have h2:=hba.size
     omega
  have hP5:=own_but hP1 (But.grown hgrow5) (fun g hg e=>hne g e.symm hg)
  have hkw5:=KeepW.grown hgrow5 hU1 (by decide)
  have h115:=h112.grown hgrow5 (own_ne hU1 h112 (by decide))
  have k65:=k62.grown hgrow5 (own_ne hU1 k62 (by decide))
  have b5:=b2.grown hgrow5 b2.size (fun q hq=>(hU1.lt q hq).1)
  have hgP5:∀ g,(Value.slice A9 k c9).ownBlock=some g→g < w5.heap.size:=fun g hg=>Nat.lt_of_lt_of_le (hgP g hg) (Nat.le_trans hba.size hgrow5.size)
  have s1b:=s1a.keep hkw5
  have s2b:=s2a.keep hkw5
  have HUS5:=Lib.hid (HUS1.out.keep hkw5)
  have HPS5:=Lib.hid (HPS1.out.keep hkw5)
  have hba2:Below w5.heap.size w5 (w5.alloc (.cells #[.slice A2 (nw s) c2] 58)):=(Below.refl _ _).alloc (Nat.le_refl _) _
  have hP6:=own_below hP5 hba2
  have hU6:=own_below hU5 hba2
  have b6:=b5.trans (hba2.mono b5.size)
  have k66:=k65.below hba2 k65.lt
  have HGU:=Lib.hid hgu
  have c1':=h115.cell 1
  have n115:=h115.lt
  have hsz5:=b5.size
  clear hgrow5 hlies5 hlt5 hU1 hP1 s1a s2a k62 h112 b2 hgu hkw5 hba hne hgP c0
  go_wp2_with (at_builtin;refine wpList_append_lies _ rfl _ _ 67 rfl w.heap.size 58 i0 (.agg #[.slice none 0 0]) 1 24 Tryz.underlying67 hi0 hz0 hz1 hz2 rfl (by decide) _ _ _ rfl hP6 ⟨w5.heap.size,0,none⟩ 1 1 [.slice A2 (nw s) c2] rfl rfl (World.news_of_block (Blk.new _ _ _)) (by simp [Value.oneCell']) (by omega) (by unfold maxLen;omega) (by omega) (by first | omega | (simp;omega)) _ rfl ?_)
  intro gp cp w7 hP7 hgrow7 hlies7 hlt7
  have hgp:gu≠gp:=fun e=>by
   subst e
   rcases hlies7 with h | h
   ·exact HGU.out.2 h
   ·have:=HGU.out.1
    have h2:=hba2.size
    omega
  have hU7:=own_but hU6 (But.grown hgrow7) (fun g hg e=>by
   cases hg
   exact HGU.out.2 e.symm)
  have hkw7:=(KeepW.of_below hba2).trans (KeepW.grown hgrow7 hP6 (by decide))
  have k67:=k66.grown hgrow7 (own_ne hP6 k66 (by decide))
  have b7:=b6.grown hgrow7 b6.size (fun q hq=>(hP6.lt q hq).1)
  have s1c:=s1b.keep hkw7
  have s2c:=s2b.keep hkw7
  have hus7:=(HUS5.out.keep hkw7).snoc s1c
  have hps7:=(HPS5.out.keep hkw7).snoc s2c
  rw [← HTM.out] at hus7
  rw [← HTK.out] at hps7
  have hlu:((M.take (k+1)).map (havN C Ns)).length=k+1:=by rw [List.length_map,List.length_take];omega
  have hlp:(M.take (k+1)).length=k+1:=by rw [List.length_take];omega
  go_wp2_with fail
  exact ⟨(k+1,.slice (some ⟨gu,0,none⟩) (k+1) cu,.slice (some ⟨gp,0,none⟩) (k+1) cp),rfl,⟨by first | rfl | trivial,by show k+1≤M.length;omega,b7,k67,⟨_,by rw [hlu];exact hU7,hus7⟩,⟨_,by rw [hlp];exact hP7,hps7⟩,fun g hg e=>hgp (by
   have h1:gu=g:=Option.some.inj hg
   have h2:gp=g:=Option.some.inj e
   omega)⟩,by show M.length-(k+1) < M.length-k;omega⟩
 ·obtain rfl:k=M.length:=by omega
  rw [List.take_length] at hU hP
  obtain ⟨vu,hU0,hUs⟩:=hU
  obtain ⟨vp,hP0,hPs⟩:=hP
  obtain ⟨A8,c8,rfl,hru,-⟩:=RowN.of_own hU0
  obtain ⟨A9,c9,rfl,hrp,-⟩:=RowN.of_own hP0
  rw [List.length_map] at hU0
  have hof:=ofm_own A8 c8 Ns.length vu (M.map (havN C Ns)) W hru hUs hR (by rw [List.length_map];exact hM)
  rw [List.length_map] at hof
  have HOF:=hideC hof
  have hml:(List.map (havN C Ns) M).length=M.length:=List.length_map ..
  rw [hml]
  clear hof hne hml
  go_wp2_with fail
  with_reducible refine HOF.out.mono ?_
  rintro e W1 (⟨rfl,hno,_⟩ | ⟨q,rfl,-,hq,-,hb1⟩)
  ·exact absurd HR1.out hno
  have b1:=hb.trans (hb1.mono hb.size)
  have k61:=k6.below hb1 k6.lt
  have HOG:=hideC (ofm_own A9 c9 C vp M W1 (hrp.below hb1) (hPs.below hb1) hC hM)
  clear HOF
  go_wp2_with fail
  with_reducible refine HOG.out.mono ?_
  rintro e W2 (⟨rfl,hno,_⟩ | ⟨p,rfl,-,hp,-,hb2⟩)
  ·exact absurd HR2.out hno
  have b2:=b1.trans (hb2.mono b1.size)
  have k62:=k61.below hb2 k61.lt
  have HTR:=hideC (trans_own q Ns.length (M.map (havN C Ns)) W2 (hq.mat.below hb2))
  clear HOG
  go_wp2_with fail
  with_reducible refine HTR.out.mono ?_
  rintro e W3 ⟨u,rfl,hu,hb3⟩
  rw [List.length_map] at hu
  have b3:=b2.trans (hb3.mono b2.size)
  have k63:=k62.below hb3 k62.lt
  have f0:=k63.frozen 0
  have f1:=k63.frozen 1
  have c0:=k63.cell 0
  have c1:=k63.cell 1
  have l6:=k63.lt
  go_wp2_with fail
  have hf:=(k63.set_ 0 (ptr u)).set_ 1 (ptr p)
  have cX:=hf.cell 0
  have cY:=hf.cell 1
  have kk:∀ (r D:Nat) (Ms:List Nat),IsMO W3 r D Ms→IsMO ((W3.setCell ⟨g6,0,none⟩ (ptr u)).setCell ⟨g6,1,none⟩ (ptr p)) r D Ms:=fun r D Ms h=>(h.put (i:=0) k63 (by decide) (by decide) (by decide) (ptr u)).put (i:=1) (k63.set_ 0 (ptr u)) (by decide) (by decide) (by decide) (ptr p)
  refine bodyPost_ret (v:=.tuple #[.agg #[ptr u,ptr p],.int .i64 0]) (by simp [results,Tryz.results33,go_sem,cX,cY]) rfl ⟨u,p,rfl,kk _ _ _ hu,kk _ _ _ (hp.below hb3),(b3.setCell (p:=⟨g6,0,none⟩) hgw _).setCell (p:=⟨g6,1,none⟩) hgw _⟩
def sumT:Nat→Nat
 | 0=>0
 | b+1=>sumT b+callsT b
theorem sumT_mono:∀ {a b:Nat},a≤b→sumT a≤sumT b
 | a,0,h=>by rw [Nat.le_zero.1 h];exact Nat.le_refl _
 | a,b+1,h=>by
  by_cases e:a=b+1
  ·rw [e];exact Nat.le_refl _
  ·have:=sumT_mono (a:=a) (b:=b) (by omega)
   rw [sumT];omega
def sizeF (C:Nat) (Ns L:List Nat) (o:List (Nat×Nat)):Nat→Nat→Nat
 | 0,b=>b
 | n+1,b=>if covK C Ns L 0 b o=true then b else sizeF C Ns L o n (b+1)
def sizeM (C:Nat) (Ns:List Nat):Nat:=sizeF C Ns (allL C Ns) (cellsOf Ns) Ns.length 0
def minK (C:Nat) (Ns:List Nat):List Nat:=leastK C Ns (allL C Ns) (allL C Ns).length 0 (sizeM C Ns) (cellsOf Ns)
def minC (C:Nat) (Ns:List Nat):List Nat:=atL (allL C Ns) (minK C Ns)
section
variable {C:Nat} {Ns L:List Nat}
theorem allL_clo:∀ s∈allL C Ns,cloN C Ns s=s:=fun s hs=>by
 have h:=((mem_allTo (2 ^ C)).1 hs).2.2
 unfold oneS at h
 rw [Bool.and_eq_true,decide_eq_true_eq] at h
 exact h.1
theorem allL_nd (C:Nat) (Ns:List Nat):(allL C Ns).Nodup:=(allTo_lec C Ns (2 ^ C)).imp fun {x y} h e=>by subst e;rw [lecR_irrefl] at h;cases h
theorem allL_nil (C:Nat):allL C []=[]:=List.eq_nil_iff_forall_not_mem.2 fun s hs=>by
 have h:=((mem_allTo (2 ^ C)).1 hs).2.2
 unfold oneS at h
 simp only [Bool.and_eq_true,decide_eq_true_eq,Bool.not_eq_true',decide_eq_false_iff_not] at h
 refine h.2 (Nat.eq_of_testBit_eq fun x=>?_)
 rw [Nat.zero_testBit]
 cases hx:(havN C [] s).testBit x with
 | false=>rfl
 | true=>have:=havN_lt (by simp) hx;simp at this
theorem row_clo (hl:Ns.length≤4096) (hin:rowsIn C Ns) {i:Nat} (hi:i < Ns.length):cloN C Ns (Ns.getD i 0)=Ns.getD i 0:=by
 refine Nat.eq_of_testBit_eq fun j=>?_
 have hC:∀ j,(Ns.getD i 0).testBit j=true→j < C:=fun j hj=>by
  rw [← hin i hi,Nat.testBit_and,testBit_lowN,Bool.and_eq_true,decide_eq_true_eq] at hj;exact hj.2
 cases hj:(Ns.getD i 0).testBit j with
 | true=>exact clo_sup hl (hC j hj) hj
 | false =>
  cases hc:(cloN C Ns (Ns.getD i 0)).testBit j with
  | false=>rfl
  | true =>
   unfold cloN comN comTo at hc
   rw [testBit_comGo] at hc
   have:=hc.2 i (mem_mems.2 ((testBit_havN C Ns hl _ _).2 ⟨hi,fun x hx _=>hx⟩)) hi
   rw [this] at hj;cases hj
theorem cov_rows (hl:Ns.length≤4096) (hin:rowsIn C Ns):CovK C Ns (allL C Ns) 0 Ns.length (cellsOf Ns):=by
 have key:∀ n,n≤Ns.length→∃ ks:List Nat,ks.length≤n∧(∀ k∈ks,0≤k∧k < (allL C Ns).length)∧∀ c∈cellsOf Ns,c.1 < n→∃ k∈ks,inS C Ns ((allL C Ns).getD k 0) c=true:=by
  intro n
  induction n with
  | zero=>intro _;exact ⟨[],by simp,by simp,fun c _ h=>by omega⟩
  | succ n ih =>
   intro hn
   obtain ⟨ks,h1,h2,h3⟩:=ih (by omega)
   by_cases h0:Ns.getD n 0=0
   ·refine ⟨ks,by omega,h2,fun c hc hlt=>?_⟩
    by_cases e:c.1=n
    ·have:=(mem_cellsOf.1 hc).2
     rw [e,h0] at this;simp at this
    ·exact h3 c hc (by omega)
   ·have hcl:=row_clo (C:=C) hl hin (i:=n) (by omega)
    have hav:(havN C Ns (Ns.getD n 0)).testBit n=true:=(testBit_havN C Ns hl _ _).2 ⟨by omega,fun x hx _=>hx⟩
    have hm:Ns.getD n 0∈allL C Ns:=by
     refine (mem_allTo (2 ^ C)).2 ⟨by have:=clo_lt C Ns (Ns.getD n 0);omega,h0,?_⟩
     unfold oneS
     rw [Bool.and_eq_true]
     refine ⟨decide_eq_true hcl,?_⟩
     rw [Bool.not_eq_true',decide_eq_false_iff_not]
     intro e;rw [e] at hav;simp at hav
    obtain ⟨k,hk⟩:=List.mem_iff_getElem?.1 hm
    refine ⟨k :: ks,by rw [List.length_cons];omega,fun k' hk'=>?_,fun c hc hlt=>?_⟩
    ·rcases List.mem_cons.1 hk' with rfl | hk'
     ·exact ⟨Nat.zero_le _,(List.getElem?_eq_some_iff.1 hk).1⟩
     ·exact h2 k' hk'
    ·by_cases e:c.1=n
     ·refine ⟨k,.head _,?_⟩
      rw [List.getD_eq_getElem?_getD,hk]
      show inS C Ns (Ns.getD n 0) c=true
      unfold inS
      rw [e,hav,Bool.and_true]
      have:=(mem_cellsOf.1 hc).2
      rwa [e] at this
     ·obtain ⟨k',hk',he⟩:=h3 c hc (by omega)
      exact ⟨k',.tail _ hk',he⟩
 obtain ⟨ks,h1,h2,h3⟩:=key Ns.length (Nat.le_refl _)
 exact ⟨ks,h1,h2,fun c hc=>h3 c hc (mem_cellsOf.1 hc).1⟩
theorem sizeF_spec {o:List (Nat×Nat)}:∀ {n b:Nat},CovK C Ns L 0 (b+n) o→b≤sizeF C Ns L o n b∧sizeF C Ns L o n b≤b+n∧CovK C Ns L 0 (sizeF C Ns L o n b) o∧∀ b',b≤b'→b' < sizeF C Ns L o n b→¬ CovK C Ns L 0 b' o
 | 0,b,h=>⟨Nat.le_refl _,Nat.le_refl _,h,fun b' h1 h2=>by rw [sizeF] at h2;omega⟩
 | n+1,b,h=>by
  rw [sizeF]
  by_cases hc:covK C Ns L 0 b o=true
  ·rw [if_pos hc]
   exact ⟨Nat.le_refl _,by omega,(covK_iff b o).1 hc,fun b' h1 h2=>by omega⟩
  ·rw [if_neg hc]
   obtain ⟨h1,h2,h3,h4⟩:=sizeF_spec (n:=n) (b:=b+1) (by rw [show b+1+n=b+(n+1) by omega];exact h)
   refine ⟨by omega,by omega,h3,fun b' h5 h6=>?_⟩
   by_cases e:b'=b
   ·rw [e];exact fun h=>hc ((covK_iff b o).2 h)
   ·exact h4 b' (by omega) h6
theorem leastK_lt:∀ {n k b:Nat} {o:List (Nat×Nat)},(leastK C Ns L n k b o).length≤n∧∀ j∈leastK C Ns L n k b o,k≤j∧j < k+n
 | 0,k,b,o=>by rw [leastK];simp
 | n+1,k,b,o=>by
  rw [leastK]
  split
  ·simp
  ·split
   ·obtain ⟨h1,h2⟩:=leastK_lt (n:=n) (k:=k+1) (b:=b-1) (o:=lessL C Ns o (L.getD k 0))
    refine ⟨by rw [List.length_cons];omega,fun j hj=>?_⟩
    rcases List.mem_cons.1 hj with rfl | hj
    ·omega
    ·have:=h2 j hj;omega
   ·obtain ⟨h1,h2⟩:=leastK_lt (n:=n) (k:=k+1) (b:=b) (o:=o)
    exact ⟨by omega,fun j hj=>by have:=h2 j hj;omega⟩
theorem minK_lt (C:Nat) (Ns:List Nat):∀ k∈minK C Ns,k < (allL C Ns).length:=fun k hk=>by have:=(leastK_lt.2 k hk).2;omega
theorem minC_clo:∀ s∈minC C Ns,cloN C Ns s=s:=fun s hs=>by
 obtain ⟨k,hk,rfl⟩:=List.mem_map.1 hs
 have hlt:=minK_lt C Ns k hk
 refine allL_clo _ ?_
 rw [List.getD_eq_getElem?_getD,List.getElem?_eq_getElem hlt]
 exact List.getElem_mem _
theorem allL_len (hC:C≤5):(allL C Ns).length≤32:=Nat.le_trans (allTo_len C Ns (2 ^ C)) (Nat.le_trans (Nat.pow_le_pow_right (by omega) hC) (by decide))
theorem minC_len (hC:C≤5):(minC C Ns).length≤32:=by
 unfold minC atL minK
 rw [List.length_map]
 exact Nat.le_trans leastK_lt.1 (allL_len hC)
theorem sizeM_le (hl:Ns.length≤4096) (hin:rowsIn C Ns):sizeM C Ns≤Ns.length:=by
 have:=(sizeF_spec (n:=Ns.length) (b:=0) (by rw [Nat.zero_add];exact cov_rows hl hin)).2.1
 unfold sizeM;omega
theorem sizeM_no (hl:Ns.length≤4096) (hin:rowsIn C Ns) {b:Nat} (h:b < sizeM C Ns):¬ CovK C Ns (allL C Ns) 0 b (cellsOf Ns) :=
 (sizeF_spec (n:=Ns.length) (b:=0) (by rw [Nat.zero_add];exact cov_rows hl hin)).2.2.2 b (Nat.zero_le _) h
theorem under_self (Ns:List Nat):Under Ns Ns:=⟨rfl,fun _ _ _ h=>h⟩
end
theorem min_ar1 {b nd:Nat} (hb:b≤5) (h:nd≤sumT b):nd+callsT b≤1000000:=by
 have h1:sumT b≤sumT 5:=sumT_mono hb
 have h2:callsT b≤callsT 5:=callsT_mono hb
 have h3:sumT 5=5349:=by decide
 have h4:callsT 5=37449:=by decide
 omega
theorem min_ar2 {b nd K:Nat} (hb:b≤5) (h:nd≤sumT (b+1)) (hK:K≤32):nd+K*callsT (b-1)≤300000:=by
 have h1:sumT (b+1)≤sumT 6:=sumT_mono (by omega)
 have h2:callsT (b-1)≤callsT 4:=callsT_mono (by omega)
 have h3:sumT 6=42798:=by decide
 have h4:callsT 4=4681:=by decide
 have h5:K*callsT (b-1)≤32*4681:=Nat.mul_le_mul hK (by omega)
 omega
theorem min_ar3 {b nd:Nat} (hb:b≤4) (h:nd≤300000):nd+callsT b≤400000∧0+callsT b≤5000:=by
 have h2:callsT b≤callsT 4:=callsT_mono hb
 have h4:callsT 4=4681:=by decide
 omega
theorem big_no {nd:Nat} (h:nd≤1000000):decide ((1000000:Int) < (nd:Int))=false∧decide ((nd:Int)≤1000000)=true:=⟨decide_eq_false (by omega),decide_eq_true (by omega)⟩
theorem big_len {n:Nat} (h:n≤5000):decide ((5000:Int) < (n:Int))=false:=decide_eq_false (by omega)
end Go.Proofs.YtafpmkdlciioaaaGreatDoor
namespace Go.Proofs.YtafpmkdlciioaaaGreatDoor
open Go.RowKit
attribute [local go_sem] Oper.semAt_some
section
variable {C:Nat} {Ns L:List Nat} {o:List (Nat×Nat)}
def bestT (C:Nat) (Ns L:List Nat) (o:List (Nat×Nat)):Nat→Nat×Nat
 | 0=>(0,0)
 | n+1=>if (bestT C Ns L o n).2 < o.countP (inS C Ns (L.getD n 0)) then (n,o.countP (inS C Ns (L.getD n 0))) else bestT C Ns L o n
theorem bestT_spec:∀ n,(∀ k,k < n→o.countP (inS C Ns (L.getD k 0))≤(bestT C Ns L o n).2)∧((bestT C Ns L o n).2=0∧(bestT C Ns L o n).1=0∨(bestT C Ns L o n).1 < n∧(bestT C Ns L o n).2=o.countP (inS C Ns (L.getD (bestT C Ns L o n).1 0))∧0 < (bestT C Ns L o n).2)∧(bestT C Ns L o n).2≤o.length
 | 0=>⟨fun k hk=>by omega,.inl ⟨rfl,rfl⟩,Nat.zero_le _⟩
 | n+1=>by
  obtain ⟨h1,h2,h3⟩:=bestT_spec n
  rw [bestT]
  split
  ·rename_i h
   refine ⟨fun k hk=>?_,.inr ⟨Nat.lt_succ_self n,rfl,Nat.lt_of_le_of_lt (Nat.zero_le _) h⟩,List.countP_le_length⟩
   by_cases e:k=n
   ·subst e;exact Nat.le_refl _
   ·exact Nat.le_trans (h1 k (by omega)) (Nat.le_of_lt h)
  ·rename_i h
   refine ⟨fun k hk=>?_,h2.imp id fun ⟨a,b⟩=>⟨Nat.lt_succ_of_lt a,b⟩,h3⟩
   by_cases e:k=n
   ·subst e;omega
   ·exact h1 k (by omega)
def bestK (C:Nat) (Ns L:List Nat) (o:List (Nat×Nat)):Nat:=(bestT C Ns L o L.length).1
def greedyK (C:Nat) (Ns L:List Nat):Nat→List (Nat×Nat)→List Nat
 | 0,_=>[]
 | f+1,o=>if o=[] then [] else bestK C Ns L o :: greedyK C Ns L f (lessL C Ns o (L.getD (bestK C Ns L o) 0))
theorem best_on (hcov:∀ c∈o,∃ k,k < L.length∧inS C Ns (L.getD k 0) c=true) (hne:o≠[]):bestK C Ns L o < L.length∧(lessL C Ns o (L.getD (bestK C Ns L o) 0)).length < o.length:=by
 obtain ⟨c,hc⟩:=List.exists_mem_of_ne_nil o hne
 obtain ⟨k,hk,hi⟩:=hcov c hc
 obtain ⟨h1,h2,-⟩:=bestT_spec (C:=C) (Ns:=Ns) (L:=L) (o:=o) L.length
 have hp:0 < o.countP (inS C Ns (L.getD k 0)):=List.countP_pos_iff.2 ⟨c,hc,hi⟩
 have:=h1 k hk
 rcases h2 with ⟨h2,-⟩ | ⟨h2,h3,h4⟩
 ·omega
 ·have hcnt:=count_less (C:=C) (Ns:=Ns) o (L.getD (bestK C Ns L o) 0)
  unfold bestK at hcnt ⊢
  exact ⟨h2,by omega⟩
theorem best_le (n:Nat):(bestT C Ns L o n).1≤n:=by
 rcases (bestT_spec (C:=C) (Ns:=Ns) (L:=L) (o:=o) n).2.1 with ⟨_,h⟩ | ⟨h,_⟩ <;> omega
theorem greedyK_len:∀ (f:Nat) (o:List (Nat×Nat)),(greedyK C Ns L f o).length≤f
 | 0,_=>Nat.le_refl _
 | f+1,o=>by
  rw [greedyK]
  split
  ·exact Nat.zero_le _
  ·rw [List.length_cons];exact Nat.succ_le_succ (greedyK_len f _)
theorem greedyK_spec (hcov:∀ c∈cellsOf Ns,∃ k,k < L.length∧inS C Ns (L.getD k 0) c=true):∀ (f:Nat) (o:List (Nat×Nat)),(∀ c∈o,c∈cellsOf Ns)→o.length≤f→(∀ k∈greedyK C Ns L f o,k < L.length)∧∀ c∈o,∃ k∈greedyK C Ns L f o,inS C Ns (L.getD k 0) c=true
 | 0,o,ho,hf=>by
  obtain rfl:o=[]:=List.eq_nil_of_length_eq_zero (by omega)
  exact ⟨by simp [greedyK],by simp⟩
 | f+1,o,ho,hf=>by
  rw [greedyK]
  by_cases hne:o=[]
  ·subst hne;simp
  ·rw [if_neg hne]
   obtain ⟨h1,h2⟩:=best_on (fun c hc=>hcov c (ho c hc)) hne
   obtain ⟨k1,k2⟩:=greedyK_spec hcov f (lessL C Ns o (L.getD (bestK C Ns L o) 0)) (fun c hc=>ho c (mem_lessL.1 hc).1) (by omega)
   refine ⟨fun k hk=>?_,fun c hc=>?_⟩
   ·rcases List.mem_cons.1 hk with rfl | hk
    ·exact h1
    ·exact k1 k hk
   ·cases hi:inS C Ns (L.getD (bestK C Ns L o) 0) c with
    | true=>exact ⟨_,List.mem_cons_self ..,hi⟩
    | false =>
     obtain ⟨k,hk,h⟩:=k2 c (mem_lessL.2 ⟨hc,hi⟩)
     exact ⟨k,List.mem_cons_of_mem _ hk,h⟩
theorem cells_25 (hR:Ns.length≤5) (hC:C≤5) (hin:rowsIn C Ns) {Os:List Nat} (hU:Under Ns Os):(cellsOf Os).length≤25:=by
 have h1:∀ k,k≤Os.length→(onesC Os k).length≤k*5:=by
  intro k
  induction k with
  | zero=>intro _;simp [onesC]
  | succ k ih =>
   intro hk
   have h1:=ih (by omega)
   have h2:(mems (Os.getD k 0)).length≤5:=by
    rw [mems_len]
    refine Nat.le_trans (card_bits (C:=C) fun j hj=>?_) hC
    have hj2:=hU.2 k (by omega) j hj
    have:=hin k (by rw [← hU.1];omega)
    rw [← this,Nat.testBit_and,testBit_lowN,Bool.and_eq_true,decide_eq_true_eq] at hj2
    exact hj2.2
   rw [onesC_succ,List.length_append,List.length_map]
   omega
 have h2:=h1 Os.length (Nat.le_refl _)
 rw [onesC_all] at h2
 have:=hU.1
 omega
theorem cov_allL (hl:Ns.length≤4096) (hin:rowsIn C Ns):∀ c∈cellsOf Ns,∃ k,k < (allL C Ns).length∧inS C Ns ((allL C Ns).getD k 0) c=true:=fun c hc=>by
 obtain ⟨ks,_,h2,h3⟩:=cov_rows (C:=C) hl hin
 obtain ⟨k,hk,h⟩:=h3 c hc
 exact ⟨k,(h2 k hk).2,h⟩
end
def greC (C:Nat) (Ns:List Nat):List Nat:=atL (allL C Ns) (greedyK C Ns (allL C Ns) (cellsOf Ns).length (cellsOf Ns))
theorem greedyc_any (p C:Nat) (Ns:List Nat) (w:World) (h:IsMat w p C Ns) (hin:rowsIn C Ns) (hR:Ns.length≤5) (hC:C≤5) (hT:Tab w) :
  Calls Tryz.prog 8 #[ptr p] w fun e w'=>∃ u r,e=.returned (.tuple #[.agg #[ptr u,ptr r],.int .i64 0])∧IsMO w' u (greC C Ns).length (usersN C Ns (greC C Ns))∧IsMO w' r C (greC C Ns)∧Below w.heap.size w w':=by
 obtain ⟨i0,hi0,hz0,hz1,hz2⟩:=info_parts info_con
 have hl:Ns.length≤4096:=Nat.le_trans hR (by decide)
 have hC12:C≤12:=Nat.le_trans hC (by decide)
 have hlim:((closL C Ns).length:Int)≤1000:=by
  have h1:=closL_len C Ns
  have h2:2 ^ C≤2 ^ 5:=Nat.pow_le_pow_right (by omega) hC
  omega
 have HCON:=Lib.hid (fun W' (hb':Below w.heap.size w W')=>Mix2.concepts_any p C Ns 1000 W' (h.below hb') (hT.below hb') hC12 hlim)
 have HK32:=Lib.hid (allL_len (C:=C) (Ns:=Ns) hC)
 have HCL:=Lib.hid (allL_clo (C:=C) (Ns:=Ns))
 have HCV:=Lib.hid (cov_allL (C:=C) hl hin)
 have H25:=Lib.hid (fun (Os:List Nat) (hU:Under Ns Os)=>cells_25 hR hC hin hU)
 have HH:=Lib.hid h
 obtain ⟨res,hres⟩:∃ r,r=greedyK C Ns (allL C Ns) (cellsOf Ns).length (cellsOf Ns):=⟨_,rfl⟩
 have hg:greC C Ns=atL (allL C Ns) res:=by rw [hres];rfl
 rw [hg]
 have HRES:=Lib.hid hres
 clear hlim hin hg hres h
 go_enter Tryz.func8,Tryz.ntmps8
 go_upto_region 3 with fail
 refine abs1 fun W1 h2 hb1 hz=>?_
 clear hz
 obtain ⟨g2,hg2⟩:∃ x,x=w.heap.size:=⟨_,rfl⟩
 have hg2w:w.heap.size≤g2:=by omega
 rw [← hg2] at h2 ⊢
 clear hg2
 go_wp2_with fail
 with_reducible refine (HCON.out W1 hb1).mono ?_
 rintro e W2 ⟨vL,rfl,hKL,hb2⟩
 have b2:=hb1.trans (hb2.mono hb1.size)
 replace h2:=h2.below hb2 h2.lt
 obtain ⟨AL,cL,rfl⟩:=hKL.val
 clear hb1 hb2 HCON
 have HALL:=hideC (all_cov p C Ns W2 (HH.out.below b2))
 go_wp2_with fail
 with_reducible refine HALL.out.mono ?_
 rintro e W3 ⟨vo,rfl,hO,hb3⟩
 have b3:=b2.trans (hb3.mono b2.size)
 replace h2:=h2.below hb3 h2.lt
 replace hKL:=hKL.below hb3
 obtain ⟨Ao,co,rfl⟩:=hO.val
 clear hb3 b2 HALL
 obtain ⟨K,hK⟩:∃ K,K=allL C Ns:=⟨_,rfl⟩
 have hres:=HRES.out
 have hcv:=HCV.out
 have hcl:=HCL.out
 have hKl:=HK32.out
 rw [← hK] at hres hcv hcl hKl hKL ⊢
 obtain ⟨T,hTt⟩:∃ T,T=(cellsOf Ns).length:=⟨_,rfl⟩
 have hT25:T≤25:=by rw [hTt];exact H25.out Ns (under_self Ns)
 rw [← hTt] at hres
 have hlt0:∀ k∈res,k < K.length:=by
  rw [hres];exact (greedyK_spec hcv T (cellsOf Ns) (fun c hc=>hc) (Nat.le_of_eq hTt.symm)).1
 have HLT:=Lib.hid (fun (ks:List Nat) (e:ks=res) (k:Nat) (hk:k∈ks)=>hlt0 k (by rw [← e];exact hk))
 clear hlt0
 have HRS:=Lib.hid hres;have HCVK:=Lib.hid hcv;have HCLK:=Lib.hid hcl;have HTT:=Lib.hid hTt
 have HKE:=Lib.hid hK
 clear hK HRES HCV HCL HK32 hres hcv hcl hTt
 go_wp2_with fail
 refine wp_loopF (β:=List Nat×Option Addr×Nat×List Nat×Value×Nat) (fun x f=>#[ptr p,f 1,ptr g2,.int .i64 0,.slice AL K.length cL,.int .i64 0,x.2.2.2.2.1,.slice x.2.1 Ns.length x.2.2.1,f 8,f 9,f 10,f 11,f 12,f 13,f 14,f 15,f 16,f 17,f 18,f 19,f 20,f 21,f 22,f 23,f 24,f 25,f 26,f 27,f 28,f 29,f 30,f 31,f 32,f 33,f 34,f 35,f 36,f 37,f 38,f 39,f 40,f 41,f 42,f 43,f 44,f 45,f 46,f 47,f 48,f 49,f 50,f 51,f 52,f 53,f 54,f 55,f 56,f 57,f 58,f 59,f 60,f 61,f 62,f 63,f 64,f 65,f 66])
  (fun x ds W=>ds=[]∧x.2.2.2.1.length=Ns.length∧OwnO W 0 (.slice x.2.1 Ns.length x.2.2.1) x.2.2.2.1∧Under Ns x.2.2.2.1∧OwnK W W3.heap.size x.2.2.2.2.1 C Ns (atL K x.1)∧x.1.length+x.2.2.2.2.2≤T∧res=x.1 ++ greedyK C Ns K x.2.2.2.2.2 (cellsOf x.2.2.2.1)∧(cellsOf x.2.2.2.1).length≤x.2.2.2.2.2∧Below W3.heap.size W3 W) (fun x=>x.2.2.2.2.2) ([],Ao,co,Ns,.slice none 0 0,T) rfl
  ⟨rfl,rfl,hO.low (Nat.zero_le _),under_self Ns,OwnK.nil _ _ _ _,by simp,by rw [List.nil_append];exact HRS.out,Nat.le_of_eq HTT.out.symm,Below.refl _ _⟩ ?_
 rintro ⟨ks,Ak,ck,Ok,v6,f0⟩ f ds W ⟨rfl,hOl,hOW,hUW,hKW,hks,hre,hfu,hbW⟩
 dsimp only at hOl hOW hUW hKW hks hre hfu ⊢
 obtain ⟨A6,c6,rfl⟩:=hKW.val
 have hl4:Ok.length≤4096:=by rw [hOl];exact hl
 have hn25:=H25.out Ok hUW
 have HSZ:=hideC (size_any 0 _ Ok W hOW hl4)
 obtain ⟨o,ho⟩:∃ o,o=cellsOf Ok:=⟨_,rfl⟩
 rw [← ho] at hre hfu hn25 HSZ
 have HO:=Lib.hid ho;have HOL:=Lib.hid hOl;have HUW:=Lib.hid hUW;have HOW:=Lib.hid hOW;have HKW:=Lib.hid hKW;have HRE:=Lib.hid hre;have HFU:=Lib.hid hfu;have HKS:=Lib.hid hks
 have b3W:=b3.trans (hbW.mono b3.size)
 clear ho hOl hUW hOW hKW hre hfu hks hl4
 by_cases hne:o=[]
 ·have hd:decide ((0:Int) < ((o.length:Nat):Int))=false:=by subst hne;rfl
  have hd2:decide (0 < o.length)=false:=by subst hne;rfl
  have hd3:¬ 0 < o.length:=by subst hne;simp
  have hre:=HRE.out
  rw [show greedyK C Ns K f0 o=[] by rw [hne];cases f0 <;> simp [greedyK],List.append_nil] at hre
  have hM:(atL K ks).length≤256:=by
   have:=HKS.out
   unfold atL;rw [List.length_map];omega
  have hcl2:∀ s∈atL K ks,cloN C Ns s=s:=fun s hs=>by
   obtain ⟨k,hk,rfl⟩:=List.mem_map.1 hs
   have hlt:k < K.length:=HLT.out ks hre.symm k hk
   refine HCLK.out _ ?_
   rw [List.getD_eq_getElem?_getD,List.getElem?_eq_getElem hlt]
   exact List.getElem_mem hlt
  obtain rfl:=hre
  clear hne HRE HFU HKS HO HOL HUW HOW hn25 H25 HCVK HRS HTT hT25 HLT
  go_wp2_with fail
  with_reducible refine HSZ.out.mono ?_
  rintro e W4 ⟨rfl,hb4⟩
  have b4:=hbW.trans (hb4.mono hbW.size)
  have b4w:=b3W.trans (hb4.mono b3W.size)
  have hK4:=HKW.out.below hb4
  have h24:=h2.below b4 h2.lt
  have hm4:=HH.out.below b4w
  clear HSZ hb4 hbW b3W HKW h2 HH hKL
  go_wp2_with fail
  with_reducible refine (rows_any p C Ns W4 hm4).mono ?_
  rintro e w' ⟨rfl,rfl⟩
  go_wp2_with fail
  with_reducible refine (cols_any p C Ns W4 hm4).mono ?_
  rintro e w' ⟨rfl,rfl⟩
  have HBU:=hideC (build_any W3.heap.size _ C Ns (atL K res) W4 hK4 hM (by omega) (by omega) hcl2)
  go_wp2_with fail
  with_reducible refine HBU.out.mono ?_
  rintro e W5 ⟨u,r,rfl,hu,hr,hb5⟩
  have h25:=h24.below hb5 h24.lt
  have b5:=b4w.trans (hb5.mono b4w.size)
  have c20:=h25.cell 0
  have c21:=h25.cell 1
  have f20:=h25.frozen 0
  have f21:=h25.frozen 1
  clear HBU hb5 b4 b4w hK4 h24 hm4
  go_wp2_with fail
  have x2:=(h25.set_ 0 (ptr u)).set_ 1 (ptr r)
  have xu:=(hu.put (i:=0) h25 (by decide) (by decide) (by decide) (ptr u)).put (i:=1) (h25.set_ 0 (ptr u)) (by decide) (by decide) (by decide) (ptr r)
  have xr:=(hr.put (i:=0) h25 (by decide) (by decide) (by decide) (ptr u)).put (i:=1) (h25.set_ 0 (ptr u)) (by decide) (by decide) (by decide) (ptr r)
  have xb:=(b5.setCell (p:=⟨g2,0,none⟩) hg2w (ptr u)).setCell (p:=⟨g2,1,none⟩) hg2w (ptr r)
  have cX0:=x2.cell 0
  have cX1:=x2.cell 1
  refine bodyPost_ret (v:=.tuple #[.agg #[ptr u,ptr r],.int .i64 0]) (by simp [results,Tryz.results8,go_sem,cX0,cX1]) rfl ⟨u,r,rfl,by rw [← HKE.out];exact xu,by rw [← HKE.out];exact xr,xb⟩
 ·have hpos:0 < o.length:=List.length_pos_iff.2 hne
  have hd:decide ((0:Int) < ((o.length:Nat):Int))=true:=decide_eq_true (by omega)
  have hd2:decide (0 < o.length)=true:=decide_eq_true hpos
  have hd3:0 < o.length:=hpos
  have hon:=best_on (C:=C) (Ns:=Ns) (L:=K) (o:=o) (fun c hc=>HCVK.out c (under_cells HUW.out c (by rw [← HO.out];exact hc))) hne
  have HON:=Lib.hid hon
  have hrs:∃ f1,f0=f1+1∧res=(ks ++ [bestK C Ns K o]) ++ greedyK C Ns K f1 (lessL C Ns o (K.getD (bestK C Ns K o) 0)):=by
   have:=HFU.out
   refine ⟨f0-1,by omega,?_⟩
   rw [HRE.out,show f0=(f0-1)+1 by omega,greedyK,if_neg hne]
   simp
  obtain ⟨f1,hf1,hre⟩:=hrs
  have HRE:=Lib.hid hre
  have HF1:=Lib.hid hf1
  clear hre hf1 hne hon hpos
  go_wp2_with fail
  with_reducible refine HSZ.out.mono ?_
  rintro e W4 ⟨rfl,hb4⟩
  have b4:=hbW.trans (hb4.mono hbW.size)
  have b4w:=b3W.trans (hb4.mono b3W.size)
  have hK4:=HKW.out.below hb4
  have hO4:=HOW.out.below hb4
  clear HSZ hb4 hbW b3W HKW HOW
  go_wp2_with fail
  refine wp_loopF (β:=Nat) (fun x f=>#[ptr p,f 1,ptr g2,.int .i64 0,.slice AL K.length cL,.int .i64 0,.slice A6 (atL K ks).length c6,.slice Ak Ns.length ck,.int .i64 ((bestT C Ns K o x).1:Int),.int .i64 ((bestT C Ns K o x).2:Int),f 10,f 11,f 12,f 13,f 14,f 15,f 16,f 17,f 18,f 19,f 20,f 21,f 22,f 23,f 24,f 25,f 26,f 27,f 28,f 29,.slice AL K.length cL,.int .i64 (K.length:Int),.int .i64 (x:Int),f 33,f 34,f 35,f 36,f 37,f 38,f 39,f 40,f 41,f 42,f 43,f 44,f 45,f 46,f 47,f 48,f 49,f 50,f 51,f 52,f 53,f 54,f 55,f 56,f 57,f 58,f 59,f 60,f 61,f 62,f 63,f 64,f 65,f 66])
   (fun x ds W=>ds=[]∧x≤K.length∧Below W4.heap.size W4 W) (fun x=>K.length-x) 0 rfl
   ⟨rfl,Nat.zero_le _,Below.refl _ _⟩ ?_
  rintro k f ds W ⟨rfl,hk,hbW⟩
  dsimp only at hk ⊢
  have b5:=b4.trans (hbW.mono b4.size)
  have b5w:=b4w.trans (hbW.mono b4w.size)
  by_cases hlt:k < K.length
  ·obtain ⟨s,hs⟩:∃ s,K[k]?=some s:=⟨_,List.getElem?_eq_getElem hlt⟩
   have hcs:=HCLK.out s (List.mem_of_getElem? hs)
   have hgd:K.getD k 0=s:=by rw [List.getD_eq_getElem?_getD,hs];rfl
   obtain ⟨gr,off,A1,c1,A2,c2,e,hgr,d0,d1,s1,s2⟩:=((hKL.below b5).isK (by omega)).at hs
   cases e
   obtain ⟨X,hX⟩:∃ X,X=havN C Ns s:=⟨_,rfl⟩
   rw [← hX] at d0 s1
   have hgc:gainR C Ns Ok s (mems X)=o.countP (inS C Ns s):=by rw [hX,gain_cells hl HOL.out s,hcs,HO.out]
   have HGA:=Lib.hid (fun W' (hb':Below W.heap.size W W')=>gain_any 0 (.slice Ak Ns.length ck) C Ns Ok s X A1 c1 A2 c2 W' ((hO4.below hbW).below hb') HOL.out hl hC12 hX hcs (s1.below hb') (s2.below hb') ((hT.below b5w).below hb'))
   rw [hgc] at HGA
   have hb1:=best_le (C:=C) (Ns:=Ns) (L:=K) (o:=o) k
   have hb2:=(bestT_spec (C:=C) (Ns:=Ns) (L:=K) (o:=o) k).2.2
   have hst:bestT C Ns K o (k+1)=if (bestT C Ns K o k).2 < o.countP (inS C Ns s) then (k,o.countP (inS C Ns s)) else bestT C Ns K o k:=by rw [bestT,hgd]
   have hg2:o.countP (inS C Ns s)≤o.length:=List.countP_le_length
   obtain ⟨B,hB⟩:∃ B,B=bestT C Ns K o k:=⟨_,rfl⟩
   obtain ⟨G1,hG1⟩:∃ G1,G1=o.countP (inS C Ns s):=⟨_,rfl⟩
   rw [← hB] at hst hb1 hb2 ⊢
   rw [← hG1] at HGA hst hg2
   obtain ⟨Bi,Bg⟩:=B
   dsimp only at hst hb1 hb2 ⊢
   have HST:=Lib.hid hst
   clear hst hgc hB hG1 hs hcs s1 s2 hX hgd
   go_upto_region 13 with fail
   refine abs1 fun W5 h11 hb5 hz=>?_
   clear hz
   have HG1:=hideC (HGA.out W5 hb5)
   have b6:=hbW.trans (hb5.mono hbW.size)
   obtain ⟨g11,hg11⟩:∃ x,x=W.heap.size:=⟨_,rfl⟩
   rw [← hg11] at h11 ⊢
   have c90:=h11.cell 0
   have c91:=h11.cell 1
   clear hg11 hb5 d0 d1 HGA
   go_wp2_with fail
   refine HG1.out.mono ?_
   rintro e W6 ⟨rfl,hb6⟩
   have b7:=b6.trans (hb6.mono b6.size)
   have hst:=HST.out
   by_cases hgt:Bg < G1
   ·have hd:decide ((Bg:Int) < (G1:Int))=true:=decide_eq_true (by omega)
    have hd2:decide (Bg < G1)=true:=decide_eq_true hgt
    have hd3:Bg < G1:=hgt
    rw [if_pos hgt] at hst
    have HS2:=Lib.hid hst
    clear hgt hst HST
    go_wp2_with fail
    exact ⟨k+1,by rw [HS2.out];rfl,⟨by first | rfl | trivial,hlt,b7⟩,by show K.length-(k+1) < K.length-k;omega⟩
   ·have hd:decide ((Bg:Int) < (G1:Int))=false:=decide_eq_false (by omega)
    have hd2:decide (Bg < G1)=false:=decide_eq_false hgt
    have hd3:¬ Bg < G1:=hgt
    rw [if_neg hgt] at hst
    have HS2:=Lib.hid hst
    clear hgt hst HST
    go_wp2_with fail
    exact ⟨k+1,by rw [HS2.out];rfl,⟨by first | rfl | trivial,hlt,b7⟩,by show K.length-(k+1) < K.length-k;omega⟩
  ·obtain rfl:k=K.length:=by omega
   clear hlt hk
   obtain ⟨kb,hkb⟩:∃ x,x=bestK C Ns K o:=⟨_,rfl⟩
   have e8:(bestT C Ns K o K.length).1=kb:=by rw [hkb];rfl
   rw [e8]
   have hon:=HON.out
   have hre:=HRE.out
   rw [← hkb] at hon hre
   obtain ⟨s,hs⟩:∃ s,K[kb]?=some s:=⟨_,List.getElem?_eq_getElem hon.1⟩
   have hcs:=HCLK.out s (List.mem_of_getElem? hs)
   have hgd:K.getD kb 0=s:=by rw [List.getD_eq_getElem?_getD,hs];rfl
   rw [hgd] at hon hre
   have hat:atL K (ks ++ [kb])=atL K ks ++ [s]:=by unfold atL;rw [List.map_append];simp only [List.map_cons,List.map_nil,hgd]
   obtain ⟨gr,off,A1,c1,A2,c2,e,hgr,d0,d1,s1,s2⟩:=((hKL.below b5).isK (by omega)).at hs
   cases e
   obtain ⟨X,hX⟩:∃ X,X=havN C Ns s:=⟨_,rfl⟩
   rw [← hX] at d0 s1
   have hll:(atL K ks).length≤25:=by
    have:=HKS.out
    unfold atL;rw [List.length_map];omega
   have hkl1:=hon.1
   have hpos:0 < Ok.length:=Nat.pos_of_ne_zero fun e=>by
    have h0:cellsOf Ok=[]:=by rw [List.eq_nil_of_length_eq_zero e];rfl
    have h1:=hon.2
    rw [HO.out,h0] at h1
    exact absurd h1 (by simp)
   obtain ⟨bg,hbg⟩:∃ x,x=(bestT C Ns K o K.length).2:=⟨_,rfl⟩
   rw [← hbg]
   have HONN:=Lib.hid hon.2;have HREN:=Lib.hid hre;have HAT:=Lib.hid hat;have HSS:=Lib.hid hs;have HX:=Lib.hid hX
   obtain ⟨vs,hown0,hsets⟩:=hK4.below hbW
   have hba:Below W.heap.size W (W.alloc (.cells #[.slice A1 (nw X) c1,.slice A2 (nw s) c2] 98)):=(Below.refl _ _).alloc (Nat.le_refl _) _
   have hlocs:=own_below hown0 hba
   have hb7:=b5.trans (hba.mono b5.size)
   have b7w:=b5w.trans (hba.mono b5w.size)
   have hO7:=(hO4.below hbW).below hba
   have s17:=s1.below hba
   have s27:=s2.below hba
   have HS7:=Lib.hid (hsets.below hba)
   have hsz:W3.heap.size≤W.heap.size:=b5.size
   clear hon hre hat hs hX hkb e8 hgd hcs hbg hown0 hsets hba s1 s2 HON HRE hO4 hK4 b4 b4w hbW b5 b5w
   go_upto_region 18 with ((at_builtin;refine wpList_append_own _ rfl _ _ 80 rfl (W3.heap.size) 98 i0 (.agg #[.slice none 0 0,.slice none 0 0]) 2 48 Tryz.underlying80 hi0 hz0 hz1 hz2 rfl (by decide) _ _ _ rfl (hlocs) ⟨W.heap.size,0,none⟩ 1 1 [.slice A1 (nw X) c1,.slice A2 (nw s) c2] rfl rfl (World.news_of_block (Blk.new _ _ _)) (by simp [Value.oneCell']) (by unfold maxLen;omega) (by omega) (by first | omega | (simp;omega)) ?_;intro v' w3 hown' hgrow _))
   obtain ⟨hK,hkw⟩:=OwnK.push (s:=s) HS7.out hlocs hgrow hown' rfl (by rw [← HX.out];exact s17) s27
   rw [← HAT.out] at hK
   have b8:=hb7.grown hgrow hb7.size (fun q hq=>(hlocs.lt q hq).1)
   have b8w:=b7w.grown hgrow b7w.size (fun q hq=>Nat.le_trans b3.size (hlocs.lt q hq).1)
   have hO8:=hO7.grown hlocs (by decide) (by decide) hgrow
   obtain ⟨gr',off',A1',c1',A2',c2',e,hgr',d0',d1',s1',s2'⟩:=((hKL.below b8).isK (by omega)).at HSS.out
   cases e
   rw [← HX.out] at d0' s1'
   have HWI:=hideC (without_cov 0 _ C Ns Ok s X A1' c1' A2' c2' w3 hO8 hpos HOL.out hl HX.out s1' s2' (hT.below b8w))
   clear hown' hgrow hlocs hkw hO7 hb7 b7w hO8 s17 s27 HS7 d0 d1 s1' s2' hpos
   go_wp2_with fail
   with_reducible refine HWI.out.mono ?_
   rintro e W9 ⟨v9,rfl,hO9,hb9⟩
   have hle:(lessO C Ns Ok s).length=Ns.length:=by rw [lessO_len];exact HOL.out
   obtain ⟨A9,c9,rfl⟩:=hO9.val
   rw [hle] at hO9 ⊢
   have hcl3:cellsOf (lessO C Ns Ok s)=lessL C Ns o s:=by rw [cellsOf_less,HO.out]
   go_wp2_with fail
   exact ⟨(ks ++ [kb],A9,c9,lessO C Ns Ok s,v',f1),rfl,⟨by first | rfl | trivial,hle,hO9.low (Nat.zero_le _),under_less HUW.out s,hK.below hb9,by have:=HKS.out;have:=HF1.out;simp only [List.length_append,List.length_cons,List.length_nil];omega,by rw [hcl3];exact HREN.out,by have:=HONN.out;have:=HFU.out;have:=HF1.out;show (cellsOf (lessO C Ns Ok s)).length≤f1;rw [hcl3];omega,b8.trans (hb9.mono b8.size)⟩,by have:=HF1.out;show f1 < f0;omega⟩
end Go.Proofs.YtafpmkdlciioaaaGreatDoor
namespace Go.Proofs.YtafpmkdlciioaaaGreatDoor
open Go.RowKit
def MinP (w:World) (v:Value) (C:Nat) (Ns:List Nat):Prop:=∃ base vss P,GN w base v P vss∧P.length≤5000∧(sizeM C Ns=0→P=[⟨3,0,0,[],[]⟩])∧∀ b,sizeM C Ns=b+1→GQ C Ns (allL C Ns) b 0 (cellsOf Ns) P
theorem MinP.put {w:World} {v:Value} {C g i:Nat} {Ns:List Nat} {t:TypeId} {cs:Array Value} (h:MinP w v C Ns) (hB:Blk w g t cs) (h1:t≠95) (h2:t≠3) (h3:t≠117) (u:Value):MinP (w.setCell ⟨g,i,none⟩ u) v C Ns:=by
 obtain ⟨base,vss,P,k1,k2⟩:=h
 exact ⟨base,vss,P,k1.far hB h1 h2 h3 u,k2⟩
theorem MinP.below {w w':World} {v:Value} {C:Nat} {Ns:List Nat} (h:MinP w v C Ns) (hb:Below w.heap.size w w'):MinP w' v C Ns:=by
 obtain ⟨base,vss,P,k1,k2⟩:=h
 exact ⟨base,vss,P,k1.below hb,k2⟩
theorem GN.nil (w:World) (base:Nat):GN w base (.slice none 0 0) [] []:=⟨rfl,fun k x h=>by simp at h,fun i j a b _ h=>by simp at h,World.ownsRow_nil _ _ _ _⟩
theorem GN.one {w:World} {base g:Nat} {k:Int} (hB:Blk w g 95 #[.int .u8 k,.int .i64 0,.int .i64 0,.slice none 0 0,.slice none 0 0]) (hg:base≤g):GN w base (.slice (some ⟨g,0,none⟩) 1 1) [⟨k,0,0,[],[]⟩] [[.int .u8 k,.int .i64 0,.int .i64 0,.slice none 0 0,.slice none 0 0]]:=by
 refine ⟨rfl,fun j x hx=>?_,fun i j a b hij ha hb g hg=>?_,⟨by simp,.inr ⟨g,1,_,rfl,hg,hB,by simp,by decide,by simp,by simp⟩⟩⟩
 ·have hj:j=0:=by have:=(List.getElem?_eq_some_iff.1 hx).1;simp at this;exact this
  subst hj
  obtain rfl:(⟨k,0,0,[],[]⟩:Nd)=x:=by simpa using hx
  exact ⟨_,rfl,_,_,rfl,World.ownsRow_nil _ _ _ _,OwnP.nil _ _⟩
 ·have hi:i=0:=by have:=(List.getElem?_eq_some_iff.1 ha).1;simp at this;exact this
  subst hi
  obtain rfl:=(show [.int .u8 k,.int .i64 0,.int .i64 0,.slice none 0 0,.slice none 0 0]=a by simpa using ha)
  cases hg
namespace Mix2
theorem minimal_any (p C:Nat) (Ns:List Nat) (limit:Int) (w:World) (h:IsMat w p C Ns) (hin:rowsIn C Ns) (hR:Ns.length≤5) (hC:C≤5) (hlim:((closL C Ns).length:Int)≤limit) (hT:Tab w) :
  Calls Tryz.prog 7 #[ptr p,.int .i64 limit] w fun e w'=>∃ u r A n c,e=.returned (.tuple #[.agg #[ptr u,ptr r],.agg #[.int .i64 (sizeM C Ns:Int),.slice A n c],.int .i64 0])∧IsMO w' u (minC C Ns).length (usersN C Ns (minC C Ns))∧IsMO w' r C (minC C Ns)∧MinP w' (.slice A n c) C Ns∧Below w.heap.size w w':=by
 have hl:Ns.length≤4096:=Nat.le_trans hR (by decide)
 have hC12:C≤12:=Nat.le_trans hC (by decide)
 have hlim1:¬ limit < 1:=by
  have:=(List.getElem?_eq_some_iff.1 (clos_first (C:=C) (Ns:=Ns) hl)).1
  omega
 have hK32:=allL_len (C:=C) (Ns:=Ns) hC
 have hszle:=sizeM_le (C:=C) hl hin
 have hno:=fun b=>sizeM_no (C:=C) (b:=b) hl hin
 have hcr:=sizeF_spec (C:=C) (Ns:=Ns) (L:=allL C Ns) (n:=Ns.length) (b:=0) (by rw [Nat.zero_add];exact cov_rows hl hin)
 have hyes:covK C Ns (allL C Ns) 0 (sizeM C Ns) (cellsOf Ns)=true:=(covK_iff _ _).2 hcr.2.2.1
 have hnoB:∀ b,b < sizeM C Ns→covK C Ns (allL C Ns) 0 b (cellsOf Ns)=false:=fun b hb=>by
  cases hc:covK C Ns (allL C Ns) 0 b (cellsOf Ns) with
  | false=>rfl
  | true=>exact absurd ((covK_iff _ _).1 hc) (hno b hb)
 have hml:=minC_len (C:=C) (Ns:=Ns) hC
 have hmk:minC C Ns=atL (allL C Ns) (leastK C Ns (allL C Ns) (allL C Ns).length 0 (sizeM C Ns) (cellsOf Ns)):=rfl
 have hMP:=fun (w':World) (v:Value)=>(Iff.rfl:MinP w' v C Ns↔MinP w' v C Ns)
 have hfew:=few_ok hC hR (allL_clo (C:=C) (Ns:=Ns)) (allL_nd C Ns)
 have hnil:Ns.length=0→allL C Ns=[]:=fun e=>by rw [List.eq_nil_of_length_eq_zero e];exact allL_nil C
 have hMC:=minC_clo (C:=C) (Ns:=Ns)
 obtain ⟨sz,hsz⟩:∃ s,s=sizeM C Ns:=⟨_,rfl⟩
 rw [← hsz] at hszle hno hyes hnoB hmk ⊢
 have hsz5:sz≤5:=Nat.le_trans hszle hR
 have HSZ:=Lib.hid hsz;have HNO:=Lib.hid hno;have HYES:=Lib.hid hyes;have HNOB:=Lib.hid hnoB;have HMK:=Lib.hid hmk;have HFW:=Lib.hid hfew;have HNIL:=Lib.hid hnil;have HMC:=Lib.hid hMC;have HIN:=Lib.hid hin;have HK32:=Lib.hid hK32;have HML:=Lib.hid hml
 clear hsz hno hyes hnoB hmk hfew hnil hMC hin hcr hMP hszle hK32 hml
 have HCON:=hideC (fun W (hb:Below w.heap.size w W)=>concepts_any p C Ns limit W (h.below hb) (hT.below hb) hC12 hlim)
 have hc12:¬ (12:Int) < (C:Int):=by omega
 go_enter Tryz.func7,Tryz.ntmps7
 go_upto_region 3 with fail
 refine abs2 fun W1 h4 h5 hb1 hz=>?_
 clear hz
 obtain ⟨g4,hg4⟩:∃ x,x=w.heap.size:=⟨_,rfl⟩
 have hg4w:w.heap.size≤g4:=by omega
 rw [← hg4] at h4 h5 ⊢
 clear hg4
 go_wp2_with fail
 with_reducible refine (cols_any p C Ns W1 (h.below hb1)).mono ?_
 rintro e w' ⟨rfl,rfl⟩
 go_wp2_with fail
 with_reducible refine (HCON.out W1 hb1).mono ?_
 rintro e W2 ⟨vL,rfl,hKL,hb2⟩
 have b2:=hb1.trans (hb2.mono hb1.size)
 have h42:=h4.below hb2 h4.lt
 have h52:=h5.below hb2 h5.lt
 obtain ⟨AL,cL,rfl⟩:=hKL.val
 clear h4 h5 hb1 hb2 HCON
 go_upto_region 9 with fail
 refine abs1 fun W3 hB hb3 hz=>?_
 clear hz
 have b3:=b2.trans (hb3.mono b2.size)
 have h43:=h42.below hb3 h42.lt
 have h53:=h52.below hb3 h52.lt
 have hKL3:=hKL.below hb3
 obtain ⟨gs,hgs⟩:∃ x,x=W2.heap.size:=⟨_,rfl⟩
 have hgsw:w.heap.size≤gs:=by rw [hgs];exact b2.size
 have h4s:g4+1 < gs:=by rw [hgs];exact h52.lt
 rw [← hgs] at hB ⊢
 clear hgs h42 h52 hKL hb3 b2
 have HALL:=hideC (all_cov p C Ns W3 (h.below b3))
 go_wp2_with fail
 with_reducible refine HALL.out.mono ?_
 rintro e W4 ⟨vo,rfl,hO,hb4⟩
 have b4:=b3.trans (hb4.mono b3.size)
 have h44:=h43.below hb4 h43.lt
 have h54:=h53.below hb4 h53.lt
 have hS4:IsSr W4 gs W1.heap.size (.slice AL (allL C Ns).length cL) p C Ns (allL C Ns) (0:Nat):=⟨hB.below hb4 hB.lt,hKL3.below hb4⟩
 obtain ⟨Ao,co,rfl⟩:=hO.val
 clear h43 h53 hKL3 hB hb4 b3 HALL
 obtain ⟨K,hK⟩:∃ K,K=allL C Ns:=⟨_,rfl⟩
 have HKc:=Lib.hid (show ∀ s∈K,cloN C Ns s=s by rw [hK];exact allL_clo)
 have hKl:K.length≤32:=by rw [hK];exact HK32.out
 rw [← hK] at hS4 HYES HNOB HMK HFW HNIL HNO ⊢
 have HK:=Lib.hid hK
 clear hK
 have hKl2:K.length≤4096:=Nat.le_trans hKl (by decide)
 go_wp2_with fail
 refine wp_loopF (β:=Nat×Nat) (fun x f=>#[ptr p,.int .i64 limit,f 2,f 3,ptr g4,ptr (g4+1),.int .i64 0,.slice AL K.length cL,.int .i64 0,ptr gs,.slice Ao Ns.length co,.int .i64 (x.1:Int),f 12,f 13,f 14,f 15,f 16,f 17,f 18,f 19,f 20,f 21,f 22,f 23,f 24,f 25,f 26,f 27,f 28,f 29,f 30,f 31,f 32,f 33,f 34,f 35,f 36,f 37,f 38,f 39,f 40,f 41,f 42,f 43,f 44,f 45,f 46,f 47,f 48,f 49,f 50,f 51,f 52,f 53,f 54,f 55,f 56,f 57,f 58,f 59,f 60,f 61,f 62,f 63,f 64,f 65,f 66,f 67,f 68,f 69,f 70,f 71,f 72,f 73,f 74,f 75,f 76,f 77,f 78,f 79,f 80,f 81,f 82,f 83,f 84,f 85,f 86,f 87,f 88,f 89,f 90,f 91,f 92,f 93,f 94,f 95,f 96,f 97,f 98,f 99,f 100,f 101,f 102,f 103,f 104,f 105])
  (fun x ds W=>ds=[]∧x.1≤sz∧x.2≤sumT x.1∧IsSr W gs W1.heap.size (.slice AL K.length cL) p C Ns K (x.2:Nat)∧But (some gs) W4 W∧Below w.heap.size w W) (fun x=>sz-x.1) (0,0) rfl
  ⟨rfl,Nat.zero_le _,Nat.le_refl _,hS4,But.refl _ _,b4⟩ ?_
 rintro ⟨b,nd⟩ f ds W ⟨rfl,hb,hnd,hSW,hbut,hbW⟩
 dsimp only at hb hnd hSW ⊢
 have hOW:=hO.but hS4.1 (by decide) (by decide) hbut
 have hb5:b≤5:=Nat.le_trans hb hsz5
 have hcv:=covk_any gs W1.heap.size _ p C Ns K w hgsw hT hl hC12 hKl2 HKc.out HFW.out 0 b (b:Int) nd Ns _ _ W rfl (Nat.le_trans hb5 (by decide)) (min_ar1 hb5 hnd) hbW hSW hOW (under_self Ns)
 have hcv2:Calls Tryz.prog 30 #[ptr gs,.slice Ao Ns.length co,.int .i64 (b:Int),.int .i64 0] W fun e w'=>∃ nd':Nat,e=.returned (.bool (covK C Ns K 0 b (cellsOf Ns)))∧nd≤nd'∧nd'≤nd+callsT b∧IsSr w' gs W1.heap.size (.slice AL K.length cL) p C Ns K nd'∧But (some gs) W w'∧Below w.heap.size w w':=hcv
 clear hcv
 by_cases hlt:b < sz
 ·rw [HNOB.out b hlt] at hcv2
  have HCV:=hideC hcv2
  clear hcv2
  go_wp2_with fail
  with_reducible refine HCV.out.mono ?_
  rintro e W5 ⟨nd5,rfl,hn1,hn2,hS5,hbut5,hb5'⟩
  have hnd5:nd5≤sumT (b+1):=by rw [sumT];omega
  have hbig:nd5≤1000000:=by have:=min_ar1 hb5 hnd;omega
  obtain ⟨-,hbg⟩:=big_no hbig
  have c2:=hS5.1.cell 2
  have HND5:=Lib.hid hnd5
  clear hn1 hn2 hnd5 hbig hnd
  go_wp2_with fail
  exact ⟨(b+1,nd5),rfl,⟨by first | rfl | trivial,hlt,HND5.out,hS5,hbut.trans hbut5,hb5'⟩,by show sz-(b+1) < sz-b;omega⟩
 ·obtain rfl:b=sz:=by omega
  rw [HYES.out] at hcv2
  have HCV:=hideC hcv2
  clear hcv2
  go_wp2_with fail
  with_reducible refine HCV.out.mono ?_
  rintro e W5 ⟨nd5,rfl,hn1,hn2,hS5,hbut5,hb5'⟩
  have hnd5:nd5≤sumT (b+1):=by rw [sumT];omega
  have hO5:=hOW.but hSW.1 (by decide) (by decide) hbut5
  have hbut45:=hbut.trans hbut5
  have h45:=hbut45.blk h44 (by simp;omega)
  have h55:=hbut45.blk h54 (by simp;omega)
  have hm2:=min_ar2 hb5 hnd5 hKl
  have hle:=leastc_any gs W1.heap.size _ p C Ns K w hgsw hT hl hC12 hKl2 HKc.out HFW.out b nd5 Ns _ _ W5 (Nat.le_trans hb5 (by decide)) (Nat.le_trans hm2 (by decide)) hb5' hS5 hO5 (under_self Ns) HNIL.out
  rw [← HMK.out] at hle
  have HLE:=hideC hle
  have HM2:=Lib.hid hm2
  clear hle hm2 hn1 hn2 hnd5 hnd hSW hOW hbut hbut5 HCV hbW hlt hbut45 h44 h54 hS4 hO
  go_wp2_with fail
  with_reducible refine HLE.out.mono ?_
  rintro e W6 ⟨v12,nd6,rfl,hC6,hn1,hn2,hS6,hbut6,hb6⟩
  have hnd6:nd6≤300000:=Nat.le_trans hn2 HM2.out
  have hO6:=hO5.but hS5.1 (by decide) (by decide) hbut6
  have h46:=hbut6.blk h45 (by simp;omega)
  have h56:=hbut6.blk h55 (by simp;omega)
  obtain ⟨A12,c12,rfl⟩:=hC6.val
  have HND6:=Lib.hid hnd6
  clear hnd6 hn1 hn2 hS5 hO5 hbut6 hb5' h45 h55 HLE HM2
  go_upto_region 15 with fail
  refine abs1 fun W7 hBp hb7 hz=>?_
  clear hz
  have b7:=hb6.trans (hb7.mono hb6.size)
  have hS7:=hS6.below hb7
  have hO7:=hO6.below hb7
  have hC7:=hC6.below hb7
  have h47:=h46.below hb7 h46.lt
  have h57:=h56.below hb7 h56.lt
  obtain ⟨gp,hgp⟩:∃ x,x=W6.heap.size:=⟨_,rfl⟩
  have hgpw:w.heap.size≤gp:=by rw [hgp];exact hb6.size
  have hgsp:gs < gp:=by rw [hgp];exact hS6.1.lt
  rw [← hgp] at hBp ⊢
  clear hgp hS6 hO6 hC6 h46 h56 hb7 hb6
  obtain ⟨cb,hcb⟩:∃ cb,cb=decide (0 < b):=⟨_,rfl⟩
  have HCB:=Lib.hid hcb
  clear hcb
  go_cut [66] (fun s wx=>s=.bool cb∧wx=W7)
  case first =>
   have hcb:=HCB.out
   by_cases hb0:0 < b
   ·rw [decide_eq_true hb0] at hcb
    have HC2:=Lib.hid hcb
    have hbp:decide (0 < b)=true:=decide_eq_true hb0
    have HBP:=Lib.hid hbp
    clear hcb hb0 hbp
    go_wp2_with fail
    go_meet
    rw [HC2.out]
    exact ⟨by first | rfl | rw [HBP.out],rfl⟩
   ·rw [decide_eq_false hb0] at hcb
    have HC2:=Lib.hid hcb
    have hbp:decide (0 < b)=false:=decide_eq_false hb0
    have HBP:=Lib.hid hbp
    clear hcb hb0 hbp
    go_wp2_with fail
    go_meet
    rw [HC2.out]
    exact ⟨by first | rfl | rw [HBP.out],rfl⟩
  case rest =>
  obtain ⟨hs66,hwc⟩:=hcut
  subst hs66
  rw [hwc]
  clear hwc
  go_upto_if 66 with fail
  go_cut [] (fun wx=>∃ A n c nd,Blk wx gp 91 #[ptr gs,.slice A n c]∧n≤5000∧nd≤1000000∧MinP wx (.slice A n c) C Ns∧Blk wx gs 85 #[ptr p,.slice AL K.length cL,.int .i64 ((nd:Nat):Int)]∧OwnK wx W5.heap.size (.slice A12 (minC C Ns).length c12) C Ns (minC C Ns)∧Blk wx g4 33 #[.pointer none,.pointer none]∧Blk wx (g4+1) 36 #[.int .i64 0,.slice none 0 0]∧Below w.heap.size w wx)
  case first =>
   cases cb with
   | true =>
    obtain ⟨m,hm⟩:∃ m,b=m+1:=⟨b-1,by have:=of_decide_eq_true HCB.out.symm;omega⟩
    have hm4:m≤4:=by omega
    obtain ⟨ha1,ha2⟩:=min_ar3 hm4 HND6.out
    have hgr:=growc_any gs gp W7.heap.size W1.heap.size _ p C Ns K w hgsw hgpw b7.size (by omega) hT h hR hC HIN.out hKl2 HKc.out HFW.out m ((b:Int)-1) nd6 (.slice none 0 0) [] [] Ns _ _ W7 (by omega) (Nat.le_trans hm4 (by decide)) ha2 (Nat.le_trans ha1 (by decide)) b7 (Nat.le_refl _) hS7 hBp (GN.nil _ _) hO7 (under_self Ns) (HNO.out m (by omega))
    have HGR:=hideC hgr
    have hwb:wrap64 ((b:Int)-1)=(b:Int)-1:=IntWalk.wrap64_in _ ⟨by omega,by omega⟩
    have HA1:=Lib.hid ha1;have HA2:=Lib.hid ha2;have HM:=Lib.hid hm
    clear hgr ha1 ha2 hm hm4
    go_wp2_with fail
    with_reducible refine HGR.out.mono ?_
    rintro e W8 ⟨rfl,Q,vss2,v8,nd8,hN8,-,hB8,hS8,hnd8,hGQ,hQl,kn8,hb8⟩
    rw [List.nil_append,List.nil_append] at hN8
    obtain ⟨A8,c8,rfl⟩:=hN8.val
    have hC8:=hC7.kn kn8 hS7.1 hBp
    have h48:=kn8.2 _ _ _ (by decide) (show g4≠gs by omega) (show g4≠gp by omega) h47
    have h58:=kn8.2 _ _ _ (by decide) (show g4+1≠gs by omega) (show g4+1≠gp by omega) h57
    have hQ5:Q.length≤5000:=Nat.le_trans hQl (by have:=HA2.out;rwa [Nat.zero_add] at this)
    have hn8:nd8≤1000000:=Nat.le_trans hnd8 (Nat.le_trans HA1.out (by decide))
    go_wp2_with fail
    go_meet
    refine ⟨A8,Q.length,c8,nd8,hB8,hQ5,hn8,⟨_,vss2,Q,hN8,hQ5,fun h0=>absurd (HSZ.out.trans h0) (by have:=HM.out;omega),fun b' hb'=>?_⟩,hS8.1,hC8,h48,h58,hb8⟩
    have e:=HSZ.out
    have e2:=HM.out
    obtain rfl:b'=m:=by omega
    rw [← HK.out]
    exact hGQ
   | false =>
    have hb0:b=0:=by have:=of_decide_eq_false HCB.out.symm;omega
    have HB0:=Lib.hid hb0
    clear hb0
    have p1:=hBp.cell 1
    have f1:=hBp.frozen 1
    have lp:=hBp.lt
    obtain ⟨V7,hV7⟩:∃ V,V=W7.setCell ⟨gp,1,none⟩ (.slice (some ⟨W7.heap.size,0,none⟩) 1 1):=⟨_,rfl⟩
    have hVs:V7.heap.size=W7.heap.size:=by rw [hV7];simp [World.setCell]
    have hBpa:Blk V7 gp 91 #[ptr gs,.slice (some ⟨W7.heap.size,0,none⟩) 1 1]:=by rw [hV7];exact hBp.set_ 1 _
    have hba:Below V7.heap.size V7 (V7.alloc (.cells #[.int .u8 3,.int .i64 0,.int .i64 0,.slice none 0 0,.slice none 0 0] 95)):=(Below.refl _ _).alloc (Nat.le_refl _) _
    have hn:Blk (V7.alloc (.cells #[.int .u8 3,.int .i64 0,.int .i64 0,.slice none 0 0,.slice none 0 0] 95)) W7.heap.size 95 #[.int .u8 3,.int .i64 0,.int .i64 0,.slice none 0 0,.slice none 0 0]:=Blk.new_ hVs.symm _ _
    have hGN:=GN.one (base:=W7.heap.size) hn (Nat.le_refl _)
    have hB8:=hBpa.below hba hBpa.lt
    have hC8:=(show OwnK V7 W5.heap.size (.slice A12 (minC C Ns).length c12) C Ns (minC C Ns) by rw [hV7];exact hC7.put hBp (by decide) (by decide) 1 _).below hba
    have hS8':Blk V7 gs 85 #[ptr p,.slice AL K.length cL,.int .i64 ((nd6:Nat):Int)]:=by rw [hV7];exact hS7.1.far (p:=⟨gp,1,none⟩) (show gs≠gp by omega) _
    have hS8:=hS8'.below hba hS8'.lt
    have h48':Blk V7 g4 33 #[.pointer none,.pointer none]:=by rw [hV7];exact h47.far (p:=⟨gp,1,none⟩) (show g4≠gp by omega) _
    have h48:=h48'.below hba h48'.lt
    have h58':Blk V7 (g4+1) 36 #[.int .i64 0,.slice none 0 0]:=by rw [hV7];exact h57.far (p:=⟨gp,1,none⟩) (show g4+1≠gp by omega) _
    have h58:=h58'.below hba h58'.lt
    have hb8':Below w.heap.size w V7:=by rw [hV7];exact b7.setCell (p:=⟨gp,1,none⟩) hgpw _
    have hb8:=hb8'.trans (hba.mono hb8'.size)
    have HV7:=Lib.hid hV7
    clear hV7 hVs hBpa hba hS8' h48' h58' hb8'
    have HN6:=Lib.hid (Nat.le_trans HND6.out (show 300000≤1000000 by decide))
    clear hn
    go_wp2_with fail
    go_meet
    rw [← HV7.out]
    exact ⟨_,1,1,nd6,hB8,by decide,HN6.out,⟨_,_,_,hGN,by decide,fun _=>rfl,fun b' hb'=>absurd (HSZ.out.trans hb') (by have:=HB0.out;omega)⟩,hS8,hC8,h48,h58,hb8⟩
  case rest =>
  obtain ⟨A9,n9,c9,nd9,hB9,hn9,hnd9,hMP,hS9,hC9,h49,h59,hb9⟩:=hcut
  obtain ⟨W8,hW8⟩:∃ V,V=wc:=⟨_,rfl⟩
  rw [← hW8] at hB9 hMP hS9 hC9 h49 h59 hb9 ⊢
  clear hW8 hS7 hO7 hC7 h47 h57 hBp b7 HCB HND6
  have HMP:=Lib.hid hMP
  have c2:=hS9.cell 2
  have cp:=hB9.cell 1
  obtain ⟨hg1,-⟩:=big_no hnd9
  have hg2:=big_len hn9
  clear hMP hnd9 hn9
  have hrw:=rows_any p C Ns W8 (h.below hb9)
  have HRW:=hideC hrw
  clear hrw
  go_wp2_with fail
  with_reducible refine HRW.out.mono ?_
  rintro e w' ⟨rfl,rfl⟩
  go_wp2_with fail
  with_reducible refine (cols_any p C Ns W8 (h.below hb9)).mono ?_
  rintro e w' ⟨rfl,rfl⟩
  have HBU:=hideC (build_any W5.heap.size (.slice A12 (minC C Ns).length c12) C Ns (minC C Ns) W8 hC9 (Nat.le_trans HML.out (by decide)) (Nat.le_trans hR (by decide)) (Nat.le_trans hC (by decide)) HMC.out)
  clear HRW c2 cp
  go_wp2_with fail
  with_reducible refine HBU.out.mono ?_
  rintro e W9 ⟨u,r,rfl,hu,hr,hbu⟩
  have b9:=hb9.trans (hbu.mono hb9.size)
  have h4u:=h49.below hbu h49.lt
  have h5u:=h59.below hbu h59.lt
  have hBu:=hB9.below hbu hB9.lt
  have hMu:=HMP.out.below hbu
  clear HBU HMP hS9 hC9 h49 h59 hB9 hbu
  go_upto_region 21 with fail
  refine abs1 fun W10 h14 hb10 hz=>?_
  clear hz
  have b10:=b9.trans (hb10.mono b9.size)
  have h4v:=h4u.below hb10 h4u.lt
  have h5v:=h5u.below hb10 h5u.lt
  have hBv:=hBu.below hb10 hBu.lt
  have hMv:=hMu.below hb10
  have hu2:=hu.below hb10
  have hr2:=hr.below hb10
  obtain ⟨g14,hg14⟩:∃ x,x=W9.heap.size:=⟨_,rfl⟩
  have hg14x:g4+1 < g14:=by rw [hg14];exact h5u.lt
  rw [← hg14] at h14 ⊢
  clear hg14 h4u h5u hBu hMu hu hr hb10
  go_upto_region 23 with fail
  have q0:=h14.cell 0
  have q1:=h14.cell 1
  have q2:=hBv.cell 1
  refine wp_spine (fun V=>V.cell? ⟨g14,0,none⟩=some (ptr u)∧V.cell? ⟨g14,1,none⟩=some (ptr r)∧V.cell? ⟨gp,1,none⟩=some (.slice A9 n9 c9)) [0,1,2,3,4] [5,6,7] (by kernel_rfl) (by kernel_rfl) ?_
  iterate 5 (refine wpE_op (v:=?_) rfl rfl (fun W hW=>?_) ?_;rotate_left;(obtain ⟨x0,x1,x2⟩:=hW;go_simp;first | done | with_reducible rfl);simp only [pt1,pt3,pt4,pt5])
  have hd:Below W10.heap.size W10 W10.drew:=(Below.refl _ _).drew
  obtain ⟨V,hV⟩:∃ V,V=W10.drew:=⟨_,rfl⟩
  rw [← hV] at hd
  refine wpE_nil ⟨fun h=>(by cases h),?_⟩
  rw [← hV]
  clear hV
  have h4V:=h4v.below hd h4v.lt
  have h5V:=h5v.below hd h5v.lt
  have h14V:=h14.below hd h14.lt
  have hBV:=hBv.below hd hBv.lt
  have f40:=h4V.frozen 0
  have f41:=h4V.frozen 1
  have c40:=h4V.cell 0
  have c41:=h4V.cell 1
  refine wpSp_op rfl ⟨onB hd q0,onB hd q1,onB hd q2⟩ ?_
  go_wp2_with fail
  have e14:∀ g:Nat,g≠g4→∀ (t:TypeId) (cs:Array Value),Blk V g t cs→Blk ((V.setCell ⟨g4,0,none⟩ (ptr u)).setCell ⟨g4,1,none⟩ (ptr r)) g t cs:=fun g hg t cs hB=>(hB.far (p:=⟨g4,0,none⟩) (show g≠g4 from hg) _).far (p:=⟨g4,1,none⟩) (show g≠g4 from hg) _
  have a14:=e14 g14 (by omega) _ _ h14V
  have aB:=e14 gp (by omega) _ _ hBV
  have a5:=e14 (g4+1) (by omega) _ _ h5V
  have a4:=(h4V.set_ 0 (ptr u)).set_ 1 (ptr r)
  have au:=((hu2.below hd).put (i:=0) h4V (by decide) (by decide) (by decide) (ptr u)).put (i:=1) (h4V.set_ 0 (ptr u)) (by decide) (by decide) (by decide) (ptr r)
  have ar:=((hr2.below hd).put (i:=0) h4V (by decide) (by decide) (by decide) (ptr u)).put (i:=1) (h4V.set_ 0 (ptr u)) (by decide) (by decide) (by decide) (ptr r)
  have aM:=((hMv.below hd).put (i:=0) h4V (by decide) (by decide) (by decide) (ptr u)).put (i:=1) (h4V.set_ 0 (ptr u)) (by decide) (by decide) (by decide) (ptr r)
  have ab:=((b10.trans (hd.mono b10.size)).setCell (p:=⟨g4,0,none⟩) hg4w (ptr u)).setCell (p:=⟨g4,1,none⟩) hg4w (ptr r)
  obtain ⟨V1,hV1⟩:∃ X,X=(V.setCell ⟨g4,0,none⟩ (ptr u)).setCell ⟨g4,1,none⟩ (ptr r):=⟨_,rfl⟩
  rw [← hV1] at a14 aB a5 a4 au ar aM ab ⊢
  clear hV1 e14 h14V hBV h4V h5V f40 f41 c40 c41 hd h14 hBv h4v h5v hMv hu2 hr2 b10 q0 q1 q2
  refine nxt_op rfl ⟨a14.cell 0,a14.cell 1,aB.cell 1⟩ ?_
  have f50:=a5.frozen 0
  have f51:=a5.frozen 1
  have c50:=a5.cell 0
  have c51:=a5.cell 1
  go_wp2_with fail
  have x14:=(a14.far (p:=⟨g4+1,0,none⟩) (show g14≠g4+1 by omega) (.int .i64 (b:Int))).far (p:=⟨g4+1,1,none⟩) (show g14≠g4+1 by omega) (.slice A9 n9 c9)
  have xB:=(aB.far (p:=⟨g4+1,0,none⟩) (show gp≠g4+1 by omega) (.int .i64 (b:Int))).far (p:=⟨g4+1,1,none⟩) (show gp≠g4+1 by omega) (.slice A9 n9 c9)
  have x4:=(a4.far (p:=⟨g4+1,0,none⟩) (show g4≠g4+1 by omega) (.int .i64 (b:Int))).far (p:=⟨g4+1,1,none⟩) (show g4≠g4+1 by omega) (.slice A9 n9 c9)
  have x5:=(a5.set_ 0 (.int .i64 (b:Int))).set_ 1 (.slice A9 n9 c9)
  have xu:=(au.put (i:=0) a5 (by decide) (by decide) (by decide) (.int .i64 (b:Int))).put (i:=1) (a5.set_ 0 (.int .i64 (b:Int))) (by decide) (by decide) (by decide) (.slice A9 n9 c9)
  have xr:=(ar.put (i:=0) a5 (by decide) (by decide) (by decide) (.int .i64 (b:Int))).put (i:=1) (a5.set_ 0 (.int .i64 (b:Int))) (by decide) (by decide) (by decide) (.slice A9 n9 c9)
  have xM:=(aM.put (i:=0) a5 (by decide) (by decide) (by decide) (.int .i64 (b:Int))).put (i:=1) (a5.set_ 0 (.int .i64 (b:Int))) (by decide) (by decide) (by decide) (.slice A9 n9 c9)
  have xb:=(ab.setCell (p:=⟨g4+1,0,none⟩) (show w.heap.size≤g4+1 by omega) (.int .i64 (b:Int))).setCell (p:=⟨g4+1,1,none⟩) (show w.heap.size≤g4+1 by omega) (.slice A9 n9 c9)
  obtain ⟨V2,hV2⟩:∃ X,X=(V1.setCell ⟨g4+1,0,none⟩ (.int .i64 (b:Int))).setCell ⟨g4+1,1,none⟩ (.slice A9 n9 c9):=⟨_,rfl⟩
  rw [← hV2] at x14 xB x4 x5 xu xr xM xb ⊢
  clear hV2 a14 aB a4 a5 au ar aM ab f50 f51 c50 c51
  refine nxt_op rfl ⟨x14.cell 0,x14.cell 1,xB.cell 1⟩ ?_
  go_wp2_with fail
  refine nxt_nil ?_
  go_wp2_with fail
  have cX0:=x4.cell 0
  have cX1:=x4.cell 1
  have cY0:=x5.cell 0
  have cY1:=x5.cell 1
  refine bodyPost_ret (v:=.tuple #[.agg #[ptr u,ptr r],.agg #[.int .i64 (b:Int),.slice A9 n9 c9],.int .i64 0]) (by simp [results,Tryz.results7,go_sem,cX0,cX1,cY0,cY1]) rfl ⟨u,r,A9,n9,c9,rfl,xu,xr,xM,xb⟩
end Mix2
def validN (C:Nat) (Ns:List Nat) (D:Nat) (Us:List Nat) (E:Nat) (Ps:List Nat):Bool:=decide (D=Ps.length)&&decide (E=C∧(mprod Us Ps Us.length).length=Ns.length∧withinM (mprod Us Ps Us.length) Ns∧withinM Ns (mprod Us Ps Us.length))
theorem valid_any (q u r C D E:Nat) (Ns Us Ps:List Nat) (w:World) (hm:IsMat w q C Ns) (hu:IsMat w u D Us) (hr:IsMat w r E Ps) (hin:rowsIn D Us) (hT:Tab w) :
  Calls Tryz.prog 9 #[ptr q,.agg #[ptr u,ptr r]] w fun e w'=>e=.returned (.bool (validN C Ns D Us E Ps))∧Below w.heap.size w w':=by
 by_cases hD:D=Ps.length
 ·have hv:validN C Ns D Us E Ps=decide (E=C∧(mprod Us Ps Us.length).length=Ns.length∧withinM (mprod Us Ps Us.length) Ns∧withinM Ns (mprod Us Ps Us.length)):=by unfold validN;rw [decide_eq_true hD,Bool.true_and]
  obtain ⟨vb,hvb⟩:∃ b,b=validN C Ns D Us E Ps:=⟨_,rfl⟩
  rw [← hvb] at hv ⊢
  have HPR:=hideC (fun W (hb:Below w.heap.size w W)=>prod_any u r D E Us Ps W (hu.below hb) (hr.below hb) hD hin (hT.below hb))
  have heq:(∀ b W,Below w.heap.size w W→IsMat W b E (mprod Us Ps Us.length)→Calls Tryz.prog 38 #[ptr b,ptr q] W fun e w'=>e=.returned (.bool vb)∧Below W.heap.size W w'):=fun b W hb hx=>by
   have:=equalm_any b q E C (mprod Us Ps Us.length) Ns W hx (hm.below hb)
   rw [← hv] at this
   exact this
  have HEQ:=hideC heq
  clear hv hvb hD heq
  go_enter Tryz.func9,Tryz.ntmps9
  go_upto_region 1 with fail
  refine abs1 fun W0 h3 hb0 hz=>?_
  clear hz
  obtain ⟨g3,hg3⟩:∃ x,x=w.heap.size:=⟨_,rfl⟩
  rw [← hg3] at h3 ⊢
  clear hg3
  have c0:=h3.cell 0
  have c1:=h3.cell 1
  go_wp2_with fail
  with_reducible refine (HPR.out W0 hb0).mono ?_
  rintro e W1 ⟨b,rfl,hx,hb1⟩
  have HE:=hideC (HEQ.out b W1 (hb0.trans (hb1.mono hb0.size)) hx)
  go_wp2_with fail
  with_reducible refine HE.out.mono ?_
  rintro e W2 ⟨rfl,hb2⟩
  go_wp2_with fail
  go_ret
  exact ⟨rfl,(hb0.trans (hb1.mono hb0.size)).trans (hb2.mono (hb0.trans (hb1.mono hb0.size)).size)⟩
 ·have hv:validN C Ns D Us E Ps=false:=by unfold validN;rw [decide_eq_false hD,Bool.false_and]
  rw [hv]
  have HPR:=hideC (fun W (hb:Below w.heap.size w W)=>prod_ne u r D E Us Ps W (hu.below hb) (hr.below hb) hD)
  clear hv hD
  go_enter Tryz.func9,Tryz.ntmps9
  go_upto_region 1 with fail
  refine abs1 fun W0 h3 hb0 hz=>?_
  clear hz
  obtain ⟨g3,hg3⟩:∃ x,x=w.heap.size:=⟨_,rfl⟩
  rw [← hg3] at h3 ⊢
  clear hg3
  have c0:=h3.cell 0
  have c1:=h3.cell 1
  go_wp2_with fail
  with_reducible refine (HPR.out W0 hb0).mono ?_
  rintro e W1 ⟨rfl,hb1⟩
  go_wp2_with fail
  go_ret
  exact ⟨rfl,hb0.trans (hb1.mono hb0.size)⟩
namespace Mix2
end Mix2
end Go.Proofs.YtafpmkdlciioaaaGreatDoor
