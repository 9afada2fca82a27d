import Derived.Test.YtafpmkdlciioaaaGreatDoorPk08
import Derived.Test.YtafpmkdlciioaaaGreatDoorPk05
import Derived.Test.YtafpmkdlciioaaaGreatDoorPk03
import Derived.Test.YtafpmkdlciioaaaGreatDoorPk04
set_option maxHeartbeats 8000000
set_option maxRecDepth 100000
namespace Go.Proofs.YtafpmkdlciioaaaGreatDoor
open Go.RowKit
attribute [local go_sem] Oper.semAt_some
def KeepC (W W':World):Prop:=W.heap.size≤W'.heap.size∧∀ (g:Nat) cs t fz,W.heap[g]?=some (Obj.cells cs t fz)→W'.heap[g]?=some (Obj.cells cs t fz)
theorem KeepC.keep {W W':World} (h:KeepC W W'):KeepW W W':=⟨h.1,fun _ _ hb=>h.2 _ _ _ _ hb⟩
theorem Blk.kc {W W':World} {g:Nat} {t:TypeId} {cs:Array Value} (hb:Blk W g t cs) (h:KeepC W W'):Blk W' g t cs:=h.2 _ _ _ _ hb
theorem KeepC.of_grown {W W':World} {row:Option Nat} {n:Nat} (hg:W.grownBy W' row) (hr:∀ k,row=some k→n≤k∧∃ o,W.heap[k]?=some o∧o.isCells=false):KeepC W W' :=
 ⟨hg.size,fun g _ _ _ hb=>(hg.block g (Array.getElem?_eq_some_iff.1 hb).1 fun e=>by
  obtain ⟨_,o,ho,hc⟩:=hr g e.symm
  rw [ho] at hb;cases hb;cases hc).trans hb⟩
def KeepD (W0 W:World):Prop:=W0.heap.size≤W.heap.size∧∀ g:Nat,W0.heap[g]?=some (.deferred (some []))→W.heap[g]?=some (.deferred (some []))
theorem KeepD.refl (W:World):KeepD W W:=⟨Nat.le_refl _,fun _ h=>h⟩
theorem KeepD.others {W0 W W':World} (h:KeepD W0 W) (k:KeepsOthers W W'):KeepD W0 W':=⟨Nat.le_trans h.1 k.size,fun g hg=>k.same g _ (h.2 g hg) rfl⟩
theorem KeepD.grown {W0 W W':World} {row:Option Nat} (h:KeepD W0 W) (hg:W.grownBy W' row) (hr:∀ k,row=some k→W0.heap.size≤k∧∃ o,W.heap[k]?=some o∧o.isCells=false):KeepD W0 W' :=
 ⟨Nat.le_trans h.1 hg.size,fun g hgd=>(hg.block g (Array.getElem?_eq_some_iff.1 (h.2 g hgd)).1 fun e=>by have:=(hr g e.symm).1;have:=(Array.getElem?_eq_some_iff.1 hgd).1;omega).trans (h.2 g hgd)⟩
theorem Marks.kd {n₀:Nat} {W W':World} {ds:List Deferred} (h:Marks n₀ W ds) (k:KeepD W W'):Marks n₀ W' ds:=h.keep fun g _ hg=>k.2 g hg
theorem KeepD.of_below {W W':World} (h:Below W.heap.size W W'):KeepD W W':=⟨h.size,fun g hg=>(h.block g (Array.getElem?_eq_some_iff.1 hg).1).trans hg⟩
theorem Marks.cons {n₀ D:Nat} {W0 W:World} {ds:List Deferred} (h:Marks n₀ W0 ds) (k:KeepD W0 W) (hn:n₀≤D) (hD:W0.heap.size≤D) (hK:W.heap[D]?=some (.deferred (some []))):Marks n₀ W ({ target:=.collected D,args:=#[] } :: ds) :=
 ⟨⟨D,rfl,hn,hK,fun e he D' hD'=>by have:=h.lt e he D' hD';omega⟩,h.kd k⟩
theorem IsMat.mv {w:World} {p C:Nat} {Ns:List Nat} (h:IsMat w p C Ns):IsMV w (some ⟨p,0,none⟩) C Ns:=.inr ⟨p,rfl,h⟩
theorem of_is {w:World} {m:Option Addr} {C:Nat} {Ns:List Nat} {v:Value} {S X Y:Nat} (hX:havN C Ns S=X) (hY:cloN C Ns S=Y) (h:IsMV w m C Ns) (hs:IsSet w v S) (hT:Tab w) :
  Calls Tryz.prog 127 #[.pointer m,.agg #[v]] w fun e w'=>∃ A c B d,e=.returned (.agg #[.slice A (nw X) c,.slice B (nw Y) d])∧IsSet w' (.slice A (nw X) c) X∧IsSet w' (.slice B (nw Y) d) Y∧Below w.heap.size w w':=by
 refine (of_concept m C Ns v S w h hs hT).mono ?_
 rintro e w' ⟨r,q,rfl,hr,hq,hb⟩
 obtain ⟨A,c,rfl,_⟩:=id hr
 obtain ⟨B,d,rfl,_⟩:=id hq
 subst hX;subst hY
 exact ⟨_,_,_,_,rfl,hr,hq,hb⟩
def gainR (C:Nat) (Ns Os:List Nat) (s:Nat) (ks:List Nat):Nat:=(ks.map fun i=>card (Os.getD i 0&&&cloN C Ns s)).foldl (·+·) 0
theorem gainR_snoc (C:Nat) (Ns Os:List Nat) (s:Nat) (ks:List Nat) (i:Nat):gainR C Ns Os s (ks ++ [i])=gainR C Ns Os s ks+card (Os.getD i 0&&&cloN C Ns s):=by simp [gainR]
def greatO (C:Nat) (Ns Os:List Nat) (n:Nat):Nat:=((List.range n).map fun s=>gainR C Ns Os s (mems (havN C Ns s))).foldl max 0
theorem greatO_succ (C:Nat) (Ns Os:List Nat) (n:Nat):greatO C Ns Os (n+1)=max (greatO C Ns Os n) (gainR C Ns Os n (mems (havN C Ns n))):=by simp [greatO,List.range_succ]
theorem filter_up {p:Nat→Bool} {C:Nat} (h:∀ j,p j=true→j < C):∀ n,((List.range n).filter p).length≤C
 | 0=>by simp
 | n+1=>by
  by_cases hn:n < C
  ·exact Nat.le_trans (List.length_filter_le _ _) (by simp;omega)
  ·rw [List.range_succ,List.filter_append,List.length_append]
   have:p n=false:=by
    cases hp:p n with
    | false=>rfl
    | true=>exact absurd (h n hp) hn
   have ih:=filter_up h n
   simp [this];exact ih
theorem card_bits {N C:Nat} (h:∀ j,N.testBit j=true→j < C):card N≤C:=by
 rw [← mems_len]
 unfold mems
 rw [mTo_map]
 exact filter_up h _
theorem card_and {C:Nat} {Ns:List Nat} (X s:Nat):card (X&&&cloN C Ns s)≤C:=card_bits fun j hj=>by
 rw [Nat.testBit_and,Bool.and_eq_true] at hj
 exact comN_lt hj.2
theorem gainR_le (C:Nat) (Ns Os:List Nat) (s:Nat):∀ ks:List Nat,gainR C Ns Os s ks≤ks.length*C:=fun ks=>by
 have key:∀ (l:List Nat) (a:Nat),(l.map fun i=>card (Os.getD i 0&&&cloN C Ns s)).foldl (·+·) a≤a+l.length*C:=by
  intro l
  induction l with
  | nil=>intro a;simp
  | cons i l ih =>
   intro a
   rw [List.map_cons,List.foldl_cons]
   refine Nat.le_trans (ih _) ?_
   have:=card_and (C:=C) (Ns:=Ns) (Os.getD i 0) s
   rw [List.length_cons,Nat.add_mul,Nat.one_mul];omega
 have:=key ks 0
 unfold gainR;omega
theorem mod_step (n j:Nat):n%2 ^ (j+1)=if n.testBit j=true then n%2 ^ j|||2 ^ j else n%2 ^ j:=nat_ext fun x=>by
 have e:(if n.testBit j=true then n%2 ^ j|||2 ^ j else n%2 ^ j).testBit x=((n%2 ^ j).testBit x||(decide (j=x)&&n.testBit j)):=by
  split
  ·rename_i h;rw [Nat.testBit_or,Nat.testBit_two_pow,h,Bool.and_true]
  ·rename_i h;rw [Bool.not_eq_true] at h;rw [h];simp
 rw [e,Nat.testBit_mod_two_pow,Nat.testBit_mod_two_pow]
 by_cases h1:x < j
 ·simp [h1,show x < j+1 by omega,show ¬ j=x by omega]
 ·by_cases h2:x=j
  ·subst h2;simp
  ·simp [h1,show ¬ x < j+1 by omega,show ¬ j=x by omega]
theorem greatest_any (p C:Nat) (Ns:List Nat) (A:Option Addr) (c:Nat) (vs:List Value) (Os:List Nat) (w:World) (h:IsMat w p C Ns) (hC:C≤12) (hr:Row w A vs) (hs:Sets w vs Os) (hlen:Os.length=Ns.length) (hT:Tab w) :
  Calls Tryz.prog 91 #[ptr p,.slice A Os.length c] w fun e w'=>e=.returned (.int .i64 (greatO C Ns Os (2 ^ C)))∧Below w.heap.size w w':=by
 have hlN:Ns.length≤4096:=h.2.1
 obtain ⟨E,hE⟩:∃ E:Nat,E=2 ^ C:=⟨_,rfl⟩
 have hE2:E≤4096:=by rw [hE];exact Nat.le_trans (Nat.pow_le_pow_right (by omega) hC) (by decide)
 have e2:wrap64 ((2:Int) ^ C)=(E:Int):=by
  have:((2:Int) ^ C)=(E:Int):=by rw [hE];simp
  rw [this]
  exact IntWalk.wrap64_in _ ⟨by omega,by omega⟩
 rw [← hE]
 have HEE:=Lib.hid hE
 have HLO:=Lib.hid hlen
 clear hE hlen
 refine (callsIn_wide (n:=9)).1 (callsIn_of_wp_marks Tryz.func91 rfl trivial (wpIn_wide.2 ?_) rfl)
 simp only [Tryz.ntmps91,List.size_toArray,List.length_cons,List.length_nil,Nat.reduceAdd,Nat.reduceSub,Array.replicate_succ,Array.replicate_zero,List.push_toArray,List.append_toArray,List.nil_append,List.cons_append]
 go_wp2_with fail
 refine absC1 fun W0 hX hb0 hz=>?_
 refine (cols_any p C Ns W0 (h.below hb0)).mono ?_
 rintro e w' ⟨rfl,rfl⟩
 have hX0:=hX.cell 0
 obtain ⟨X,hXe⟩:∃ X,X=w.heap.size:=⟨_,rfl⟩
 have hXw:w.heap.size≤X:=by omega
 rw [← hXe] at hX ⊢
 clear hz hX0 hXe
 go_wp2_with fail
 rw [e2]
 clear e2
 refine wp_loopF (β:=Nat) (fun n f=>#[ptr p,f 1,f 2,.pointer (some ⟨X,0,none⟩),.int .i64 0,.int .i64 (greatO C Ns Os n:Int),f 6,f 7,f 8,f 9,f 10,f 11,f 12,f 13,.int .i64 (E:Int),.int .i64 (n:Int),f 16,f 17,f 18,f 19,f 20,f 21,f 22,f 23,f 24,f 25,f 26,f 27,f 28,f 29,f 30,f 31,f 32,f 33,f 34,f 35,f 36,f 37,f 38,f 39,f 40,f 41,f 42,f 43,f 44,f 45,f 46,f 47,f 48,f 49,f 50,f 51,f 52,f 53])
  (fun n ds wr=>n≤E∧Marks w.heap.size wr ds∧Below w.heap.size w wr∧Blk wr X 67 #[.slice A Os.length c]∧greatO C Ns Os n≤16777216) (fun n=>E-n) 0 rfl
  ⟨Nat.zero_le _,trivial,hb0,hX,by show 0≤_;omega⟩ ?_
 rintro n f ds wr ⟨hn,hM,hb,hXr,hgb⟩
 dsimp only at hn ⊢
 by_cases hlt:n < E
 ·go_wp2_with fail
  refine absC1 fun W1 hS1 hb1 hz1=>?_
  have k1:=hb.trans (hb1.mono hb.size)
  have hX1:=hXr.below hb1 hXr.lt
  have hM1:=hM.kd (KeepD.of_below hb1)
  refine (cols_any p C Ns W1 (h.below k1)).mono ?_
  rintro e w' ⟨rfl,rfl⟩
  obtain ⟨g,hg⟩:∃ g,g=wr.heap.size:=⟨_,rfl⟩
  have hgw:w.heap.size≤g:=by rw [hg];exact hb.size
  have hgX:g≠X:=by have:=hXr.lt;omega
  rw [← hg] at hS1 ⊢
  clear hz1 hg hb1 hM
  go_wp2_with fail
  refine wp_loopF (β:=Nat) (fun j f=>#[ptr p,f 1,f 2,.pointer (some ⟨X,0,none⟩),.int .i64 0,.int .i64 (greatO C Ns Os n:Int),.int .i64 (n:Int),.pointer (some ⟨g,0,none⟩),f 8,f 9,f 10,f 11,f 12,f 13,.int .i64 (E:Int),.int .i64 (n:Int),f 16,f 17,f 18,.int .i64 (C:Int),.int .i64 (j:Int),f 21,f 22,f 23,f 24,f 25,f 26,f 27,f 28,f 29,f 30,f 31,f 32,f 33,f 34,f 35,f 36,f 37,f 38,f 39,f 40,f 41,f 42,f 43,f 44,f 45,f 46,f 47,f 48,f 49,f 50,f 51,f 52,f 53])
   (fun j ds' V=>j≤C∧ds'=ds∧Below w.heap.size w V∧KeepD W1 V∧Blk V X 67 #[.slice A Os.length c]∧∃ v,Blk V g 58 #[v]∧IsSet V v (n%2 ^ j)) (fun j=>C-j) 0 rfl
   ⟨Nat.zero_le _,rfl,k1,KeepD.refl _,hX1,_,hS1,by rw [Nat.pow_zero,Nat.mod_one];exact IsSet.empty _⟩ ?_
  rintro j f ds' V ⟨hj,rfl,hbV,hkV,hXV,v,hSV,hset⟩
  dsimp only at hj ⊢
  obtain ⟨Av,cv,rfl,_⟩:=id hset
  have sV:=hSV.cell 0
  have fV:=hSV.frozen 0
  have lV:=hSV.lt
  by_cases hjC:j < C
  ·have ebit:=bit_form n j (by omega)
   have hstep:=mod_step n j
   generalize n%2 ^ j=st at hset hstep hSV sV
   by_cases hb:n.testBit j=true
   ·rw [if_pos hb] at hstep
    rw [hb] at ebit
    have HST:=Lib.hid hstep
    have hwi:=with_any _ st (j:Int) V hset
    rw [withB,if_pos ⟨by omega,by omega⟩,Int.toNat_natCast] at hwi
    have HWI:=hideC (res3 rfl hwi)
    clear hstep hb hwi
    go_wp2_with fail
    refine HWI.out.mono ?_
    rintro e w3 ⟨A3,n3,c3,rfl,hr3,hb3⟩
    have hS3:=hSV.below hb3 hSV.lt
    have s3:=hS3.cell 0
    have f3:=hS3.frozen 0
    have l3:=hS3.lt
    have hX3:=hXV.below hb3 hXV.lt
    clear sV fV lV
    go_wp2_with fail
    exact ⟨j+1,rfl,⟨by omega,by first | rfl | trivial,(hbV.trans (hb3.mono hbV.size)).setCell (p:=⟨g,0,none⟩) hgw (.slice A3 n3 c3),hkV.others ((KeepsOthers.of_below hb3).trans (KeepsOthers.setCell _ _ _)),hX3.far (p:=⟨g,0,none⟩) (Ne.symm hgX) (.slice A3 n3 c3),_,hS3.set_ 0 (.slice A3 n3 c3),by rw [HST.out];exact hr3.put hS3 (by decide) 0 _⟩,by omega⟩
   ·rw [if_neg hb] at hstep
    rw [Bool.not_eq_true] at hb
    rw [hb] at ebit
    have HST:=Lib.hid hstep
    clear hstep hb
    go_wp2_with fail
    exact ⟨j+1,rfl,⟨by omega,by first | rfl | trivial,hbV,hkV,hXV,_,hSV,by rw [HST.out];exact hset⟩,by omega⟩
  ·obtain rfl:j=C:=by omega
   have hnE:n%2 ^ j=n:=Nat.mod_eq_of_lt (by rw [← HEE.out];exact hlt)
   generalize nw (n%2 ^ j)=q at hset hSV sV
   rw [hnE] at hset
   obtain ⟨R,hR⟩:∃ R,havN j Ns n=R:=⟨_,rfl⟩
   obtain ⟨K,hK⟩:∃ K,cloN j Ns n=K:=⟨_,rfl⟩
   have hRl:∀ x,R.testBit x=true→x < Os.length:=fun x hx=>by rw [← hR] at hx;rw [HLO.out];exact havN_lt hlN hx
   have hgl:=fun ks=>gainR_le j Ns Os n ks
   have hgs:=fun ks i=>gainR_snoc j Ns Os n ks i
   have hcd:=fun X=>card_and (C:=j) (Ns:=Ns) X n
   have hgr:=greatO_succ j Ns Os n
   rw [hK] at hgs hcd
   rw [hR] at hgr
   have HOF:=hideC (of_is hR hK (h.below hbV).mv hset (hT.below hbV))
   have HGS:=Lib.hid hgs;have HGR:=Lib.hid hgr;have HCD:=Lib.hid hcd;have HGL:=Lib.hid hgl
   have HRL:=Lib.hid hRl
   clear hnE hR hK hgs hgr hcd hgl hRl
   go_wp2_with fail
   refine HOF.out.mono ?_
   rintro e w3 ⟨A3,c3,B3,d3,rfl,sR,sK,hb3⟩
   have k3:=hbV.trans (hb3.mono hbV.size)
   have hX3:=hXV.below hb3 hXV.lt
   have hM3:=(hM1.kd hkV).kd (KeepD.of_below hb3)
   clear sV fV lV hSV HOF hkV hM1 hX1 hXr hset hb3 hXV hbV
   go_wp2_with fail
   refine absC2 fun W4 hK4 hN4 hb4 hz4=>?_
   have k4:=k3.trans (hb4.mono k3.size)
   have hX4:=hX3.below hb4 hX3.lt
   have hM4:=hM3.kd (KeepD.of_below hb4)
   have sR4:=sR.below hb4
   have sK4:=sK.below hb4
   have lX3:=hX3.lt
   obtain ⟨gk,hgk⟩:∃ g,g=w3.heap.size:=⟨_,rfl⟩
   have hkX:gk≠X:=by omega
   have hnX:gk+1≠X:=by omega
   have hkw:w.heap.size≤gk+1:=by have:=k3.size;omega
   rw [← hgk] at hK4 hN4 ⊢
   clear hgk hz4 hb4 sR sK hX3 hM3 k3 lX3
   refine (all_any A3 (nw R) c3 W4).mono ?_
   rintro e w5 ⟨rfl,hw5⟩
   have hY:=hw5▸Blk.new W4 58 #[.slice A3 (nw R) c3]
   have hb5:Below W4.heap.size W4 w5:=by rw [hw5];exact (Below.refl _ _).alloc (Nat.le_refl _) _
   clear hw5
   have k5:=k4.trans (hb5.mono k4.size)
   have hX5:=hX4.below hb5 hX4.lt
   have hK5:=hK4.below hb5 hK4.lt
   have hN5:=hN4.below hb5 hN4.lt
   have hM5:=hM4.kd (KeepD.of_below hb5)
   have sR5:=sR4.below hb5
   have sK5:=sK4.below hb5
   have hT5:=hT.below k5
   obtain ⟨gy,hgy⟩:∃ g,g=W4.heap.size:=⟨_,rfl⟩
   rw [← hgy] at hY ⊢
   clear hgy hb5 hX4 hK4 hN4 hM4 sR4 sK4 k4
   go_wp2_with fail
   refine wp_rangeAll (v:=.slice A3 (nw R) c3) (N:=R) (Bx:=gy) rfl (hY.cell 0) sR5 hT5 rfl
    (fun pre W=>Blk W (gk+1) 3 #[.int .i64 (gainR j Ns Os n pre:Int)]∧Blk W gk 98 #[.slice A3 (nw R) c3,.slice B3 (nw K) d3]∧Blk W X 67 #[.slice A Os.length c]∧Below w.heap.size w W∧KeepD w5 W∧IsSet W (.slice B3 (nw K) d3) K) (fun _ _ _=>False)
    ?hI (fun _ _ _ _ _ hs _ _=>hs) ?h0 ?a1 ?assign ?body ?done (fun _ _ _ _ _ h _=>h.elim)
   case assign =>
    intro l x W K hKa
    gi_wp2
    exact hKa
   case hI =>
    rintro s W W' row ⟨h1,h2,h3,h4,h5,h6⟩ hg hrw
    have hk:=KeepC.of_grown hg hrw
    exact ⟨h1.kc hk,h2.kc hk,h3.kc hk,h4.grown hg h4.size fun k' e=>Nat.le_trans k5.size (hrw k' e).1,h5.grown hg hrw,h6.keep hk.keep⟩
   case h0=>exact ⟨hN5,hK5,hX5,k5,KeepD.refl _,sK5⟩
   case body =>
    rintro ll pre x W hx ⟨h1,h2,h3,h4,h5,h6⟩ hlen hkp
    have hxl:x < Os.length:=HRL.out x hx
    have hxv:x < vs.length:=by rw [hs.1];exact hxl
    obtain ⟨v,hvx⟩:∃ v,vs[x]?=some v:=⟨_,List.getElem?_eq_getElem hxv⟩
    have hox:Os[x]?=some (Os.getD x 0):=by rw [List.getD_eq_getElem?_getD,List.getElem?_eq_getElem hxl];rfl
    have sv:=(hs.2 x v _ hvx hox).below h4
    have hst:=HGS.out pre x
    have hc1:=HCD.out (Os.getD x 0)
    generalize Os.getD x 0=ox at sv hst hc1
    obtain ⟨Av2,cv2,rfl,_⟩:=id sv
    obtain ⟨g1,o1,rfl,hg1,hcl⟩:=hr (by omega)
    have d1:=onB h4 (hcl x _ hvx)
    have hgp:gainR j Ns Os n pre≤49152:=Nat.le_trans (HGL.out pre) (Nat.le_trans (Nat.mul_le_mul (Nat.le_of_lt hlen) hC) (by decide))
    have cN:=h1.cell 0
    have cX:=h3.cell 0
    have cK:=h2.cell 1
    have hd:Below W.heap.size W W.drew:=(Below.refl _ _).drew
    have HA:=hideC (and_any _ _ ox K W.drew (sv.below hd) (h6.below hd))
    obtain ⟨cd,hcde⟩:∃ c,c=card (ox&&&K):=⟨_,rfl⟩
    have hLE:=fun W' r hr'=>len_any r (ox&&&K) W' hr'
    rw [← hcde] at hst hc1 hLE
    obtain ⟨gp,hgpe⟩:∃ c,c=gainR j Ns Os n pre:=⟨_,rfl⟩
    rw [← hgpe] at hst hgp cN
    have HLE:=Lib.hid hLE
    have HST:=Lib.hid hst
    have hcd12:cd≤12:=Nat.le_trans hc1 hC
    clear hcde hgpe hst hLE hc1 hox hvx hcl
    gi_wp2_with fail
    refine wpIn_spine (fun V=>Below W.heap.size W V) [0,1,2,3,4,5,6] [7,8,9,10] (fun _=>trivial) (by kernel_rfl) (by kernel_rfl) (by kernel_rfl) ?_
    iterate 7 (refine wpE_op (v:=?_) rfl rfl (fun W hW=>?_) ?_;rotate_left;(have z0:=onB hW cN;have z1:=onB hW cX;have z2:=onB hW cK;have z3:=onB hW d1;go_simp;first | done | with_reducible rfl);simp only [pt1,pt3,pt4,pt5])
    refine wpE_nil ⟨fun h=>(by cases h),wpSpI_op rfl hd ?_⟩
    gi_wp2_with (refine ⟨trivial,?_⟩;gi_at_call 81;refine (CallsIn.inRound ll (callsIn_wide.2 HA.out)).mono ?_;rintro e w6 ⟨r2,rfl,hr2,hb6⟩;obtain ⟨A7,c7,rfl,_⟩:=id hr2)
    have hb6':=hd.trans (hb6.mono hd.size)
    have HL:=hideC (HLE.out w6 _ hr2)
    refine nxtI_op rfl hb6' ?_
    gi_wp2_with (refine ⟨trivial,?_⟩;gi_at_call 61;refine (CallsIn.inRound ll (callsIn_wide.2 HL.out)).mono ?_;rintro e w7 ⟨rfl,hb7⟩)
    have hb7':=hb6'.trans (hb7.mono hb6'.size)
    have h17:=h1.below hb7' h1.lt
    have cN7:=h17.cell 0
    have fN7:=h17.frozen 0
    have lN7:=h17.lt
    refine nxtI_op rfl hb7' ?_
    gi_wp2_with fail
    refine nxtI_op rfl hb7' ?_
    gi_wp2_with fail
    refine nxtI_nil ?_
    gi_wp2_with fail
    have hk8:=(KeepW.of_below hb7').trans (KeepW.setCell (p:=⟨gk+1,0,none⟩) h17 (by decide) (.int .i64 ((gp:Int)+cd)))
    have hb8:=(hb7'.mono h4.size).setCell (p:=⟨gk+1,0,none⟩) hkw (.int .i64 ((gp:Int)+cd))
    exact ⟨((KeepsOthers.of_below hb7').trans (KeepsOthers.setCell _ _ _)).from _,KpA.mk_ hk8 hb8 hT.pos,
     by rw [HST.out];exact h17.set_ 0 (.int .i64 ((gp:Int)+cd)),(h2.below hb7' h2.lt).far (p:=⟨gk+1,0,none⟩) (by simp) _,(h3.below hb7' h3.lt).far (p:=⟨gk+1,0,none⟩) (Ne.symm hnX) _,h4.trans hb8,h5.others ((KeepsOthers.of_below hb7').trans (KeepsOthers.setCell _ _ _)),h6.keep hk8⟩
   case done =>
    rintro D W hD ⟨h1,h2,h3,h4,h5,h6⟩ hKd
    have hM6:=hM5.cons h5 (by have:=k5.size;omega) hD hKd
    have n0:=h1.cell 0
    have hg1:=HGL.out (mems R)
    have hmr:(mems R).length≤4096:=by
     rw [mems_len]
     exact Nat.le_trans (card_bits (C:=Os.length) HRL.out) (by rw [HLO.out];exact hlN)
    have hmul:(mems R).length*j≤4096*12:=Nat.mul_le_mul hmr hC
    have hmx:max (greatO j Ns Os n:Int) (gainR j Ns Os n (mems R):Int)=(greatO j Ns Os (n+1):Int):=by rw [HGR.out];omega
    have hgb2:greatO j Ns Os (n+1)≤16777216:=by rw [HGR.out];omega
    have HMX:=Lib.hid hmx
    have lN:=h1.lt
    clear hgb hg1 hmul
    go_wp2_with fail
    exact ⟨n+1,by rw [← HMX.out];rfl,⟨by omega,hM6,h4,h3,hgb2⟩,by omega⟩
 ·obtain rfl:n=E:=by omega
  go_wp2_with fail
  refine leave_marks (n₀:=w.heap.size) _ _ hM fun W' hW'=>?_
  exact ⟨_,by simp [results,Tryz.results91],rfl,hb.trans hW'.1⟩
end Go.Proofs.YtafpmkdlciioaaaGreatDoor
namespace Go.Proofs.YtafpmkdlciioaaaGreatDoor
open Go.RowKit
theorem isIn_cellsOf (Os:List Nat) (a b:Int):isIn (cellsOf Os) (a,b)=hasO Os a b:=by
 rw [Bool.eq_iff_iff,isIn_iff]
 unfold hasO hasB
 rw [Bool.and_eq_true,Bool.and_eq_true,Bool.and_eq_true,decide_eq_true_eq,decide_eq_true_eq,decide_eq_true_eq]
 constructor
 ·rintro ⟨d,hd,e⟩
  obtain ⟨e1,e2⟩:=Prod.mk.inj e
  obtain ⟨h1,h2⟩:=mem_cellsOf.1 hd
  subst e1;subst e2
  exact ⟨⟨by omega,by omega⟩,by omega,by simpa using h2⟩
 ·rintro ⟨⟨h1,h2⟩,h3,h4⟩
  refine ⟨(a.toNat,b.toNat),mem_cellsOf.2 ⟨by omega,h4⟩,?_⟩
  rw [Int.toNat_of_nonneg h1,Int.toNat_of_nonneg h3]
def sumO (Os:List Nat) (n:Nat):Nat:=((Os.take n).map card).foldl (·+·) 0
theorem sum_cellsOf (Os:List Nat):(cellsOf Os).length=((List.range Os.length).map fun i=>card (Os.getD i 0)).sum:=by
 unfold cellsOf
 rw [List.length_flatMap]
 congr 1
 refine List.map_congr_left fun i _=>?_
 rw [List.length_map,mems_len]
theorem range_getD {α:Type} (l:List Nat) (f:Nat→α):((List.range l.length).map fun i=>f (l.getD i 0))=l.map f:=by
 apply List.ext_getElem?
 intro i
 by_cases hi:i < l.length
 ·rw [List.getElem?_map,List.getElem?_range hi,Option.map_some,List.getElem?_map,List.getElem?_eq_getElem hi,Option.map_some,List.getD_eq_getElem?_getD,List.getElem?_eq_getElem hi];rfl
 ·rw [List.getElem?_eq_none (by simp;omega),List.getElem?_eq_none (by simp;omega)]
theorem foldl_sum (l:List Nat):∀ a,l.foldl (·+·) a=a+l.sum:=by
 induction l with
 | nil=>intro a;simp
 | cons x l ih=>intro a;rw [List.foldl_cons,ih,List.sum_cons];omega
theorem sumO_all (Os:List Nat):sumO Os Os.length=(cellsOf Os).length:=by
 rw [sum_cellsOf,range_getD Os card]
 unfold sumO
 rw [List.take_length,foldl_sum,Nat.zero_add]
def lessO (C:Nat) (Ns Os:List Nat) (s:Nat):List Nat:=(List.range Os.length).map fun i=>if (havN C Ns s).testBit i=true then minusN (Os.getD i 0) s else Os.getD i 0
theorem lessO_len (C:Nat) (Ns Os:List Nat) (s:Nat):(lessO C Ns Os s).length=Os.length:=by simp [lessO]
theorem lessO_get {C:Nat} {Ns Os:List Nat} {s i:Nat} (hi:i < Os.length):(lessO C Ns Os s).getD i 0=if (havN C Ns s).testBit i=true then minusN (Os.getD i 0) s else Os.getD i 0:=by
 unfold lessO
 rw [List.getD_eq_getElem?_getD,List.getElem?_map,List.getElem?_range hi];rfl
theorem mems_minus (N s:Nat):mems (minusN N s)=(mems N).filter fun j=>!s.testBit j:=by
 obtain ⟨a,ha⟩:=mems_is N
 obtain ⟨b,hb⟩:=mems_is (minusN N s)
 rw [ha (max a b) (by omega),hb (max a b) (by omega),List.filter_filter]
 refine List.filter_congr fun j _=>?_
 rw [testBit_minusN,Bool.and_comm]
theorem cellsOf_less (C:Nat) (Ns Os:List Nat) (s:Nat):cellsOf (lessO C Ns Os s)=lessL C Ns (cellsOf Os) s:=by
 unfold cellsOf lessL
 rw [List.filter_flatMap,lessO_len]
 have key:∀ (l:List Nat),(∀ i∈l,i < Os.length)→(l.flatMap fun i=>(mems ((lessO C Ns Os s).getD i 0)).map fun j=>(i,j))=l.flatMap fun i=>((mems (Os.getD i 0)).map fun j=>(i,j)).filter fun c=>!inS C Ns s c:=by
  intro l
  induction l with
  | nil=>intro _;rfl
  | cons i l ih =>
   intro hl
   rw [List.flatMap_cons,List.flatMap_cons,ih fun k hk=>hl k (by simp [hk])]
   congr 1
   rw [lessO_get (hl i (by simp)),List.filter_map]
   by_cases hi:(havN C Ns s).testBit i=true
   ·rw [if_pos hi,mems_minus]
    congr 1
    refine List.filter_congr fun j _=>?_
    simp [inS,hi]
   ·rw [if_neg hi]
    congr 1
    rw [eq_comm,List.filter_eq_self]
    intro j _
    rw [Bool.not_eq_true] at hi
    simp [inS,hi]
 exact key _ fun i hi=>List.mem_range.1 hi
theorem mems_and (N s:Nat):mems (N&&&s)=(mems N).filter s.testBit:=by
 obtain ⟨a,ha⟩:=mems_is N
 obtain ⟨b,hb⟩:=mems_is (N&&&s)
 rw [ha (max a b) (by omega),hb (max a b) (by omega),List.filter_filter]
 refine List.filter_congr fun j _=>?_
 rw [Nat.testBit_and,Bool.and_comm]
theorem sum_filter (p:Nat→Bool) (f:Nat→Nat):∀ l:List Nat,((l.filter p).map f).sum=(l.map fun i=>if p i=true then f i else 0).sum
 | []=>rfl
 | i :: l=>by
  rw [List.filter_cons,List.map_cons,List.sum_cons,← sum_filter p f l]
  split <;> simp
theorem gain_cells {C:Nat} {Ns Os:List Nat} (hl:Ns.length≤4096) (hlen:Os.length=Ns.length) (s:Nat):gainR C Ns Os s (mems (havN C Ns s))=(cellsOf Os).countP (inS C Ns (cloN C Ns s)):=by
 have hm:mems (havN C Ns s)=(List.range Os.length).filter (havN C Ns s).testBit:=mems_under fun j hj=>by rw [hlen];exact havN_lt hl hj
 unfold gainR cellsOf
 rw [foldl_sum,Nat.zero_add,hm,sum_filter,List.countP_flatMap]
 congr 1
 refine List.map_congr_left fun i _=>?_
 rw [Function.comp_apply,List.countP_map]
 have e:∀ j,(inS C Ns (cloN C Ns s)∘fun j=>(i,j)) j=((cloN C Ns s).testBit j&&(havN C Ns s).testBit i):=fun j=>by
  rw [Function.comp_apply,inS,hav_clo hl]
 rw [List.countP_congr fun j _=>by rw [e j]]
 by_cases hi:(havN C Ns s).testBit i=true
 ·rw [if_pos hi,← mems_len,mems_and,List.countP_eq_length_filter]
  congr 1
  refine List.filter_congr fun j _=>?_
  rw [hi,Bool.and_true]
 ·rw [if_neg hi]
  rw [Bool.not_eq_true] at hi
  rw [eq_comm,List.countP_eq_zero]
  intro j _
  rw [hi];simp
theorem greatO_most {C:Nat} {Ns Os:List Nat} (hl:Ns.length≤4096) (hlen:Os.length=Ns.length):greatO C Ns Os (2 ^ C)=mostL C Ns (cellsOf Os):=by
 refine Nat.le_antisymm ?_ ?_
 ·refine foldl_max_bound _ _ _ (Nat.zero_le _) fun x hx=>?_
  obtain ⟨s,_,rfl⟩:=List.mem_map.1 hx
  rw [gain_cells hl hlen,← gain_eq]
  exact mostL_le (clo_clo hl s)
 ·refine foldl_max_bound _ _ _ (Nat.zero_le _) fun x hx=>?_
  obtain ⟨s,hs,rfl⟩:=List.mem_map.1 hx
  rw [List.mem_filter,decide_eq_true_eq] at hs
  rw [gain_eq]
  have h1:=gain_cells (C:=C) hl hlen s
  rw [hs.2] at h1
  rw [← h1]
  exact (foldl_max_le _ 0).2 _ (List.mem_map.2 ⟨s,hs.1,rfl⟩)
def nodeP (C:Nat) (Ns:List Nat) (P:List Nd):Nat→Int→Int→List Nat→Int×Int
 | 0,_,_,_=>(1,0)
 | f+1,n,b,Os =>
  let x:=P.getD n.toNat default
  if x.kind=2 then (if x.cells.any (fun c=>!hasO Os c.1 c.2)=true then (3,n) else if (x.cells.length:Int)≤b∨apartB C Ns x.cells=false then (5,n) else (1,0))
  else if x.kind=3 then (if 12 < C∨(sumO Os Os.length:Int)≤b*greatO C Ns Os (2 ^ C) then (5,n) else (1,0))
  else if hasO Os x.row x.col=false then (3,n)
  else if b < 1 then (5,n)
  else if (conP C Ns x.row x.col).length=0∨(conP C Ns x.row x.col).length≠x.ch.length then (4,n)
  else kidsF (fun s c=>nodeP C Ns P f c (b-1) (lessO C Ns Os s)) ((conP C Ns x.row x.col).zip x.ch)
theorem kidsF_congr {g h:Nat→Int→Int×Int}:∀ {l:List (Nat×Int)},(∀ x∈l,g x.1 x.2=h x.1 x.2)→kidsF g l=kidsF h l
 | [],_=>rfl
 | (s,c) :: t,hh=>by
  rw [kidsF,kidsF,hh (s,c) (by simp),kidsF_congr fun x hx=>hh x (by simp [hx])]
def Under (Ns Os:List Nat):Prop:=Os.length=Ns.length∧∀ i,i < Os.length→∀ j,(Os.getD i 0).testBit j=true→(Ns.getD i 0).testBit j=true
theorem Under.less {C:Nat} {Ns Os:List Nat} (h:Under Ns Os) (s:Nat):Under Ns (lessO C Ns Os s):=by
 refine ⟨by rw [lessO_len];exact h.1,fun i hi j hj=>?_⟩
 rw [lessO_len] at hi
 rw [lessO_get hi] at hj
 split at hj
 ·rw [testBit_minusN,Bool.and_eq_true] at hj;exact h.2 i hi j hj.1
 ·exact h.2 i hi j hj
theorem nodeP_eq {C:Nat} {Ns:List Nat} (hC:C≤12) (hl:Ns.length≤4096) (hin:rowsIn C Ns) (P:List Nd):∀ (f:Nat) (n b:Int) (Os:List Nat),Under Ns Os→nodeP C Ns P f n b Os=nodeR C Ns P f n b (cellsOf Os)
 | 0,_,_,_,_=>rfl
 | f+1,n,b,Os,hu=>by
  rw [nodeP,nodeR]
  generalize P.getD n.toNat default=x
  have e1:(x.cells.any (fun c=>!hasO Os c.1 c.2)=true)↔(x.cells.all (isIn (cellsOf Os))=false):=by
   rw [← Bool.not_eq_true,List.all_eq_true,List.any_eq_true]
   constructor
   ·rintro ⟨c,hc,h⟩ hh
    have:=hh c hc
    rw [show c=(c.1,c.2) from rfl,isIn_cellsOf] at this
    rw [this] at h;cases h
   ·intro h
    apply Classical.byContradiction
    intro hn
    refine h fun c hc=>?_
    rw [show c=(c.1,c.2) from rfl,isIn_cellsOf]
    cases hh:hasO Os c.1 c.2 with
    | true=>rfl
    | false=>exact absurd ⟨c,hc,by rw [hh];rfl⟩ hn
  rw [sumO_all,greatO_most hl hu.1,isIn_cellsOf]
  by_cases k2:x.kind=2
  ·rw [if_pos k2,if_pos k2]
   by_cases h1:x.cells.any (fun c=>!hasO Os c.1 c.2)=true
   ·rw [if_pos h1,if_pos (e1.1 h1)]
   ·rw [if_neg h1,if_neg fun h=>h1 (e1.2 h)]
  ·rw [if_neg k2,if_neg k2]
   by_cases k3:x.kind=3
   ·rw [if_pos k3,if_pos k3]
   ·rw [if_neg k3,if_neg k3]
    by_cases h1:hasO Os x.row x.col=false
    ·rw [if_pos h1,if_pos h1]
    ·rw [if_neg h1,if_neg h1]
     by_cases h2:b < 1
     ·rw [if_pos h2,if_pos h2]
     ·rw [if_neg h2,if_neg h2]
      rw [Bool.not_eq_false] at h1
      unfold hasO hasB at h1
      simp only [Bool.and_eq_true,decide_eq_true_eq] at h1
      obtain ⟨⟨h3,h4⟩,h5,h6⟩:=h1
      obtain ⟨i,hi⟩:=Int.eq_ofNat_of_zero_le h3
      obtain ⟨j,hj⟩:=Int.eq_ofNat_of_zero_le h5
      rw [hi,hj,Int.toNat_natCast,Int.toNat_natCast] at h6
      rw [hi] at h4
      rw [hi,hj]
      have hil:i < Ns.length:=by have:=hu.1;omega
      have hbit:=hu.2 i (by omega) j h6
      have hjC:j < C:=by
       have:=hin i hil
       rw [← this,Nat.testBit_and,testBit_lowN,Bool.and_eq_true,decide_eq_true_eq] at hbit
       exact hbit.2
      have hm:mhas C Ns (i:Int) (j:Int)=true:=by rw [mhas_at hil hjC];exact hbit
      have hcd:card (mrow Ns (i:Int))≤12:=by
       refine Nat.le_trans (card_bits (C:=C) fun y hy=>?_) hC
       rw [mrow,if_pos (by omega),Int.toNat_natCast] at hy
       have:=hin i hil
       rw [← this,Nat.testBit_and,testBit_lowN,Bool.and_eq_true,decide_eq_true_eq] at hy
       exact hy.2
      have hcp:conP C Ns (i:Int) (j:Int)=conL C Ns i j:=by unfold conP;rw [if_pos ⟨hm,hcd⟩,Int.toNat_natCast,Int.toNat_natCast]
      rw [hcp,Int.toNat_natCast,Int.toNat_natCast]
      have hne:conL C Ns i j≠[]:=by
       intro he
       have hc:cloN C Ns (2 ^ j)∈conL C Ns i j:=by
        rw [mem_conL,inC,Bool.and_eq_true,Bool.and_eq_true,decide_eq_true_eq]
        refine ⟨⟨clo_clo hl _,clo_sup hl hjC (by simp)⟩,?_⟩
        rw [hav_clo hl,testBit_havN C Ns hl]
        refine ⟨hil,fun y hy _=>?_⟩
        rw [Nat.testBit_two_pow,decide_eq_true_eq] at hy
        subst hy;exact hbit
       rw [he] at hc;simp at hc
      have hlen0:¬ (conL C Ns i j).length=0:=fun h=>hne (List.eq_nil_of_length_eq_zero h)
      by_cases h7:(conL C Ns i j).length≠x.ch.length
      ·rw [if_pos (Or.inr h7),if_pos h7]
      ·rw [if_neg (by rw [not_or];exact ⟨hlen0,h7⟩),if_neg h7]
       refine kidsF_congr fun y _=>?_
       rw [nodeP_eq hC hl hin P f _ _ _ (hu.less _),cellsOf_less]
def lessP (s:Nat) (Os:List Nat) (pre:List Nat):List Nat:=(List.range Os.length).map fun i=>if i∈pre then minusN (Os.getD i 0) s else Os.getD i 0
theorem lessP_len (s:Nat) (Os pre:List Nat):(lessP s Os pre).length=Os.length:=by simp [lessP]
theorem lessP_at {s:Nat} {Os pre:List Nat} {i:Nat} (hi:i < Os.length):(lessP s Os pre)[i]?=some (if i∈pre then minusN (Os.getD i 0) s else Os.getD i 0):=by
 unfold lessP
 rw [List.getElem?_map,List.getElem?_range hi,Option.map_some]
theorem lessP_nil (s:Nat) (Os:List Nat):lessP s Os []=Os:=by
 apply List.ext_getElem?
 intro i
 by_cases hi:i < Os.length
 ·rw [lessP_at hi,if_neg (by simp),List.getD_eq_getElem?_getD,List.getElem?_eq_getElem hi];rfl
 ·rw [List.getElem?_eq_none (by rw [lessP_len];omega),List.getElem?_eq_none (by omega)]
theorem minus_minus (a s:Nat):minusN (minusN a s) s=minusN a s:=nat_ext fun x=>by
 rw [testBit_minusN,testBit_minusN]
 cases a.testBit x <;> cases s.testBit x <;> rfl
theorem lessP_snoc {s:Nat} {Os pre:List Nat} {x:Nat} (hx:x < Os.length):(lessP s Os pre).set x (minusN ((lessP s Os pre).getD x 0) s)=lessP s Os (pre ++ [x]):=by
 apply List.ext_getElem?
 intro i
 have e:(lessP s Os pre).getD x 0=if x∈pre then minusN (Os.getD x 0) s else Os.getD x 0:=by rw [List.getD_eq_getElem?_getD,lessP_at hx];rfl
 rw [e,List.getElem?_set]
 by_cases hi:x=i
 ·subst hi
  rw [if_pos rfl,if_pos (show x < (lessP s Os pre).length by rw [lessP_len];exact hx),lessP_at hx,if_pos (show x∈pre ++ [x] from List.mem_append_right _ (List.mem_singleton.2 rfl))]
  by_cases hp:x∈pre
  ·rw [if_pos hp,minus_minus]
  ·rw [if_neg hp]
 ·rw [if_neg hi]
  by_cases hl:i < Os.length
  ·rw [lessP_at hl,lessP_at hl]
   have:i∈pre ++ [x]↔i∈pre:=by
    rw [List.mem_append,List.mem_singleton]
    exact ⟨fun h=>h.elim id fun h=>absurd h.symm hi,.inl⟩
   simp only [this]
  ·rw [List.getElem?_eq_none (by rw [lessP_len];omega),List.getElem?_eq_none (by rw [lessP_len];omega)]
theorem lessP_mems (C:Nat) (Ns Os:List Nat) (s:Nat):lessP s Os (mems (havN C Ns s))=lessO C Ns Os s:=by
 unfold lessP lessO
 refine List.map_congr_left fun i _=>?_
 simp only [mem_mems]
theorem sum_step {su c i L:Nat} (hi:i < L) (hL:L≤4096) (hs:su≤i*4096) (hc:c≤4096):wrap64 ((su:Int)+(c:Int))=((su+c:Nat):Int)∧su+c≤(i+1)*4096∧i+1≤L∧L-(i+1) < L-i:=by
 have:i*4096≤16777216:=by omega
 refine ⟨?_,by omega,by omega,by omega⟩
 rw [Int.natCast_add]
 exact IntWalk.wrap64_in _ ⟨by omega,by omega⟩
def Cln (w:World) (g:Nat) (Ls:List Nat):Prop:=∃ cs vs,Blk w g 58 cs∧(∀ (k:Nat) v,vs[k]?=some v→cs[k]?=some v)∧Sets w vs Ls
section
variable {w w':World} {g:Nat} {Ls:List Nat}
theorem Cln.below (h:Cln w g Ls) (hb:Below w.heap.size w w'):Cln w' g Ls:=by
 obtain ⟨cs,vs,h1,h2,h3⟩:=h
 exact ⟨cs,vs,h1.below hb h1.lt,h2,h3.below hb⟩
theorem Cln.lt (h:Cln w g Ls):g < w.heap.size:=by obtain ⟨_,_,h1,_⟩:=h;exact h1.lt
theorem Cln.row (h:Cln w g Ls):∃ vs,Row w (some ⟨g,0,none⟩) vs∧Sets w vs Ls:=by
 obtain ⟨cs,vs,h1,h2,h3⟩:=h
 refine ⟨vs,fun _=>⟨g,0,rfl,h1.lt,fun k u hu=>?_⟩,h3⟩
 have hc:=h2 k u hu
 obtain ⟨hk,hc'⟩:=Array.getElem?_eq_some_iff.1 hc
 have:=h1.cell k
 simpa [hc,hc',hk] using this
theorem Cln.put (h:Cln w g Ls) {v:Value} {N i:Nat} (hs:IsSet w v N):Cln (w.setCell ⟨g,i,none⟩ v) g (Ls.set i N):=by
 obtain ⟨cs,vs,h1,h2,h3⟩:=h
 have hk:=KeepW.setCell (p:=⟨g,i,none⟩) h1 (by decide) v
 refine ⟨_,vs.set i v,h1.set_ i v,fun k u hu=>?_,(h3.put hs).keep hk⟩
 rw [List.getElem?_set] at hu
 rw [Array.getElem?_setIfInBounds]
 by_cases e:i=k
 ·subst e
  rw [if_pos rfl] at hu
  split at hu
  ·next hl =>
   have:=Array.getElem?_eq_some_iff.1 (h2 i _ (List.getElem?_eq_getElem hl))
   obtain ⟨hi,_⟩:=this
   rw [if_pos rfl,if_pos hi]
   exact hu
  ·cases hu
 ·rw [if_neg e] at hu
  rw [if_neg e]
  exact h2 k u hu
end
abbrev proofV (size:Int) (A:Option Addr) (n c:Nat):Value:=.agg #[.int .i64 size,.slice A n c]
theorem info_knode:(Tryz.prog.info? 95).map (fun i=>(i.zero,i.size,i.bytes))=some (some (.agg #[.int .u8 0,.int .i64 0,.int .i64 0,.slice none 0 0,.slice none 0 0]),5,72):=by kernel_rfl
theorem run_eql_nil_nil {P:Program} {t e:TypeId} (h:P.underlying t=some (.slice e)) (w:World):(binOp .eql t (.slice none 0 0) (.slice none 0 0)).run P w=.ok (.bool true) w:=by
 simp only [binOp]
 simp [run_equal_slice_nil w t e none 0 0 h]
def RowN (w:World) (A:Option Addr) (n c:Nat) (xs:List Value):Prop:=Row w A xs∧n≤c∧(A=none→n=0∧c=0)
theorem RowN.below {w w':World} {A:Option Addr} {n c:Nat} {xs:List Value} (h:RowN w A n c xs) (hb:Below w.heap.size w w'):RowN w' A n c xs:=⟨h.1.below hb,h.2⟩
theorem RowN.of_own {w:World} {base n size:Nat} {e:TypeId} {v:Value} {xs:List Value} (h:w.ownsRow base e size v n xs):∃ A c,v=.slice A n c∧RowN w A n c xs:=by
 rcases id h.2 with ⟨hv,hn⟩ | ⟨g,cap,cur,hv,_,hb,hnc,_,_,ht⟩
 ·have hx:xs=[]:=by have:=h.1;rw [hn] at this;exact List.eq_nil_of_length_eq_zero (by omega)
  subst hx
  exact ⟨none,0,by rw [hv,hn],Row.empty _ _,by omega,fun _=>⟨hn,rfl⟩⟩
 ·refine ⟨_,cap,hv,Row.of_blk hb fun k u hu=>?_,hnc,fun e=>by cases e⟩
  rw [← ht,List.getElem?_take] at hu
  split at hu
  ·simpa using hu
  ·cases hu
theorem cloneP_any (A:Option Addr) (n c:Nat) (xs:List Value) (w:World) (h:RowN w A n c xs) (hx:xs.length=n*2) (h1:∀ u∈xs,u.oneCell'=true) (hn:n≤1000000) :
  Calls Tryz.prog 52 #[.slice A n c] w fun e w'=>∃ v,e=.returned v∧w'.ownsRow w.heap.size 117 2 v n xs∧Below w.heap.size w w':=by
 obtain ⟨i0,hi0,hz0,hz1,hz2⟩:=info_parts info_pair
 obtain ⟨hr,hnc,hA⟩:=h
 cases A with
 | none =>
  obtain ⟨rfl,rfl⟩:=hA rfl
  obtain rfl:xs=[]:=List.eq_nil_of_length_eq_zero (by omega)
  have hnil:=fun W=>run_eql_nil_nil (P:=Tryz.prog) Tryz.underlying50 W
  clear hr hA h1 hx
  go_enter Tryz.func52,Tryz.ntmps52
  go_wp2_with fail
  go_ret
  exact ⟨_,rfl,World.ownsRow_nil _ _ _ _,Below.refl _ _⟩
 | some ad =>
  have hadd:∀ (j:Nat) u,xs[j]?=some u→(w.alloc (.cells #[] 117)).cell? (ad.add j)=some u:=fun j u hu=>by
   obtain ⟨g,off,e,hg,hc⟩:=hr (by have:=(List.getElem?_eq_some_iff.1 hu).1;omega)
   cases e
   rw [addr_add]
   exact (World.cell?_alloc_lt _ _ _ hg).trans (hc j u hu)
  have HADD:=Lib.hid hadd;have HONE:=Lib.hid h1;have HLEN:=Lib.hid hx
  clear hadd hr hA h1 hx
  have own0:=World.ownsRow_lit (base:=w.heap.size) (e:=117) (size:=2) w #[] 0 (Nat.le_refl _) (by decide) rfl
  have hb0:=(Below.refl w.heap.size w).alloc (Nat.le_refl _) (.cells #[] 117)
  have hnil:=fun W=>run_eql_some_nil (P:=Tryz.prog) Tryz.underlying50 ad n c W
  go_enter Tryz.func52,Tryz.ntmps52
  go_wp2_with (at_builtin;refine wpList_append_own _ rfl _ _ 50 rfl w.heap.size 117 i0 (.agg #[.int .i64 0,.int .i64 0]) 2 16 Tryz.underlying50 hi0 hz0 hz1 hz2 rfl (by decide) _ _ _ rfl own0 ad n c xs rfl HLEN.out HADD.out HONE.out (by unfold maxLen;omega) (by omega) (by simp) ?_;intro v3 w3 hown' hgrow _)
  have hbe3:=hb0.grown hgrow (by simp) (fun q hq=>(own0.lt q hq).1)
  go_ret
  exact ⟨v3,rfl,by simpa using hown',hbe3⟩
def NdOK (x:Nd):Prop:=x.ch.length≤1000000∧x.cells.length≤1000000∧0≤x.kind∧x.kind≤255
section
variable {w w':World} {base:Nat} {v:Value} {P:List Nd} {vss:List (List Value)} {vs:List Value} {x:Nd}
end
namespace Mix2
end Mix2
def PN (w:World) (v:Value) (l:List (Int×Int)):Prop:=∃ A c,v=.slice A l.length c∧RowN w A l.length c (cellsP l)∧l.length≤1000000
theorem PN.below {w w':World} {v:Value} {l:List (Int×Int)} (h:PN w v l) (hb:Below w.heap.size w w'):PN w' v l:=by
 obtain ⟨A,c,e,hr,hl⟩:=h
 exact ⟨A,c,e,hr.below hb,hl⟩
theorem OwnP.pn {w:World} {base:Nat} {v:Value} {l:List (Int×Int)} (h:OwnP w base v l) (hl:l.length≤1000000):PN w v l:=by
 obtain ⟨A,c,rfl,hr⟩:=RowN.of_own h
 exact ⟨A,c,rfl,hr,hl⟩
theorem PN.nil (w:World):PN w (.slice none 0 0) []:=⟨none,0,rfl,⟨Row.empty _ _,Nat.le_refl _,fun _=>⟨rfl,rfl⟩⟩,by simp⟩
theorem row_but {w w':World} {g6:Nat} {t:TypeId} {A6:Option Addr} {n6 c6:Nat} {A:Option Addr} {l:List (Int×Int)} (h:Row w A (cellsP l)) (hB:Blk w g6 t #[.slice A6 n6 c6]) (k:But (some g6) w w'):Row w' A (cellsP l):=by
 intro hp
 obtain ⟨g,off,hA,hg,hc⟩:=h hp
 have hne:g≠g6:=by
  rintro rfl
  obtain ⟨c,hc0⟩:∃ c,l[0]?=some c:=⟨_,List.getElem?_eq_getElem (by rw [cellsP_len] at hp;omega)⟩
  have h0:=hc _ _ (cellsP_get l hc0).1
  rw [hB.cell] at h0
  rcases off with _ | off
  ·simp at h0
  ·simp at h0
 exact ⟨g,off,hA,Nat.lt_of_lt_of_le hg k.1,fun j u hu=>(World.cell?_of_block (a:=⟨g,off+j,none⟩) (k.2 g hg fun e=>hne (Option.some.inj e))).trans (hc j u hu)⟩
theorem IsPairs.but {w w':World} {g6:Nat} {t:TypeId} {A6:Option Addr} {n6 c6:Nat} {v:Value} {l:List (Int×Int)} (h:IsPairs w v l) (hB:Blk w g6 t #[.slice A6 n6 c6]) (k:But (some g6) w w'):IsPairs w' v l:=by
 obtain ⟨A,c,e,hr,h1,h2⟩:=h
 exact ⟨A,c,e,row_but hr hB k,h1,h2⟩
theorem PN.but {w w':World} {g6:Nat} {t:TypeId} {A6:Option Addr} {n6 c6:Nat} {v:Value} {l:List (Int×Int)} (h:PN w v l) (hB:Blk w g6 t #[.slice A6 n6 c6]) (k:But (some g6) w w'):PN w' v l:=by
 obtain ⟨A,c,e,hr,h1⟩:=h
 exact ⟨A,c,e,⟨row_but hr.1 hB k,hr.2⟩,h1⟩
theorem cellsP_one (l:List (Int×Int)):∀ u∈cellsP l,u.oneCell'=true:=by
 intro u hu
 unfold cellsP at hu
 obtain ⟨c,_,hc⟩:=List.mem_flatMap.1 hu
 rcases List.mem_cons.1 hc with rfl | hc
 ·rfl
 ·rw [List.mem_singleton.1 hc];rfl
theorem clonep_pn {w:World} {v:Value} {l:List (Int×Int)} (h:PN w v l) :
  Calls Tryz.prog 52 #[v] w fun e w'=>∃ u,e=.returned u∧OwnP w' w.heap.size u l∧Below w.heap.size w w':=by
 obtain ⟨A,c,rfl,hr,hl⟩:=h
 exact cloneP_any A l.length c (cellsP l) w hr (by rw [cellsP_len];omega) (cellsP_one l) hl
abbrev searchP (C:Nat) (Ns:List Nat) (n:Nat) (rest l best:List (Int×Int)):List (Int×Int):=bestE (indep C Ns) n rest l (pickL best l)
theorem cellsP_drop (l:List (Int×Int)) (k:Nat):cellsP (l.drop k)=(cellsP l).drop (2*k):=by
 induction l generalizing k with
 | nil=>simp [cellsP]
 | cons a l ih =>
  cases k with
  | zero=>rfl
  | succ k =>
   show cellsP (l.drop k)=_
   rw [ih,show 2*(k+1)=2*k+1+1 by omega]
   rfl
theorem IsPairs.drop {w:World} {g o n c k:Nat} {l:List (Int×Int)} (h:IsPairs w (.slice (some ⟨g,o,none⟩) n c) l) (hk:k≤n) (ad:Option Addr) (ha:ad=if c=k then some ⟨g,o,none⟩ else some ⟨g,o+k*2,none⟩):IsPairs w (.slice ad (n-k) (c-k)) (l.drop k):=by
 obtain ⟨A,c',e,hr,h1,h2⟩:=h
 injection e with e1 e2 e3
 subst e1;subst e2;subst e3
 refine ⟨ad,c-k,by rw [List.length_drop],fun hp=>?_,by rw [List.length_drop];omega,by rw [List.length_drop];omega⟩
 rw [cellsP_len,List.length_drop] at hp
 obtain ⟨g',o',e,hg,hc⟩:=hr (by rw [cellsP_len];omega)
 cases e
 refine ⟨g,o+k*2,by rw [ha,if_neg (by omega)],hg,fun j u hu=>?_⟩
 rw [cellsP_drop,List.getElem?_drop] at hu
 have:=hc _ _ hu
 rw [← this]
 congr 2
 omega
theorem filter_snoc {α:Type} (p:α→Bool) (l:List α) (x:α):(l ++ [x]).filter p=if p x=true then l.filter p ++ [x] else l.filter p:=by
 rw [List.filter_append]
 cases h:p x <;> simp [h]
theorem best_call {a b k d m n T:Nat} (h:a+b≤1000) (hk:k < b) (hd:d=b-(k+1)) (hT:T≤d) (hm:n-k=m+1) (_hT2:T≤1000):m < n∧a+1+T≤1000∧a+1≤1000000:=⟨by omega,by omega,by omega⟩
theorem best_yes (a b k n:Nat) (hk:k < b) (h:a+(b-(k+1)+1)≤n):decide ((a:Int)+(b:Int)-(k:Int)≤(n:Int))=true:=decide_eq_true (by omega)
theorem best_no (a b k n:Nat) (hk:k < b) (h:¬ a+(b-(k+1)+1)≤n):decide ((a:Int)+(b:Int)-(k:Int)≤(n:Int))=false:=decide_eq_false (by omega)
namespace Mix2
theorem best1_any (q C:Nat) (Ns:List Nat) (g6 g1 g7:Nat) (w0:World) (hq0:IsMat w0 q C Ns) (hg6:w0.heap.size≤g6) (h16:g1≠g6) (h76:g7≠g6) (t1 t7:TypeId) :
  ∀ (n:Nat) (l rest best:List (Int×Int)) (vl vr vb:Value) (w:World),rest.length≤n→l.length+rest.length≤1000→Below w0.heap.size w0 w→PN w vl l→IsPairs w vr rest→PN w vb best →
   Blk w g6 50 #[vb]→Blk w g1 t1 #[ptr q]→Blk w g7 t7 #[.func (.func 51) #[] #[ptr g6,ptr g1,ptr g7]] →
   Calls Tryz.prog 51 #[vl,vr,ptr g6,ptr g1,ptr g7] w fun e w'=>e=.returned (.tuple #[])∧∃ vb',PN w' vb' (searchP C Ns n rest l best)∧Blk w' g6 50 #[vb']∧But (some g6) w w'∧Below w0.heap.size w0 w':=by
 intro n
 induction n using Nat.strongRecOn with
 | _ n ih =>
  intro l rest best vl vr vb w hn hlr hb0 hl hr hbest B6 B1 B7
  obtain ⟨i0,hi0,hz0,hz1,hz2⟩:=info_parts info_pair
  obtain ⟨Al,cl,rfl,hlr0,hll⟩:=id hl
  obtain ⟨Ar,cr,rfl,hrr0,hrc,hrl⟩:=id hr
  obtain ⟨Ab,cb,rfl,hbr0,hbl0⟩:=id hbest
  have c6:=B6.cell 0
  have f6:=B6.frozen 0
  have l6:=B6.lt
  have HIH:=Lib.hid ih
  clear ih hlr0 hrr0 hbr0
  go_enter Tryz.func51,Tryz.ntmps51
  go_upto_if 16 with fail
  have b0:=But.refl (some g6) w
  go_cut [] (fun wx=>∃ A c,PN wx (.slice A (pickL best l).length c) (pickL best l)∧Blk wx g6 50 #[.slice A (pickL best l).length c]∧But (some g6) w wx∧Below w0.heap.size w0 wx)
  case first =>
   by_cases hlt:best.length < l.length
   ·have HP:=Lib.hid (show pickL best l=l by unfold pickL;rw [if_pos hlt])
    go_wp2_with fail
    refine (clonep_pn hl).mono ?_
    rintro e w1 ⟨u,rfl,ho,hb⟩
    have hu:=ho.pn hll
    obtain ⟨Au,cu,rfl,-⟩:=id hu
    have B61:=B6.below hb l6
    replace c6:=B61.cell 0
    replace f6:=B61.frozen 0
    replace l6:=B61.lt
    have k1:=(hb0.trans (hb.mono hb0.size)).setCell (p:=⟨g6,0,none⟩) hg6 (.slice Au l.length cu)
    have k2:=(b0.below hb).trans (But.setCell w1 ⟨g6,0,none⟩ (.slice Au l.length cu))
    have k3:=hu.but B61 (But.setCell w1 ⟨g6,0,none⟩ (.slice Au l.length cu))
    have k4:Blk (w1.setCell ⟨g6,0,none⟩ (.slice Au l.length cu)) g6 50 #[.slice Au l.length cu]:=B61.set_ 0 _
    clear hb ho
    go_wp2_with fail
    go_meet
    rw [HP.out]
    exact ⟨_,_,k3,k4,k2,k1⟩
   ·have HP:=Lib.hid (show pickL best l=best by unfold pickL;rw [if_neg hlt])
    go_wp2_with fail
    go_meet
    rw [HP.out]
    exact ⟨Ab,cb,hbest,B6,b0,hb0⟩
  case rest =>
   obtain ⟨A1,c1,hb1,B61,k1,k2⟩:=hcut
   obtain ⟨b1,hb1e⟩:∃ b,b=pickL best l:=⟨_,rfl⟩
   rw [← hb1e] at hb1 B61
   have hse:searchP C Ns n rest l best=bestE (indep C Ns) n rest l b1:=by rw [hb1e]
   have HSE:=Lib.hid hse
   have hB1:=k1.blk B1 (by simpa using h16)
   have hB7:=k1.blk B7 (by simpa using h76)
   have hl1:=hl.but B6 k1
   have hr1:=hr.but B6 k1
   have hlb:l.length≤b1.length:=by rw [hb1e,pickL_len];omega
   obtain ⟨W1,hW1⟩:∃ V,V=wc:=⟨_,rfl⟩
   subst hW1
   clear hse hb1e hbest B6 B1 B7 b0 hb0 c6 f6 l6 hl hr
   go_wp2_with fail
   refine wp_loopF (β:=Nat×Option Addr×Nat×List (Int×Int)) (fun x f=>#[.slice Al l.length cl,.slice Ar rest.length cr,ptr g6,ptr g1,ptr g7,f 5,f 6,f 7,f 8,f 9,f 10,f 11,f 12,f 13,f 14,f 15,f 16,f 17,f 18,.slice Ar rest.length cr,.int .i64 (rest.length:Int),.int .i64 (x.1:Int),f 22,f 23,f 24,f 25,f 26,f 27,f 28,f 29,f 30,f 31,f 32,f 33,f 34,f 35,f 36,f 37,f 38,f 39,f 40,f 41,f 42,f 43,f 44,f 45,f 46,f 47,f 48,f 49,f 50,f 51,f 52,f 53,f 54,f 55,f 56,f 57,f 58,f 59,f 60,f 61,f 62])
    (fun x ds W=>x.1≤rest.length∧ds=[]∧PN W (.slice x.2.1 x.2.2.2.length x.2.2.1) x.2.2.2∧Blk W g6 50 #[.slice x.2.1 x.2.2.2.length x.2.2.1]∧But (some g6) W1 W∧Below w0.heap.size w0 W∧bestE (indep C Ns) n rest l b1=bestE (indep C Ns) (n-x.1) (rest.drop x.1) l x.2.2.2)
    (fun x=>rest.length-x.1) (0,A1,c1,b1) rfl ⟨Nat.zero_le _,rfl,hb1,B61,But.refl _ _,k2,by rw [List.drop_zero,Nat.sub_zero]⟩ ?_
   rintro ⟨k,A2,c2,bk⟩ f ds W ⟨hk,rfl,hbk,B62,m1,m2,heq⟩
   dsimp only at hk hbk B62 heq ⊢
   have hl2:=hl1.but B61 m1
   have hr2:=hr1.but B61 m1
   have hB12:=m1.blk hB1 (by simpa using h16)
   have hB72:=m1.blk hB7 (by simpa using h76)
   have n1:=k1.trans m1
   by_cases hlt:k < rest.length
   ·obtain ⟨c,hc⟩:∃ c,rest[k]?=some c:=⟨_,List.getElem?_eq_getElem hlt⟩
    obtain ⟨_,_,e,hrow,-,-⟩:=id hr2
    cases e
    obtain ⟨gr,or,rfl,hgr,d0,d1⟩:=row_pairs hrow hc
    have hdr:rest.drop k=c :: rest.drop (k+1):=by
     obtain ⟨h,e⟩:=List.getElem?_eq_some_iff.1 hc
     rw [← e];exact List.drop_eq_getElem_cons h
    obtain ⟨m,hm⟩:∃ m,n-k=m+1:=⟨n-k-1,by omega⟩
    rw [hdr,hm,bestE,List.length_drop] at heq
    have HEQ:=Lib.hid heq
    clear heq hdr hrow hc
    go_upto_region 5 with fail
    refine abs1 fun W2 h8 hb hz=>?_
    clear hz
    obtain ⟨g8,hg8⟩:∃ g,g=W.heap.size:=⟨_,rfl⟩
    have l8:g6 < g8:=by rw [hg8];exact B62.lt
    have s8:w0.heap.size≤g8:=by rw [hg8];exact m2.size
    rw [← hg8] at h8 ⊢
    have q6:=B62.below hb B62.lt
    have q1:=hB12.below hb hB12.lt
    have q7:=hB72.below hb hB72.lt
    have ql:=hl2.below hb
    have qr:=hr2.below hb
    have qb:=hbk.below hb
    have q0:=m2.trans (hb.mono m2.size)
    have qW:=m1.below hb
    have n2:=n1.below hb
    clear hg8 hb B62 hB12 hB72 hl2 hr2 hbk d0 d1 m1 m2 n1
    have x6:=q6.cell 0
    by_cases hcut:l.length+(rest.length-(k+1)+1)≤bk.length
    ·have hcd:=best_yes l.length rest.length k bk.length hlt hcut
     have heq:=HEQ.out
     rw [if_pos hcut] at heq
     have HE:=Lib.hid heq
     clear heq hcut
     go_wp2_with fail
     (try simp only [Exit.inBlock,Exit.then]);refine bodyPost_ret (results_none rfl _ _ _) rfl ?_
     rw [HSE.out,HE.out]
     exact ⟨rfl,_,qb,q6,n2,q0⟩
    ·have hcd:=best_no l.length rest.length k bk.length hlt hcut
     have heq:=HEQ.out
     rw [if_neg hcut] at heq
     have HE:=Lib.hid heq
     clear heq hcut
     obtain ⟨AD,hAD⟩:∃ AD:Option Addr,AD=if cr=k+1 then some ⟨gr,or,none⟩ else some ⟨gr,or+(k+1)*2,none⟩:=⟨_,rfl⟩
     have qd:=qr.drop (k:=k+1) (by omega) AD hAD
     go_upto_block 2 with fail
     rw [← hAD]
     obtain ⟨D,hD⟩:∃ D,D=rest.drop (k+1):=⟨_,rfl⟩
     have hDl:D.length=rest.length-(k+1):=by rw [hD,List.length_drop]
     rw [← hD,← hDl] at qd
     rw [← hDl]
     have HD:=Lib.hid hD
     have HDL:=Lib.hid hDl
     obtain ⟨cD,hcD⟩:∃ x,x=cr-(k+1):=⟨_,rfl⟩
     rw [← hcD] at qd ⊢
     have hD0:D.length≤1000:=by omega
     clear hAD hD hDl hcD hcd x6
     go_wp2_with fail
     refine wp_loopF (β:=Nat×Value) (fun x f=>#[.slice Al l.length cl,.slice (some ⟨gr,or,none⟩) rest.length cr,ptr g6,ptr g1,ptr g7,f 5,f 6,.int .i64 (k:Int),ptr g8,x.2,f 10,f 11,f 12,f 13,f 14,f 15,f 16,f 17,f 18,.slice (some ⟨gr,or,none⟩) rest.length cr,.int .i64 (rest.length:Int),.int .i64 (k:Int),f 22,f 23,f 24,f 25,f 26,f 27,f 28,f 29,f 30,f 31,f 32,f 33,f 34,f 35,f 36,f 37,f 38,.slice AD D.length cD,.int .i64 (D.length:Int),.int .i64 (x.1:Int),f 42,f 43,f 44,f 45,f 46,f 47,f 48,f 49,f 50,f 51,f 52,f 53,f 54,f 55,f 56,f 57,f 58,f 59,f 60,f 61,f 62])
      (fun x ds V=>x.1≤D.length∧ds=[]∧Below W2.heap.size W2 V∧OwnP V W2.heap.size x.2 ((D.take x.1).filter (indep C Ns c))) (fun x=>D.length-x.1) (0,.slice none 0 0) rfl
      ⟨Nat.zero_le _,rfl,Below.refl _ _,OwnP.nil _ _⟩ ?_
     rintro ⟨j,v9⟩ f ds V ⟨hj,rfl,hbV,hown⟩
     dsimp only at hj hown ⊢
     by_cases hjl:j < D.length
     ·obtain ⟨x,hx⟩:∃ x,D[j]?=some x:=⟨_,List.getElem?_eq_getElem hjl⟩
      have htk:D.take (j+1)=D.take j ++ [x]:=by rw [List.take_add_one,hx];rfl
      have hfl:(D.take (j+1)).filter (indep C Ns c)=if indep C Ns c x=true then (D.take j).filter (indep C Ns c) ++ [x] else (D.take j).filter (indep C Ns c):=by rw [htk,filter_snoc]
      have hTl:((D.take j).filter (indep C Ns c)).length≤1000:=Nat.le_trans (List.length_filter_le _ _) (by rw [List.length_take];omega)
      obtain ⟨_,_,e,hrow,-,-⟩:=id (qd.below hbV)
      cases e
      obtain ⟨gd,od,rfl,hgd,d0,d1⟩:=row_pairs hrow hx
      have HFL:=Lib.hid hfl
      generalize (D.take j).filter (indep C Ns c)=T at hown hTl HFL
      clear htk hfl hrow hx
      go_upto_region 10 with fail
      refine abs1 fun V1 h11 hb hz=>?_
      clear hz
      have v0:=hbV.trans (hb.mono hbV.size)
      have hown1:=hown.below hb
      obtain ⟨g11,hg11⟩:∃ g,g=V.heap.size:=⟨_,rfl⟩
      rw [← hg11] at h11 ⊢
      clear hg11 hb hown d0 d1
      have y1:=(q1.below v0 q1.lt).cell 0
      have y8:=(h8.below v0 h8.lt).cell 0
      have y81:=(h8.below v0 h8.lt).cell 1
      have y11:=h11.cell 0
      have y111:=h11.cell 1
      have HI:=hideC (independent_any (some ⟨q,0,none⟩) C Ns c x V1 (hq0.below (q0.trans (v0.mono q0.size))).mv)
      obtain ⟨bi,hbi⟩:∃ b,b=indep C Ns c x:=⟨_,rfl⟩
      rw [← hbi] at HI HFL
      clear hbi
      go_wp2_with fail
      refine HI.out.mono ?_
      rintro e V2 ⟨rfl,hb⟩
      have v2:=v0.trans (hb.mono v0.size)
      have hown2:=hown1.below hb
      have z11:=(h11.below hb h11.lt).cell 0
      have z111:=(h11.below hb h11.lt).cell 1
      clear y1 y8 y81 y11 y111 hb hown1 HI
      cases bi with
      | true =>
       have hfl:=HFL.out
       rw [if_pos rfl] at hfl
       have HF:=Lib.hid hfl
       clear hfl HFL
       have hlocs:=hown2.below ((Below.refl V2.heap.size V2).alloc (Nat.le_refl _) (.cells #[.int .i64 x.1,.int .i64 x.2] 117))
       have hsz:=v2.size
       go_wp2_with (at_builtin;refine wpList_append_own _ rfl _ _ 50 rfl (W2.heap.size) 117 i0 (.agg #[.int .i64 0,.int .i64 0]) 2 16 Tryz.underlying50 hi0 hz0 hz1 hz2 rfl (by decide) _ _ _ rfl (hlocs) ⟨V2.heap.size,0,none⟩ 1 1 [.int .i64 (x.1),.int .i64 (x.2)] rfl rfl (World.news_of_block (Blk.new _ _ _)) (by simp [Value.oneCell']) (by unfold maxLen;omega) (by omega) (by simp;omega) ?_;intro v' w3 hown' hgrow _)
       have hbw:=(v2.alloc v2.size (.cells #[.int .i64 x.1,.int .i64 x.2] 117)).grown hgrow (by simp;omega) (fun p hp=>(hlocs.lt p hp).1)
       exact ⟨(j+1,v'),rfl,⟨by show j+1≤D.length;omega,by first | rfl | trivial,hbw,by dsimp only;rw [HF.out];exact OwnP.mk_ hown' (cellsP_snoc T x).symm⟩,by show D.length-(j+1) < D.length-j;omega⟩
      | false =>
       have hfl:=HFL.out
       rw [if_neg (by simp)] at hfl
       have HF:=Lib.hid hfl
       clear hfl HFL
       go_wp2_with fail
       exact ⟨(j+1,v9),rfl,⟨by show j+1≤D.length;omega,by first | rfl | trivial,v2,by dsimp only;rw [HF.out];exact hown2⟩,by show D.length-(j+1) < D.length-j;omega⟩
     ·obtain rfl:j=D.length:=by omega
      rw [List.take_length] at hown
      have hTl:(D.filter (indep C Ns c)).length≤m:=Nat.le_trans (List.length_filter_le _ _) (by have:=HDL.out;omega)
      have hTl2:(D.filter (indep C Ns c)).length≤D.length:=List.length_filter_le _ _
      have he:=HE.out
      rw [← HD.out] at he
      obtain ⟨T,hT⟩:∃ T,T=D.filter (indep C Ns c):=⟨_,rfl⟩
      rw [← hT] at hown hTl hTl2 he
      have HE2:=Lib.hid he
      have hTb:T.length≤1000:=by omega
      clear hT he HE
      have v0:=hbV
      have y7:=(q7.below v0 q7.lt).cell 0
      have y8:=(h8.below v0 h8.lt).cell 0
      have y81:=(h8.below v0 h8.lt).cell 1
      obtain ⟨A9,c9,rfl,-⟩:=(hown.pn (by omega):PN _ _ _)
      have hV1:=hown.below ((Below.refl V.heap.size V).drew)
      have v1:=v0.trans ((Below.refl V.heap.size V).drew.mono v0.size)
      go_wp2_with fail
      refine wp_mix (fun X=>X.cell? ⟨g7,0,none⟩=some (.func (.func 51) #[] #[ptr g6,ptr g1,ptr g7])∧X.cell? ⟨g8,0,none⟩=some (.int .i64 c.1)∧X.cell? ⟨g8,1,none⟩=some (.int .i64 c.2)) 8 (by kernel_rfl) (by kernel_rfl) ⟨y7,y8,y81⟩ ?_
      have hS0:V.drew.cell? ⟨g7,0,none⟩=some (.func (.func 51) #[] #[ptr g6,ptr g1,ptr g7])∧V.drew.cell? ⟨g8,0,none⟩=some (.int .i64 c.1)∧V.drew.cell? ⟨g8,1,none⟩=some (.int .i64 c.2):=⟨y7,y8,y81⟩
      obtain ⟨U0,hU0⟩:∃ U,U=V.drew:=⟨_,rfl⟩
      rw [← hU0] at hV1 v1 hS0 ⊢
      have u1:=Below.refl U0.heap.size U0
      clear hU0 hown hbV v0 y7 y8 y81
      have hlo0:=v1.size
      (refine m_q 0 (v:=?_) (by kernel_rfl) rfl rfl (fun W hW=>?_) ?_;rotate_left;(obtain ⟨z7,z8,z81⟩:=hW;go_simp;first | done | with_reducible rfl);simp only [pt1,pt3,pt4,pt5]);(refine m_q 1 (v:=?_) (by kernel_rfl) rfl rfl (fun W hW=>?_) ?_;rotate_left;(obtain ⟨z7,z8,z81⟩:=hW;go_simp;first | done | with_reducible rfl);simp only [pt1,pt3,pt4,pt5]);(refine m_q 3 (v:=?_) (by kernel_rfl) rfl rfl (fun W hW=>?_) ?_;rotate_left;(obtain ⟨z7,z8,z81⟩:=hW;go_simp;first | done | with_reducible rfl);simp only [pt1,pt3,pt4,pt5]);(refine m_q 6 (v:=?_) (by kernel_rfl) rfl rfl (fun W hW=>?_) ?_;rotate_left;(obtain ⟨z7,z8,z81⟩:=hW;go_simp;first | done | with_reducible rfl);simp only [pt1,pt3,pt4,pt5])
      refine m_s2 2 4 (by kernel_rfl) rfl rfl ?_ ?_
      ·go_wp2_with fail
       refine (clonep_pn (ql.below v1)).mono ?_
       rintro e U1 ⟨vC,rfl,hoC,hb⟩
       replace v1:=v1.trans (hb.mono v1.size)
       replace u1:=u1.trans (hb.mono u1.size)
       replace hS0:=And.intro (onB hb hS0.1) (And.intro (onB hb hS0.2.1) (onB hb hS0.2.2))
       clear hb
       obtain ⟨AC,cC,rfl,-⟩:=(hoC.pn (by omega):PN _ _ _)
       go_wp2_with fail
       refine m_keep hS0 ?_
       refine m_s1 4 (by kernel_rfl) rfl ?_
       go_wp2_with fail
       refine absN fun U2 hL hb hz=>?_
       clear hz
       obtain ⟨gL,hgL⟩:∃ g,g=U1.heap.size:=⟨_,rfl⟩
       rw [← hgL] at hL ⊢
       clear hgL
       replace v1:=v1.trans (hb.mono v1.size)
       replace u1:=u1.trans (hb.mono u1.size)
       replace hS0:=And.intro (onB hb hS0.1) (And.intro (onB hb hS0.2.1) (onB hb hS0.2.2))
       replace hoC:=hoC.below hb
       clear hb
       refine m_keep hS0 ?_
       refine m_s1 5 (by kernel_rfl) rfl ?_
       have hsz:=v1.size
       replace hoC:OwnP U2 U0.heap.size (.slice AC l.length cC) l:=hoC.low (Nat.le_refl _)
       have hsu:=u1.size
       go_wp2_with (at_builtin;refine wpList_append_own _ rfl _ _ 50 rfl U0.heap.size 117 i0 (.agg #[.int .i64 0,.int .i64 0]) 2 16 Tryz.underlying50 hi0 hz0 hz1 hz2 rfl (by decide) _ _ _ rfl hoC ⟨gL,0,none⟩ 1 1 [.int .i64 c.1,.int .i64 c.2] rfl rfl (World.news_of_block hL) (by simp [Value.oneCell']) (by unfold maxLen;omega) (by omega) (by first | omega | (simp;done) | (simp;omega)) ?_;intro vL U5 hoL hgrow _)
       replace v1:=v1.grown hgrow hsz (fun p hp=>Nat.le_trans hlo0 (hoC.lt p hp).1)
       replace u1:=u1.grown hgrow hsu (fun p hp=>(hoC.lt p hp).1)
       replace hoL:OwnP U5 U0.heap.size vL (l ++ [c]):=OwnP.mk_ (by simpa using hoL) (cellsP_snoc l c).symm
       have k7:=q7.below v1 q7.lt
       have k8:=h8.below v1 h8.lt
       replace hS0:=And.intro (k7.cell 0) (And.intro (k8.cell 0) (k8.cell 1))
       refine m_keep hS0 ?_
       have k6:=q6.below v1 q6.lt
       obtain ⟨hn1,hn2,hn3⟩:=best_call (m:=m) (n:=n) (T:=T.length) hlr hlt HDL.out hTl2 hm hTb
       obtain ⟨l2,hl2⟩:∃ x,x=l ++ [c]:=⟨_,rfl⟩
       have hl2l:l2.length=l.length+1:=by rw [hl2,List.length_append];rfl
       rw [← hl2] at hoL
       have HL2:=Lib.hid hl2
       have HC:=hideC (HIH.out m hn1 l2 T bk vL (.slice A9 T.length c9) (.slice A2 bk.length c2) U5 hTl (by rw [hl2l];exact hn2) (q0.trans (v1.mono q0.size)) (hoL.pn (by rw [hl2l];exact hn3)) ((hV1.pairs (by omega)).below u1) (qb.below v1) k6 (q1.below v1 q1.lt) k7)
       obtain ⟨AL,cL,rfl,-⟩:=(hoL.pn (by rw [hl2l];exact hn3):PN _ _ _)
       clear hl2 hl2l hgrow hoL hL hoC hsz hsu
       refine m_s1 7 (by kernel_rfl) rfl ?_
       go_wp2_with fail
       refine HC.out.mono ?_
       rintro e U6 ⟨rfl,vb',hb',B6',k3,k4⟩
       obtain ⟨A6,c6,rfl,-⟩:=id hb'
       have y7:=(k3.blk k7 (by simpa using h76)).cell 0
       have h86:some g8≠some g6:=by simp;omega
       have y8:=(k3.blk k8 h86).cell 0
       have y81:=(k3.blk k8 h86).cell 1
       go_wp2_with fail
       refine m_keep ⟨y7,y8,y81⟩ ?_
       refine m_end (by kernel_rfl) ?_
       have hfin:bestE (indep C Ns) n rest l b1=bestE (indep C Ns) (n-(k+1)) (rest.drop (k+1)) l (searchP C Ns m T l2 bk):=by rw [HE2.out,HD.out,HL2.out,show n-(k+1)=m by omega]
       have HFI:=Lib.hid hfin
       have j1:=(qW.below v1).trans k3
       clear hfin y7 y8 y81 HC k6 k7 k8 hS0 v1 u1
       go_wp2_with fail
       exact ⟨(k+1,A6,c6,_),rfl,⟨by show k+1≤rest.length;omega,by first | rfl | trivial,hb',B6',j1,k4,HFI.out⟩,by show rest.length-(k+1) < rest.length-k;omega⟩
      ·go_wp2_with fail
       refine absN fun U1 hL hb hz=>?_
       clear hz
       obtain ⟨gL,hgL⟩:∃ g,g=U0.heap.size:=⟨_,rfl⟩
       rw [← hgL] at hL ⊢
       clear hgL
       replace v1:=v1.trans (hb.mono v1.size)
       replace u1:=u1.trans (hb.mono u1.size)
       replace hS0:=And.intro (onB hb hS0.1) (And.intro (onB hb hS0.2.1) (onB hb hS0.2.2))
       have hlu1:=hb.size
       clear hb
       refine m_keep hS0 ?_
       refine m_s1 2 (by kernel_rfl) rfl ?_
       go_wp2_with fail
       refine (clonep_pn (ql.below v1)).mono ?_
       rintro e U2 ⟨vC,rfl,hoC,hb⟩
       replace v1:=v1.trans (hb.mono v1.size)
       replace u1:=u1.trans (hb.mono u1.size)
       replace hS0:=And.intro (onB hb hS0.1) (And.intro (onB hb hS0.2.1) (onB hb hS0.2.2))
       replace hL:=hL.below hb hL.lt
       clear hb
       obtain ⟨AC,cC,rfl,-⟩:=(hoC.pn (by omega):PN _ _ _)
       go_wp2_with fail
       refine m_keep hS0 ?_
       refine m_s1 5 (by kernel_rfl) rfl ?_
       have hsz:=v1.size
       replace hoC:OwnP U2 U0.heap.size (.slice AC l.length cC) l:=hoC.low hlu1
       have hsu:=u1.size
       go_wp2_with (at_builtin;refine wpList_append_own _ rfl _ _ 50 rfl U0.heap.size 117 i0 (.agg #[.int .i64 0,.int .i64 0]) 2 16 Tryz.underlying50 hi0 hz0 hz1 hz2 rfl (by decide) _ _ _ rfl hoC ⟨gL,0,none⟩ 1 1 [.int .i64 c.1,.int .i64 c.2] rfl rfl (World.news_of_block hL) (by simp [Value.oneCell']) (by unfold maxLen;omega) (by omega) (by first | omega | (simp;done) | (simp;omega)) ?_;intro vL U5 hoL hgrow _)
       replace v1:=v1.grown hgrow hsz (fun p hp=>Nat.le_trans hlo0 (hoC.lt p hp).1)
       replace u1:=u1.grown hgrow hsu (fun p hp=>(hoC.lt p hp).1)
       replace hoL:OwnP U5 U0.heap.size vL (l ++ [c]):=OwnP.mk_ (by simpa using hoL) (cellsP_snoc l c).symm
       have k7:=q7.below v1 q7.lt
       have k8:=h8.below v1 h8.lt
       replace hS0:=And.intro (k7.cell 0) (And.intro (k8.cell 0) (k8.cell 1))
       refine m_keep hS0 ?_
       have k6:=q6.below v1 q6.lt
       obtain ⟨hn1,hn2,hn3⟩:=best_call (m:=m) (n:=n) (T:=T.length) hlr hlt HDL.out hTl2 hm hTb
       obtain ⟨l2,hl2⟩:∃ x,x=l ++ [c]:=⟨_,rfl⟩
       have hl2l:l2.length=l.length+1:=by rw [hl2,List.length_append];rfl
       rw [← hl2] at hoL
       have HL2:=Lib.hid hl2
       have HC:=hideC (HIH.out m hn1 l2 T bk vL (.slice A9 T.length c9) (.slice A2 bk.length c2) U5 hTl (by rw [hl2l];exact hn2) (q0.trans (v1.mono q0.size)) (hoL.pn (by rw [hl2l];exact hn3)) ((hV1.pairs (by omega)).below u1) (qb.below v1) k6 (q1.below v1 q1.lt) k7)
       obtain ⟨AL,cL,rfl,-⟩:=(hoL.pn (by rw [hl2l];exact hn3):PN _ _ _)
       clear hl2 hl2l hgrow hoL hL hoC hsz hsu
       refine m_s1 7 (by kernel_rfl) rfl ?_
       go_wp2_with fail
       refine HC.out.mono ?_
       rintro e U6 ⟨rfl,vb',hb',B6',k3,k4⟩
       obtain ⟨A6,c6,rfl,-⟩:=id hb'
       have y7:=(k3.blk k7 (by simpa using h76)).cell 0
       have h86:some g8≠some g6:=by simp;omega
       have y8:=(k3.blk k8 h86).cell 0
       have y81:=(k3.blk k8 h86).cell 1
       go_wp2_with fail
       refine m_keep ⟨y7,y8,y81⟩ ?_
       refine m_end (by kernel_rfl) ?_
       have hfin:bestE (indep C Ns) n rest l b1=bestE (indep C Ns) (n-(k+1)) (rest.drop (k+1)) l (searchP C Ns m T l2 bk):=by rw [HE2.out,HD.out,HL2.out,show n-(k+1)=m by omega]
       have HFI:=Lib.hid hfin
       have j1:=(qW.below v1).trans k3
       clear hfin y7 y8 y81 HC k6 k7 k8 hS0 v1 u1
       go_wp2_with fail
       exact ⟨(k+1,A6,c6,_),rfl,⟨by show k+1≤rest.length;omega,by first | rfl | trivial,hb',B6',j1,k4,HFI.out⟩,by show rest.length-(k+1) < rest.length-k;omega⟩
   ·obtain rfl:k=rest.length:=by omega
    rw [List.drop_length] at heq
    have he:bestE (indep C Ns) n rest l b1=bk:=by rw [heq];cases n-rest.length <;> rfl
    have HE:=Lib.hid he
    clear he heq
    go_wp2_with fail
    go_end0
    rw [HSE.out,HE.out]
    exact ⟨rfl,_,hbk,B62,n1,m2⟩
end Mix2
end Go.Proofs.YtafpmkdlciioaaaGreatDoor
