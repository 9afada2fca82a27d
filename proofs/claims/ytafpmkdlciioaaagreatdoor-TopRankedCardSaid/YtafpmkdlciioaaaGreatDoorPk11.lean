import Derived.Test.YtafpmkdlciioaaaGreatDoorPk10
import Derived.Test.YtafpmkdlciioaaaGreatDoorPk09
set_option maxHeartbeats 16000000
set_option maxRecDepth 100000
namespace Go.Proofs.YtafpmkdlciioaaaGreatDoor
open Go.RowKit
attribute [local go_sem] Oper.semAt_some
theorem run_store_funcC {P:Program} {w:World} {a:Addr} {m:Mode} (fn:Fn) (first cap:Array Value):(store a (.func fn first cap) m).run P w=stored P w a (.func fn first cap) m:=run_store P w a _ m rfl
attribute [local go_sem] run_store_funcC
theorem sumO_succC {Os:List Nat} {i:Nat} (hi:i < Os.length):sumO Os (i+1)=sumO Os i+card (Os.getD i 0):=by
 unfold sumO
 rw [List.take_add_one,List.getElem?_eq_getElem hi,List.getD_eq_getElem?_getD,List.getElem?_eq_getElem hi,List.map_append,List.foldl_append]
 rfl
theorem OwnO.nil (w:World) (base:Nat):OwnO w base (.slice none 0 0) []:=⟨[],World.ownsRow_nil _ _ _ _,Sets.nil _⟩
theorem OwnO.val {w:World} {base:Nat} {v:Value} {Os:List Nat} (h:OwnO w base v Os):∃ A c,v=.slice A Os.length c:=by
 obtain ⟨vs,h1,_⟩:=h
 obtain ⟨A,c,e,_⟩:=RowN.of_own h1
 exact ⟨A,c,e⟩
theorem OwnO.at {w:World} {base n c i:Nat} {A:Option Addr} {Os:List Nat} (h:OwnO w base (.slice A n c) Os) (hi:i < Os.length) :
  ∃ g A1 c1,A=some ⟨g,0,none⟩∧base≤g∧g < w.heap.size∧(∃ cs,Blk w g 58 cs)∧w.cell? ⟨g,i,none⟩=some (.slice A1 (nw (Os.getD i 0)) c1)∧IsSet w (.slice A1 (nw (Os.getD i 0)) c1) (Os.getD i 0):=by
 obtain ⟨vs,h1,h2⟩:=h
 rcases id h1.2 with ⟨hv,hn⟩ | ⟨g,cap,cur,hv,hg,hB,hc1,hc2,hsz,htk⟩
 ·omega
 ·cases hv
  obtain ⟨v,hvx⟩:∃ v,vs[i]?=some v:=⟨_,List.getElem?_eq_getElem (by rw [h2.1];exact hi)⟩
  have hox:Os[i]?=some (Os.getD i 0):=by rw [List.getD_eq_getElem?_getD,List.getElem?_eq_getElem hi];rfl
  have sv:=h2.2 i v _ hvx hox
  obtain ⟨A1,c1,rfl,_⟩:=id sv
  have hB':Blk w g 58 cur:=hB
  refine ⟨g,A1,c1,rfl,hg,hB'.lt,⟨cur,hB'⟩,(hB'.cell i).trans ?_,sv⟩
  rw [← htk,List.getElem?_take,if_pos (by omega),Array.getElem?_toList] at hvx
  exact hvx
theorem OwnO.put {w:World} {base g n c i N:Nat} {v:Value} {Os:List Nat} (h:OwnO w base (.slice (some ⟨g,0,none⟩) n c) Os) (hs:IsSet w v N) (hi:i < Os.length) :
  OwnO (w.setCell ⟨g,i,none⟩ v) base (.slice (some ⟨g,0,none⟩) n c) (Os.set i N):=by
 obtain ⟨vs,h1,h2⟩:=h
 rcases id h1.2 with ⟨hv,hn⟩ | ⟨g',cap,cur,hv,hg,hB,hc1,hc2,hsz,htk⟩
 ·omega
 ·cases hv
  have hB':Blk w g 58 cur:=hB
  have hk:KeepW w (w.setCell ⟨g,i,none⟩ v):=KeepW.setCell (p:=⟨g,i,none⟩) hB' (by decide) v
  refine ⟨vs.set i v,⟨by rw [List.length_set,List.length_set];exact h1.1,.inr ⟨g,c,cur.setIfInBounds i v,by rw [List.length_set],hg,hB'.set_ i v,by rw [List.length_set];exact hc1,hc2,by rw [Array.size_setIfInBounds];exact hsz,?_⟩⟩,(h2.keep hk).put (hs.keep hk)⟩
  rw [List.length_set,Array.toList_setIfInBounds,List.take_set,htk]
theorem all_cov (p C:Nat) (Ns:List Nat) (w:World) (h:IsMat w p C Ns) :
  Calls Tryz.prog 29 #[ptr p] w fun e w'=>∃ v,e=.returned v∧OwnO w' w.heap.size v Ns∧Below w.heap.size w w':=by
 obtain ⟨i0,hi0,hz0,hz1,hz2⟩:=info_parts info_set
 have hl:Ns.length≤4096:=h.2.1
 have hrow:=fun W (hW:Below w.heap.size w W) (k:Nat) (hk:k < Ns.length)=>by
  have:=row_any p C Ns k W (h.below hW)
  rw [mrow,if_pos (by omega),Int.toNat_natCast] at this
  exact this
 have HROW:=Lib.hid hrow
 clear hrow
 go_enter Tryz.func29,Tryz.ntmps29
 go_wp2_with fail
 refine (rows_any p C Ns w h).mono ?_
 rintro e w' ⟨rfl,rfl⟩
 go_wp2_with fail
 refine wp_loopF (β:=Nat×Value) (fun x f=>#[ptr p,f 1,.slice none 0 0,x.2,f 4,f 5,.int .i64 (Ns.length:Int),.int .i64 (x.1:Int),f 8,f 9,f 10,f 11,f 12,f 13,f 14,f 15,f 16,f 17])
  (fun x ds W=>ds=[]∧x.1≤Ns.length∧Below w.heap.size w W∧OwnO W w.heap.size x.2 (Ns.take x.1)) (fun x=>Ns.length-x.1) (0,.slice none 0 0) rfl
  ⟨rfl,Nat.zero_le _,Below.refl _ _,by rw [List.take_zero];exact OwnO.nil _ _⟩ ?_
 rintro ⟨k,v3⟩ f ds W ⟨rfl,hk,hb,hown⟩
 dsimp only at hk hown ⊢
 by_cases hlt:k < Ns.length
 ·obtain ⟨s,hs⟩:∃ s,Ns[k]?=some s:=⟨_,List.getElem?_eq_getElem hlt⟩
  have htk:Ns.take (k+1)=Ns.take k ++ [s]:=by rw [List.take_add_one,hs];rfl
  have hgd:Ns.getD k 0=s:=by rw [List.getD_eq_getElem?_getD,hs];rfl
  have htl:(Ns.take k).length=k:=by rw [List.length_take];omega
  have HC:=hideC (res3 rfl (HROW.out W hb k hlt))
  rw [hgd] at HC
  obtain ⟨vs,hown0,hsets⟩:=hown
  rw [htl] at hown0
  obtain ⟨A3,c3,rfl,-⟩:=RowN.of_own hown0
  have HTK:=Lib.hid htk;have HTL:=Lib.hid htl;have HS:=Lib.hid hsets
  clear htk hs hgd htl hsets
  go_wp2_with fail
  refine HC.out.mono ?_
  rintro e W1 ⟨Ar,nr,cr,rfl,sr,hb1⟩
  have b1:=hb.trans (hb1.mono hb.size)
  have own1:=own_below hown0 hb1
  have hba:Below W1.heap.size W1 (W1.alloc (.cells #[.slice Ar nr cr] 58)):=(Below.refl _ _).alloc (Nat.le_refl _) _
  have hlocs:=own_below own1 hba
  have b2:=b1.trans (hba.mono b1.size)
  have sr2:=sr.below hba
  have HS2:=Lib.hid ((HS.out.below hb1).below hba)
  have hsz:=b1.size
  clear HC hown0 own1 hba sr hb1
  go_wp2_with (at_builtin;refine wpList_append_own _ rfl _ _ 86 rfl (w.heap.size) 58 i0 (.agg #[.slice none 0 0]) 1 24 Tryz.underlying86 hi0 hz0 hz1 hz2 rfl (by decide) _ _ _ rfl (hlocs) ⟨W1.heap.size,0,none⟩ 1 1 [.slice Ar nr cr] rfl rfl (cell_one_new _ _ _) (by simp [Value.oneCell']) (by unfold maxLen;omega) (by omega) (by simp;omega) ?_;intro v' w3 hown' hgrow _)
  have hkw:=KeepW.grown hgrow hlocs (by decide)
  have b3:=b2.grown hgrow b2.size (fun q hq=>(hlocs.lt q hq).1)
  exact ⟨(k+1,v'),rfl,⟨by first | rfl | trivial,by show k+1≤Ns.length;omega,b3,by dsimp only;rw [HTK.out];exact ⟨_,by rw [List.length_append,HTL.out];exact hown',(HS2.out.keep hkw).snoc (sr2.keep hkw)⟩⟩,by show Ns.length-(k+1) < Ns.length-k;omega⟩
 ·obtain rfl:k=Ns.length:=by omega
  rw [List.take_length] at hown
  obtain ⟨A3,c3,rfl⟩:=hown.val
  go_wp2_with fail
  go_ret
  exact ⟨_,rfl,hown,hb⟩
theorem size_any (base:Nat) (v:Value) (Os:List Nat) (w:World) (h:OwnO w base v Os) (hl:Os.length≤4096) :
  Calls Tryz.prog 34 #[v] w fun e w'=>e=.returned (.int .i64 (cellsOf Os).length)∧Below w.heap.size w w':=by
 obtain ⟨A,c,rfl⟩:=h.val
 rw [← sumO_all]
 go_enter Tryz.func34,Tryz.ntmps34
 go_wp2_with fail
 refine wp_loopF (β:=Nat) (fun x f=>#[.slice A Os.length c,f 1,.int .i64 0,.int .i64 (sumO Os x:Int),f 4,f 5,.slice A Os.length c,.int .i64 (Os.length:Int),.int .i64 (x:Int),f 9,f 10,f 11,f 12,f 13,f 14,f 15,f 16,f 17])
  (fun x ds W=>ds=[]∧x≤Os.length∧Below w.heap.size w W∧sumO Os x≤x*4096) (fun x=>Os.length-x) 0 rfl
  ⟨rfl,Nat.zero_le _,Below.refl _ _,by simp [sumO]⟩ ?_
 rintro k f ds W ⟨rfl,hk,hb,hsu⟩
 dsimp only at hk ⊢
 by_cases hlt:k < Os.length
 ·obtain ⟨g,A1,c1,rfl,-,-,-,d0,s1⟩:=(h.below hb).at hlt
  have hsc:=sumO_succC hlt
  generalize Os.getD k 0=ox at d0 s1 hsc
  have hcl:=card_le (by obtain ⟨_,_,_,h1,_⟩:=s1;exact h1:nw ox≤64)
  obtain ⟨su,hsue⟩:∃ s,s=sumO Os k:=⟨_,rfl⟩
  rw [← hsue] at hsc hsu ⊢
  obtain ⟨hwr,hsu2,hs1,hlt2⟩:=sum_step hlt hl hsu hcl
  have HWR:=Lib.hid hwr;have HSC:=Lib.hid hsc;have HSU:=Lib.hid hsu2;have HS1:=Lib.hid hs1;have HLT:=Lib.hid hlt2
  have HLE:=Lib.hid (fun W hW=>len_any (.slice A1 (nw ox) c1) ox W hW)
  clear hsue hsc hsu2 hs1 hlt2 hcl hwr
  go_upto_region 5 with fail
  refine abs1 fun W1 h5 hb1 hz=>?_
  clear hz
  have b1:=hb.trans (hb1.mono hb.size)
  have c5:=h5.cell 0
  obtain ⟨g5,hg5⟩:∃ x,x=W.heap.size:=⟨_,rfl⟩
  rw [← hg5] at h5 c5 ⊢
  have HL:=hideC (HLE.out W1 (s1.below hb1))
  clear hg5 d0 s1 hb1
  go_wp2_with fail
  refine HL.out.mono ?_
  rintro e W2 ⟨rfl,hb2⟩
  go_wp2_with fail
  exact ⟨k+1,by rw [HSC.out,HWR.out];rfl,⟨by first | rfl | trivial,HS1.out,b1.trans (hb2.mono b1.size),by rw [HSC.out];exact HSU.out⟩,HLT.out⟩
 ·obtain rfl:k=Os.length:=by omega
  go_wp2_with fail
  go_ret
  exact ⟨rfl,hb⟩
theorem gainR_snoc2 (C:Nat) (Ns Os:List Nat) (s:Nat) (ks:List Nat) (i:Nat):gainR C Ns Os s (ks ++ [i])=gainR C Ns Os s ks+card (Os.getD i 0&&&cloN C Ns s):=by
 unfold gainR;rw [List.map_append,List.foldl_append];rfl
theorem gain_any (base:Nat) (v:Value) (C:Nat) (Ns Os:List Nat) (s X:Nat) (A1:Option Addr) (c1:Nat) (A2:Option Addr) (c2:Nat) (w:World) (h:OwnO w base v Os) (hlen:Os.length=Ns.length) (hl:Ns.length≤4096) (hC:C≤12) (hX:X=havN C Ns s) (hcs:cloN C Ns s=s)
  (s1:IsSet w (.slice A1 (nw X) c1) X) (s2:IsSet w (.slice A2 (nw s) c2) s) (hT:Tab w) :
  Calls Tryz.prog 35 #[v,.agg #[.slice A1 (nw X) c1,.slice A2 (nw s) c2]] w fun e w'=>e=.returned (.int .i64 (gainR C Ns Os s (mems X)))∧Below w.heap.size w w':=by
 obtain ⟨A,c,rfl⟩:=h.val
 have hRl:∀ x,X.testBit x=true→x < Os.length:=fun x hx=>by rw [hlen];rw [hX] at hx;exact havN_lt hl hx
 have hgl:=fun ks=>gainR_le C Ns Os s ks
 have hgs:=fun ks i=>gainR_snoc2 C Ns Os s ks i
 have hcd:=fun Y=>card_and (C:=C) (Ns:=Ns) Y s
 rw [hcs] at hgs hcd
 have HGS:=Lib.hid hgs;have HCD:=Lib.hid hcd;have HGL:=Lib.hid hgl;have HRL:=Lib.hid hRl;have HLO:=Lib.hid hlen;have HO:=Lib.hid h
 clear hgs hcd hgl hRl hX hcs hlen h
 refine (callsIn_wide (n:=9)).1 (callsIn_of_wp_marks Tryz.func35 rfl trivial (wpIn_wide.2 ?_) rfl)
 simp only [Tryz.ntmps35,List.size_toArray,List.length_cons,List.length_nil,Nat.reduceAdd,Nat.reduceSub,Array.replicate_succ,Array.replicate_zero,List.push_toArray,List.append_toArray,List.nil_append,List.cons_append]
 go_wp2_with fail
 refine absC3 fun W4 hX4 hK4 hN4 hb4 hz=>?_
 clear hz
 have hT4:=hT.below hb4
 have s14:=s1.below hb4
 have s24:=s2.below hb4
 obtain ⟨gx,hgx⟩:∃ x,x=w.heap.size:=⟨_,rfl⟩
 have hgw:w.heap.size≤gx:=by omega
 rw [← hgx] at hX4 hK4 hN4 ⊢
 clear hgx
 refine (all_any A1 (nw X) c1 W4).mono ?_
 rintro e w5 ⟨rfl,hw5⟩
 have hY:=hw5▸Blk.new W4 58 #[.slice A1 (nw X) c1]
 have hb5:Below W4.heap.size W4 w5:=by rw [hw5];exact (Below.refl _ _).alloc (Nat.le_refl _) _
 clear hw5
 have k5:=hb4.trans (hb5.mono hb4.size)
 have hX5:=hX4.below hb5 hX4.lt
 have hK5:=hK4.below hb5 hK4.lt
 have hN5:=hN4.below hb5 hN4.lt
 have s15:=s14.below hb5
 have s25:=s24.below hb5
 have hT5:=hT.below k5
 obtain ⟨gy,hgy⟩:∃ g,g=W4.heap.size:=⟨_,rfl⟩
 rw [← hgy] at hY ⊢
 clear hgy hb5 hX4 hK4 hN4 s14 s24 hT4
 go_wp2_with fail
 refine wp_rangeAll (v:=.slice A1 (nw X) c1) (N:=X) (Bx:=gy) rfl (hY.cell 0) s15 hT5 rfl
  (fun pre W=>Blk W (gx+2) 3 #[.int .i64 (gainR C Ns Os s pre:Int)]∧Blk W (gx+1) 98 #[.slice A1 (nw X) c1,.slice A2 (nw s) c2]∧Blk W gx 86 #[.slice A Os.length c]∧Below w.heap.size w W∧KeepD w5 W∧IsSet W (.slice A2 (nw s) c2) s) (fun _ _ _=>False)
  ?hI (fun _ _ _ _ _ hs _ _=>hs) ?h0 ?a1 ?assign ?body ?done (fun _ _ _ _ _ h _=>h.elim)
 case assign =>
  intro l x W K hKa
  gi_wp2
  exact hKa
 case hI =>
  rintro s W W' row ⟨h1,h2,h3,h4,h5,h6⟩ hg hrw
  have hk:=KeepC.of_grown hg hrw
  exact ⟨h1.kc hk,h2.kc hk,h3.kc hk,h4.grown hg h4.size fun k' e=>Nat.le_trans k5.size (hrw k' e).1,h5.grown hg hrw,h6.keep hk.keep⟩
 case h0=>exact ⟨hN5,hK5,hX5,k5,KeepD.refl _,s25⟩
 case body =>
  rintro ll pre x W hx ⟨h1,h2,h3,h4,h5,h6⟩ hlen hkp
  have hxl:x < Os.length:=HRL.out x hx
  obtain ⟨g1,Av2,cv2,rfl,-,-,-,d1,sv⟩:=(HO.out.below h4).at hxl
  have hst:=HGS.out pre x
  have hc1:=HCD.out (Os.getD x 0)
  generalize Os.getD x 0=ox at sv hst hc1 d1
  have hgp:gainR C Ns Os s pre≤49152:=Nat.le_trans (HGL.out pre) (Nat.le_trans (Nat.mul_le_mul (Nat.le_of_lt hlen) hC) (by decide))
  have cN:=h1.cell 0
  have cX:=h3.cell 0
  have cK:=h2.cell 1
  have hd:Below W.heap.size W W.drew:=(Below.refl _ _).drew
  have HA:=hideC (and_any _ _ ox s W.drew (sv.below hd) (h6.below hd))
  obtain ⟨cd,hcde⟩:∃ c,c=card (ox&&&s):=⟨_,rfl⟩
  have hLE:=fun W' r hr'=>len_any r (ox&&&s) W' hr'
  rw [← hcde] at hst hc1 hLE
  obtain ⟨gp,hgpe⟩:∃ c,c=gainR C Ns Os s pre:=⟨_,rfl⟩
  rw [← hgpe] at hst hgp cN
  have HLE:=Lib.hid hLE
  have HST:=Lib.hid hst
  have hcd12:cd≤12:=Nat.le_trans hc1 hC
  clear hcde hgpe hst hLE hc1
  gi_wp2_with fail
  refine wpIn_spine (fun V=>Below W.heap.size W V) [0,1,2,3,4,5,6] [7,8,9,10] (fun _=>trivial) (by kernel_rfl) (by kernel_rfl) (by kernel_rfl) ?_
  iterate 7 (refine wpE_op (v:=?_) rfl rfl (fun W hW=>?_) ?_;rotate_left;(have z0:=onB hW cN;have z1:=onB hW cX;have z2:=onB hW cK;have z3:=onB hW d1;go_simp;first | done | with_reducible rfl);simp only [pt1,pt3,pt4,pt5])
  refine wpE_nil ⟨fun h=>(by cases h),wpSpI_op rfl hd ?_⟩
  gi_wp2_with (refine ⟨trivial,?_⟩;gi_at_call 81;refine (CallsIn.inRound ll (callsIn_wide.2 HA.out)).mono ?_;rintro e w6 ⟨r2,rfl,hr2,hb6⟩;obtain ⟨A7,c7,rfl,_⟩:=id hr2)
  have hb6':=hd.trans (hb6.mono hd.size)
  have HL:=hideC (HLE.out w6 _ hr2)
  refine nxtI_op rfl hb6' ?_
  gi_wp2_with (refine ⟨trivial,?_⟩;gi_at_call 61;refine (CallsIn.inRound ll (callsIn_wide.2 HL.out)).mono ?_;rintro e w7 ⟨rfl,hb7⟩)
  have hb7':=hb6'.trans (hb7.mono hb6'.size)
  have h17:=h1.below hb7' h1.lt
  have cN7:=h17.cell 0
  have fN7:=h17.frozen 0
  have lN7:=h17.lt
  refine nxtI_op rfl hb7' ?_
  gi_wp2_with fail
  refine nxtI_op rfl hb7' ?_
  gi_wp2_with fail
  refine nxtI_nil ?_
  gi_wp2_with fail
  have hk8:=(KeepW.of_below hb7').trans (KeepW.setCell (p:=⟨gx+2,0,none⟩) h17 (by decide) (.int .i64 ((gp:Int)+cd)))
  have hb8:=(hb7'.mono h4.size).setCell (p:=⟨gx+2,0,none⟩) (show w.heap.size≤gx+2 by omega) (.int .i64 ((gp:Int)+cd))
  exact ⟨((KeepsOthers.of_below hb7').trans (KeepsOthers.setCell _ _ _)).from _,KpA.mk_ hk8 hb8 hT.pos,
   by rw [HST.out];exact h17.set_ 0 (.int .i64 ((gp:Int)+cd)),(h2.below hb7' h2.lt).far (p:=⟨gx+2,0,none⟩) (by simp) _,(h3.below hb7' h3.lt).far (p:=⟨gx+2,0,none⟩) (by simp) _,h4.trans hb8,h5.others ((KeepsOthers.of_below hb7').trans (KeepsOthers.setCell _ _ _)),h6.keep hk8⟩
 case done =>
  rintro D W hD ⟨h1,h2,h3,h4,h5,h6⟩ hKd
  have hM6:=Marks.cons (ds:=[]) (n₀:=w.heap.size) (W0:=w5) trivial h5 (by have:=k5.size;omega) hD hKd
  have n0:=h1.cell 0
  go_wp2_with fail
  refine leave_marks (n₀:=w.heap.size) _ _ hM6 fun W' hW'=>?_
  exact ⟨_,by simp [results,Tryz.results35],rfl,h4.trans hW'.1⟩
theorem cloneO_any (base:Nat) (v:Value) (Os:List Nat) (w:World) (h:OwnO w base v Os) (h0:0 < Os.length) (hl:Os.length≤4096) :
  Calls Tryz.prog 82 #[v] w fun e w'=>∃ g' c',e=.returned (.slice (some ⟨g',0,none⟩) Os.length c')∧OwnO w' w.heap.size (.slice (some ⟨g',0,none⟩) Os.length c') Os∧Below w.heap.size w w':=by
 obtain ⟨i0,hi0,hz0,hz1,hz2⟩:=info_parts info_set
 obtain ⟨A,c,vs,rfl,hr,hs,_⟩:=h.row
 obtain ⟨g,off,rfl,hg,hc⟩:=hr (by rw [hs.1];exact h0)
 have hadd:∀ (j:Nat) u,vs[j]?=some u→(w.alloc (.cells #[] 58)).cell? ((⟨g,off,none⟩:Addr).add j)=some u:=fun j u hu=>by
  have:=hc j u hu
  have e:(⟨g,off,none⟩:Addr).add j=⟨g,off+j,none⟩:=by unfold Addr.add;split <;> simp_all
  rw [e];exact (World.cell?_alloc_lt _ _ _ hg).trans this
 have hone:∀ u∈vs,u.oneCell'=true:=fun u hu=>by
  obtain ⟨j,hj⟩:=List.getElem?_of_mem hu
  have hlt:j < Os.length:=by rw [← hs.1];exact (List.getElem?_eq_some_iff.1 hj).1
  obtain ⟨A,d,e,_⟩:=hs.at_ hlt
  rw [hj] at e
  cases e;rfl
 have hlen:vs.length=Os.length*1:=by rw [hs.1];omega
 have HADD:=Lib.hid hadd;have HONE:=Lib.hid hone;have HLEN:=Lib.hid hlen;have HS:=Lib.hid hs
 clear hadd hc hone hlen hr hs h
 have own0:=World.ownsRow_lit (base:=w.heap.size) (e:=58) (size:=1) w #[] 0 (Nat.le_refl _) (by decide) rfl
 have hb0:=(Below.refl w.heap.size w).alloc (Nat.le_refl _) (.cells #[] 58)
 have hnil:=fun W=>run_eql_some_nil (P:=Tryz.prog) Tryz.underlying86 ⟨g,off,none⟩ Os.length c W
 go_enter Tryz.func82,Tryz.ntmps82
 go_wp2_with (at_builtin;refine wpList_append_lies _ rfl _ _ 86 rfl w.heap.size 58 i0 (.agg #[.slice none 0 0]) 1 24 Tryz.underlying86 hi0 hz0 hz1 hz2 rfl (by decide) _ _ _ rfl own0 ⟨g,off,none⟩ Os.length c vs rfl HLEN.out HADD.out HONE.out h0 (by unfold maxLen;omega) (by omega) (by simp) _ rfl ?_)
 intro g5 cap5 w3 hown' hgrow hlies hlt5
 have hbe3:=hb0.grown hgrow (by simp) (fun q hq=>(own0.lt q hq).1)
 go_wp2_with fail
 go_ret
 exact ⟨g5,cap5,by simp,⟨_,by simpa using hown',HS.out.below hbe3⟩,hbe3⟩
theorem without_cov (base:Nat) (v:Value) (C:Nat) (Ns Os:List Nat) (s X:Nat) (A1:Option Addr) (c1:Nat) (A2:Option Addr) (c2:Nat) (w:World) (h:OwnO w base v Os) (h0:0 < Os.length) (hlen:Os.length=Ns.length) (hl:Ns.length≤4096) (hX:X=havN C Ns s)
  (s1:IsSet w (.slice A1 (nw X) c1) X) (s2:IsSet w (.slice A2 (nw s) c2) s) (hT:Tab w) :
  Calls Tryz.prog 36 #[v,.agg #[.slice A1 (nw X) c1,.slice A2 (nw s) c2]] w fun e w'=>∃ v',e=.returned v'∧OwnO w' w.heap.size v' (lessO C Ns Os s)∧Below w.heap.size w w':=by
 have hHX:=lessP_mems C Ns Os s
 rw [← hX] at hHX
 have HLM:=Lib.hid hHX
 have HRL:=Lib.hid (fun y (hy:X.testBit y=true)=>(by rw [hX] at hy;rw [hlen];exact havN_lt hl hy:y < Os.length))
 have HSN:=Lib.hid (fun pre x (hx:x < Os.length)=>lessP_snoc (s:=s) (pre:=pre) hx)
 have HLL:=Lib.hid (fun pre=>lessP_len s Os pre)
 have HNI:=Lib.hid (lessP_nil s Os)
 have hl':Os.length≤4096:=by omega
 obtain ⟨A,c,rfl⟩:=h.val
 clear hHX hX hlen
 refine (callsIn_wide (n:=9)).1 (callsIn_of_wp_marks Tryz.func36 rfl trivial (wpIn_wide.2 ?_) rfl)
 simp only [Tryz.ntmps36,List.size_toArray,List.length_cons,List.length_nil,Nat.reduceAdd,Nat.reduceSub,Array.replicate_succ,Array.replicate_zero,List.push_toArray,List.append_toArray,List.nil_append,List.cons_append]
 go_wp2_with fail
 refine absC1 fun W1 h3 hb1 hz=>?_
 clear hz
 have s11:=s1.below hb1
 have s21:=s2.below hb1
 obtain ⟨g3,hg3⟩:∃ x,x=w.heap.size:=⟨_,rfl⟩
 have hg3w:w.heap.size≤g3:=by omega
 have hW1:w.heap.size≤W1.heap.size:=hb1.size
 rw [← hg3] at h3 ⊢
 clear hg3
 refine (cloneO_any base _ Os W1 (h.below hb1) h0 hl').mono ?_
 rintro e W2 ⟨gc,cc,rfl,hO2,hb2⟩
 have k2:=hb1.trans (hb2.mono hb1.size)
 have h32:=h3.below hb2 h3.lt
 have s12:=s11.below hb2
 have s22:=s21.below hb2
 have hgc:g3 < gc:=by
  obtain ⟨g',_,_,e,hle,_⟩:=hO2.at h0
  cases e
  exact Nat.lt_of_lt_of_le h3.lt hle
 clear s11 s21 h3 hb1 hb2
 have c32:=h32.cell 0
 have l32:=h32.lt
 go_wp2_with fail
 refine absC1 fun W4 h5 hb4 hz=>?_
 clear hz
 have k4:=k2.trans (hb4.mono k2.size)
 have h34:=h32.below hb4 h32.lt
 have s14:=s12.below hb4
 have s24:=s22.below hb4
 have hO4:=(hO2.low hW1).below hb4
 have hgc5:gc < W2.heap.size:=by
  obtain ⟨g',_,_,e,_,hlt,_⟩:=hO2.at h0
  cases e
  exact hlt
 obtain ⟨g5,hg5⟩:∃ x,x=W2.heap.size:=⟨_,rfl⟩
 rw [← hg5] at h5 hgc5 ⊢
 clear hg5 k2 h32 s12 s22 hO2 hb4 c32 l32
 refine (all_any A1 (nw X) c1 W4).mono ?_
 rintro e w5 ⟨rfl,hw5⟩
 have hY:=hw5▸Blk.new W4 58 #[.slice A1 (nw X) c1]
 have hb5:Below W4.heap.size W4 w5:=by rw [hw5];exact (Below.refl _ _).alloc (Nat.le_refl _) _
 clear hw5
 have k5:=k4.trans (hb5.mono k4.size)
 have h35:=h34.below hb5 h34.lt
 have h55:=h5.below hb5 h5.lt
 have hO5:=hO4.below hb5
 have s15:=s14.below hb5
 have s25:=s24.below hb5
 have hT5:=hT.below k5
 obtain ⟨gy,hgy⟩:∃ g,g=W4.heap.size:=⟨_,rfl⟩
 rw [← hgy] at hY ⊢
 clear hgy hb5 h34 h5 hO4 s14 s24 k4
 go_wp2_with fail
 refine wp_rangeAll (v:=.slice A1 (nw X) c1) (N:=X) (Bx:=gy) rfl (hY.cell 0) s15 hT5 rfl
  (fun pre W=>OwnO W w.heap.size (.slice (some ⟨gc,0,none⟩) Os.length cc) (lessP s Os pre)∧Blk W g3 98 #[.slice A1 (nw X) c1,.slice A2 (nw s) c2]∧Blk W g5 86 #[.slice (some ⟨gc,0,none⟩) Os.length cc]∧Below w.heap.size w W∧KeepD w5 W∧IsSet W (.slice A2 (nw s) c2) s) (fun _ _ _=>False)
  ?hI (fun _ _ _ _ _ hs _ _=>hs) ?h0 ?a1 ?assign ?body ?done (fun _ _ _ _ _ h _=>h.elim)
 case assign =>
  intro l x W K hKa
  gi_wp2
  exact hKa
 case hI =>
  rintro s W W' row ⟨⟨vs,h1,h1'⟩,h2,h3,h4,h5,h6⟩ hg hrw
  have hk:=KeepC.of_grown hg hrw
  exact ⟨⟨vs,own_kc h1 hk,h1'.keep hk.keep⟩,h2.kc hk,h3.kc hk,h4.grown hg h4.size fun k' e=>Nat.le_trans k5.size (hrw k' e).1,h5.grown hg hrw,h6.keep hk.keep⟩
 case h0=>exact ⟨by rw [HNI.out];exact hO5,h35,h55,k5,KeepD.refl _,s25⟩
 case body =>
  rintro ll pre x W hx ⟨h1,h2,h3,h4,h5,h6⟩ hlen hkp
  have hxl:x < Os.length:=HRL.out x hx
  have hxl2:x < (lessP s Os pre).length:=by rw [HLL.out];exact hxl
  obtain ⟨g1,Av2,cv2,e,hle,hlt,⟨cs,hB⟩,d1,sv⟩:=h1.at hxl2
  cases e
  have hst:=HSN.out pre x hxl
  generalize (lessP s Os pre).getD x 0=ox at sv hst d1
  have cK:=h2.cell 1
  have cO:=h3.cell 0
  have hd:Below W.heap.size W W.drew:=(Below.refl _ _).drew
  have HST:=Lib.hid hst
  have HMI:=hideC (res3 rfl (minus_any _ _ ox s W.drew (sv.below hd) (h6.below hd)))
  clear hst
  gi_wp2_with fail
  refine wpIn_spine (fun V=>Below W.heap.size W V) [0,1,2,3,4,5,6,7] [8,9,10] (fun _=>trivial) (by kernel_rfl) (by kernel_rfl) (by kernel_rfl) ?_
  iterate 8 (refine wpE_op (v:=?_) rfl rfl (fun W hW=>?_) ?_;rotate_left;(have z1:=onB hW cO;have z2:=onB hW cK;have z3:=onB hW d1;go_simp;first | done | with_reducible rfl);simp only [pt1,pt3,pt4,pt5])
  refine wpE_nil ⟨fun h=>(by cases h),wpSpI_op rfl hd ?_⟩
  gi_wp2_with (refine ⟨trivial,?_⟩;gi_at_call 83;refine (CallsIn.inRound ll (callsIn_wide.2 HMI.out)).mono ?_;rintro e w6 ⟨A7,n7,c7,rfl,hr7,hb6⟩)
  have hb6':=hd.trans (hb6.mono hd.size)
  have hB7:=hB.below hb6' hB.lt
  have d7:=onB hb6' d1
  have f7:=hB7.frozen x
  have l7:=hB7.lt
  refine nxtI_op rfl hb6' ?_
  gi_wp2_with fail
  refine nxtI_op rfl hb6' ?_
  gi_wp2_with fail
  refine nxtI_nil ?_
  gi_wp2_with fail
  have hk8:=(KeepW.of_below hb6').trans (KeepW.setCell (p:=⟨gc,x,none⟩) hB7 (by decide) (.slice A7 n7 c7))
  have hb8:=(hb6'.mono h4.size).setCell (p:=⟨gc,x,none⟩) (show w.heap.size≤gc by omega) (.slice A7 n7 c7)
  exact ⟨((KeepsOthers.of_below hb6').trans (KeepsOthers.setCell _ _ _)).from _,KpA.mk_ hk8 hb8 hT.pos,
   by rw [← HST.out];exact (h1.below hb6').put hr7 hxl2,(h2.below hb6' h2.lt).far (p:=⟨gc,x,none⟩) (by simp;omega) _,(h3.below hb6' h3.lt).far (p:=⟨gc,x,none⟩) (by simp;omega) _,h4.trans hb8,h5.others ((KeepsOthers.of_below hb6').trans (KeepsOthers.setCell _ _ _)),h6.keep hk8⟩
 case done =>
  rintro D W hD ⟨h1,h2,h3,h4,h5,h6⟩ hKd
  rw [HLM.out] at h1
  have hM6:=Marks.cons (ds:=[]) (n₀:=w.heap.size) (W0:=w5) trivial h5 (by have:=k5.size;omega) hD hKd
  have n0:=h3.cell 0
  go_wp2_with fail
  refine leave_marks (n₀:=w.heap.size) _ _ hM6 fun W' hW'=>?_
  exact ⟨_,by simp [results,Tryz.results36],_,rfl,h1.shut hW',h4.trans hW'.1⟩
end Go.Proofs.YtafpmkdlciioaaaGreatDoor
namespace Go.Proofs.YtafpmkdlciioaaaGreatDoor
open Go.RowKit
def IsSr (w:World) (gs base:Nat) (vL:Value) (q C:Nat) (Ns L:List Nat) (nd:Int):Prop:=Blk w gs 85 #[ptr q,vL,.int .i64 nd]∧OwnK w base vL C Ns L
theorem IsSr.below {w w':World} {gs base q C:Nat} {vL:Value} {Ns L:List Nat} {nd:Int} (h:IsSr w gs base vL q C Ns L nd) (hb:Below w.heap.size w w'):IsSr w' gs base vL q C Ns L nd:=by
 obtain ⟨h1,h2⟩:=h
 exact ⟨h1.below hb h1.lt,h2.below hb⟩
def OwnX (w:World) (base:Nat) (v:Value) (ks:List Nat):Prop:=w.ownsRow base 3 1 v ks.length (ks.map fun (k:Nat)=>.int .i64 (k:Int))
theorem OwnX.below {w w':World} {base:Nat} {v:Value} {ks:List Nat} (h:OwnX w base v ks) (hb:Below w.heap.size w w'):OwnX w' base v ks:=own_below h hb
theorem OwnX.low {w:World} {base b0:Nat} {v:Value} {ks:List Nat} (h:OwnX w base v ks) (hb:b0≤base):OwnX w b0 v ks:=own_low h hb
theorem OwnX.nil (w:World) (base:Nat):OwnX w base (.slice none 0 0) []:=World.ownsRow_nil _ _ _ _
theorem OwnX.val {w:World} {base:Nat} {v:Value} {ks:List Nat} (h:OwnX w base v ks):∃ A c,v=.slice A ks.length c:=by
 obtain ⟨A,c,e,_⟩:=RowN.of_own h
 exact ⟨A,c,e⟩
theorem OwnX.at {w:World} {base n c i k:Nat} {A:Option Addr} {ks:List Nat} (h:OwnX w base (.slice A n c) ks) (hi:ks[i]?=some k) :
  ∃ g off,A=some ⟨g,off,none⟩∧g < w.heap.size∧w.cell? ⟨g,off+i,none⟩=some (.int .i64 (k:Int)):=by
 obtain ⟨A',c',e,hr⟩:=RowN.of_own h
 cases e
 have hlt:=(List.getElem?_eq_some_iff.1 hi).1
 obtain ⟨g,off,e,hg,hc⟩:=hr.1 (by rw [List.length_map];omega)
 exact ⟨g,off,e,hg,hc i _ (by rw [List.getElem?_map,hi];rfl)⟩
theorem mostT_succ {C:Nat} {Ns L:List Nat} {o:List (Nat×Nat)} {k s:Nat} (h:L[k]?=some s):gainM C Ns (L.take (k+1)) o=max (gainM C Ns (L.take k) o) (o.countP (inS C Ns s)):=by
 unfold gainM
 rw [List.take_add_one,h];simp
theorem gainM_le (C:Nat) (Ns L:List Nat) (o:List (Nat×Nat)):gainM C Ns L o≤o.length:=foldl_max_bound _ _ _ (Nat.zero_le _) fun x hx=>by
 obtain ⟨s,_,rfl⟩:=List.mem_map.1 hx
 exact List.countP_le_length
theorem cells_le {Os:List Nat} (hl:Os.length≤4096) (hs:∀ i,i < Os.length→nw (Os.getD i 0)≤64):(cellsOf Os).length≤16777216:=by
 rw [← sumO_all]
 have:∀ n,n≤Os.length→sumO Os n≤n*4096:=by
  intro n
  induction n with
  | zero=>intro _;simp [sumO]
  | succ n ih =>
   intro hn
   have h1:=ih (by omega)
   have h2:=card_le (hs n (by omega))
   rw [sumO_succC (by omega)]
   omega
 have:=this Os.length (Nat.le_refl _)
 omega
theorem OwnO.nw {w:World} {base:Nat} {v:Value} {Os:List Nat} (h:OwnO w base v Os):∀ i,i < Os.length→nw (Os.getD i 0)≤64:=fun i hi=>by
 obtain ⟨A,c,rfl⟩:=h.val
 obtain ⟨_,A1,c1,_,_,_,_,_,s1⟩:=h.at hi
 obtain ⟨_,_,_,h1,_⟩:=s1
 exact h1
theorem bound_any (gs base base':Nat) (vL:Value) (q C:Nat) (Ns L Os:List Nat) (nd:Int) (v:Value) (b:Nat) (w:World) (hS:IsSr w gs base vL q C Ns L nd) (hO:OwnO w base' v Os) (hlen:Os.length=Ns.length) (hl:Ns.length≤4096) (hC:C≤12) (hL:L.length≤4096) (hcl:∀ s∈L,cloN C Ns s=s) (hb:b≤4096) (hT:Tab w) :
  Calls Tryz.prog 77 #[ptr gs,v,.int .i64 b] w fun e w'=>e=.returned (.bool (decide (b*gainM C Ns L (cellsOf Os) < (cellsOf Os).length)))∧Below w.heap.size w w':=by
 have hcb:=cells_le (by omega) hO.nw
 have hgm:=fun k=>gainM_le C Ns (L.take k) (cellsOf Os)
 have hstep:=fun k s=>mostT_succ (C:=C) (Ns:=Ns) (L:=L) (o:=cellsOf Os) (k:=k) (s:=s)
 have hgc:=fun s (hs:cloN C Ns s=s)=>(gain_cells hl hlen s).trans (by rw [hs])
 have hO':=Lib.hid hO
 obtain ⟨A,c,rfl⟩:=hO.val
 obtain ⟨hB,hK⟩:=hS
 obtain ⟨AL,cL,rfl⟩:=hK.val
 have hend:gainM C Ns (L.take L.length) (cellsOf Os)=gainM C Ns L (cellsOf Os):=by rw [List.take_length]
 have h00:gainM C Ns (L.take 0) (cellsOf Os)=0:=by simp [gainM]
 obtain ⟨r,hr⟩:∃ r,r=decide (b*gainM C Ns L (cellsOf Os) < (cellsOf Os).length):=⟨_,rfl⟩
 rw [← hr]
 have HR:=Lib.hid hr
 clear hr
 have HST:=Lib.hid hstep;have HGC:=Lib.hid hgc;have HCL:=Lib.hid hcl;have HGM:=Lib.hid hgm;have HEN:=Lib.hid hend;have HK:=Lib.hid hK;have HLE:=Lib.hid hlen
 clear hstep hgc hcl hgm hend hO hlen
 have cB:=hB.cell 1
 go_enter Tryz.func77,Tryz.ntmps77
 go_wp2_with fail
 refine wp_loopF (β:=Nat) (fun x f=>#[ptr gs,.slice A Os.length c,.int .i64 b,f 3,f 4,f 5,.bool false,.int .i64 (gainM C Ns (L.take x) (cellsOf Os):Int),f 8,f 9,f 10,f 11,f 12,.slice AL L.length cL,.int .i64 (L.length:Int),.int .i64 (x:Int),f 16,f 17,f 18,f 19,f 20,f 21,f 22,f 23,f 24,f 25,f 26,f 27,f 28,f 29,f 30])
  (fun x ds W=>ds=[]∧x≤L.length∧Below w.heap.size w W) (fun x=>L.length-x) 0 (by rw [h00];rfl)
  ⟨rfl,Nat.zero_le _,Below.refl _ _⟩ ?_
 rintro k f ds W ⟨rfl,hk,hbW⟩
 dsimp only at hk ⊢
 by_cases hlt:k < L.length
 ·obtain ⟨s,hs⟩:∃ s,L[k]?=some s:=⟨_,List.getElem?_eq_getElem hlt⟩
  have hcs:=HCL.out s (List.mem_of_getElem? hs)
  obtain ⟨gr,off,A1,c1,A2,c2,rfl,hgr,d0,d1,s1,s2⟩:=((HK.out.below hbW).isK (by omega)).at hs
  obtain ⟨X,hX⟩:∃ X,X=havN C Ns s:=⟨_,rfl⟩
  rw [← hX] at d0 s1
  have hst:=HST.out k s hs
  have hgc:=HGC.out s hcs
  rw [← hX] at hgc
  have hg1:=HGM.out k
  have hg2:(cellsOf Os).countP (inS C Ns s)≤(cellsOf Os).length:=List.countP_le_length
  have HGA:=Lib.hid (fun W' (hb':Below W.heap.size W W')=>gain_any base' (.slice A Os.length c) C Ns Os s X A1 c1 A2 c2 W' ((hO'.out.below hbW).below hb') HLE.out hl hC hX hcs (s1.below hb') (s2.below hb') ((hT.below hbW).below hb'))
  rw [hgc] at HGA
  obtain ⟨G,hG⟩:∃ G,G=gainM C Ns (L.take k) (cellsOf Os):=⟨_,rfl⟩
  obtain ⟨G1,hG1⟩:∃ G1,G1=(cellsOf Os).countP (inS C Ns s):=⟨_,rfl⟩
  rw [← hG,← hG1] at hst
  rw [← hG1] at HGA hg2
  rw [← hG] at hg1 ⊢
  have HS:=Lib.hid hst
  clear hst hgc hG hG1 hs hcs s1 s2 hX
  go_upto_region 5 with fail
  refine abs1 fun W1 h9 hb1 hz=>?_
  clear hz
  have b1:=hbW.trans (hb1.mono hbW.size)
  have HG1:=hideC (HGA.out W1 hb1)
  obtain ⟨g9,hg9⟩:∃ x,x=W.heap.size:=⟨_,rfl⟩
  rw [← hg9] at h9 ⊢
  have c9:=h9.cell 0
  have c91:=h9.cell 1
  clear hg9 hb1 d0 d1 HGA
  go_wp2_with fail
  refine HG1.out.mono ?_
  rintro e W2 ⟨rfl,hb2⟩
  have hmx:max (G:Int) (G1:Int)=((max G G1:Nat):Int):=by omega
  go_wp2_with fail
  exact ⟨k+1,by rw [HS.out];first | rfl | (rw [← hmx];rfl),⟨by first | rfl | trivial,by show k+1≤L.length;omega,b1.trans (hb2.mono b1.size)⟩,by show L.length-(k+1) < L.length-k;omega⟩
 ·obtain rfl:k=L.length:=by omega
  have hg1:=HGM.out L.length
  rw [HEN.out] at hg1 ⊢
  have hr:=HR.out
  have HSZ:=hideC (size_any base' (.slice A Os.length c) Os W (hO'.out.below hbW) (by rw [HLE.out];exact hl))
  obtain ⟨G,hG⟩:∃ G,G=gainM C Ns L (cellsOf Os):=⟨_,rfl⟩
  rw [← hG] at hg1 hr ⊢
  obtain ⟨n,hn⟩:∃ n,n=(cellsOf Os).length:=⟨_,rfl⟩
  rw [← hn] at hg1 hcb HSZ hr
  clear hG hn
  have hmul:b*G≤4096*16777216:=Nat.mul_le_mul hb (by omega)
  have hwm:wrap64 ((b:Int)*(G:Int))=((b*G:Nat):Int):=by
   rw [← Int.natCast_mul]
   exact IntWalk.wrap64_in _ ⟨by omega,by omega⟩
  obtain ⟨M,hM⟩:∃ M,M=b*G:=⟨_,rfl⟩
  rw [← hM] at hwm hmul hr
  have HD:=Lib.hid (show decide (M < n)=r from hr.symm)
  clear hM hr
  go_wp2_with fail
  refine HSZ.out.mono ?_
  rintro e W1 ⟨rfl,hb1⟩
  go_wp2_with fail
  go_ret
  refine ⟨?_,hbW.trans (hb1.mono hbW.size)⟩
  show Ending.returned (.bool (decide (M < n)))=_
  rw [HD.out]
theorem OwnX.snoc {w:World} {base n k:Nat} {v:Value} {ks:List Nat} {xs:List Value} (h:w.ownsRow base 3 1 v n xs) (hn:n=ks.length+1) (hx:xs=(ks.map fun (k:Nat)=>Value.int .i64 (k:Int)) ++ [.int .i64 (k:Int)]):OwnX w base v (ks ++ [k]):=by
 subst hx;subst hn
 unfold OwnX
 rw [List.length_append,List.map_append]
 exact h
def arTo (C:Nat) (Ns L:List Nat) (k0:Nat) (c:Nat×Nat) (n:Nat):List Nat:=(List.range n).filter fun k=>decide (k0≤k)&&inS C Ns (L.getD k 0) c
theorem arTo_zero (C:Nat) (Ns L:List Nat) (k0:Nat) (c:Nat×Nat):arTo C Ns L k0 c k0=[]:=List.eq_nil_iff_forall_not_mem.2 fun k hk=>by
 unfold arTo at hk
 rw [List.mem_filter,List.mem_range,Bool.and_eq_true,decide_eq_true_eq] at hk
 omega
theorem arTo_succ {C:Nat} {Ns L:List Nat} {k0 k s:Nat} {c:Nat×Nat} (h0:k0≤k) (hs:L[k]?=some s):arTo C Ns L k0 c (k+1)=if inS C Ns s c=true then arTo C Ns L k0 c k ++ [k] else arTo C Ns L k0 c k:=by
 unfold arTo
 rw [List.range_succ,filter_snoc,decide_eq_true h0,List.getD_eq_getElem?_getD,hs]
 rfl
theorem arTo_len (C:Nat) (Ns L:List Nat) (k0:Nat) (c:Nat×Nat) (n:Nat):(arTo C Ns L k0 c n).length≤n:=Nat.le_trans (List.length_filter_le _ _) (by rw [List.length_range];exact Nat.le_refl _)
theorem arTo_end {C:Nat} {Ns L:List Nat} {k0 k:Nat} {c:Nat×Nat} (h:L.length≤k) (hk:k=k0∨k=L.length):arTo C Ns L k0 c k=arK C Ns L k0 c:=by
 rcases hk with rfl | rfl
 ·rw [arTo_zero]
  refine (List.eq_nil_iff_forall_not_mem.2 fun x hx=>?_).symm
  have:=mem_arK.1 hx
  omega
 ·rfl
theorem around_any (gs base:Nat) (vL:Value) (q C:Nat) (Ns L:List Nat) (nd:Int) (i j k0:Nat) (w:World) (hS:IsSr w gs base vL q C Ns L nd) (hL:L.length≤4096) :
  Calls Tryz.prog 130 #[ptr gs,.int .i64 i,.int .i64 j,.int .i64 k0] w fun e w'=>∃ v,e=.returned v∧OwnX w' w.heap.size v (arK C Ns L k0 (i,j))∧Below w.heap.size w w':=by
 obtain ⟨i0,hi0,hz0,hz1,hz2⟩:=info_parts info_int
 obtain ⟨hB,hK⟩:=hS
 obtain ⟨AL,cL,rfl⟩:=hK.val
 have HK:=Lib.hid hK
 have HSU:=Lib.hid (fun k s (h0:k0≤k) (hs:L[k]?=some s)=>arTo_succ (C:=C) (Ns:=Ns) (c:=(i,j)) h0 hs)
 have HEN:=Lib.hid (fun k (h:L.length≤k) (hk:k=k0∨k=L.length)=>arTo_end (C:=C) (Ns:=Ns) (c:=(i,j)) h hk)
 have HLN:=Lib.hid (fun k=>arTo_len C Ns L k0 (i,j) k)
 have HZ:=Lib.hid (arTo_zero C Ns L k0 (i,j))
 clear hK
 go_enter Tryz.func130,Tryz.ntmps130
 go_wp2_with fail
 refine wp_loopF (β:=Nat×Value) (fun x f=>#[ptr gs,.int .i64 (i:Int),.int .i64 (j:Int),.int .i64 (k0:Int),f 4,f 5,f 6,f 7,.slice none 0 0,x.2,.int .i64 (x.1:Int),f 11,f 12,f 13,f 14,f 15,f 16,f 17,f 18,f 19,f 20,f 21,f 22,f 23,f 24,f 25,f 26,f 27,f 28,f 29,f 30,f 31,f 32,f 33,f 34,f 35,f 36,f 37,f 38,f 39,f 40,f 41,f 42,f 43,f 44,f 45,f 46,f 47])
  (fun x ds W=>ds=[]∧k0≤x.1∧(x.1=k0∨x.1≤L.length)∧Below w.heap.size w W∧OwnX W w.heap.size x.2 (arTo C Ns L k0 (i,j) x.1)) (fun x=>L.length-x.1) (k0,.slice none 0 0) rfl
  ⟨rfl,Nat.le_refl _,.inl rfl,Below.refl _ _,by rw [HZ.out];exact OwnX.nil _ _⟩ ?_
 rintro ⟨k,v9⟩ f ds W ⟨rfl,hk0',hkL,hb,hown⟩
 dsimp only at hk0' hkL hown ⊢
 have hBW:=hB.below hb hB.lt
 have cB:=hBW.cell 1
 by_cases hlt:k < L.length
 ·obtain ⟨s,hs⟩:∃ s,L[k]?=some s:=⟨_,List.getElem?_eq_getElem hlt⟩
  obtain ⟨gr,off,A1,c1,A2,c2,rfl,hgr,d0,d1,s1,s2⟩:=((HK.out.below hb).isK (by omega)).at hs
  have hsu:=HSU.out k s hk0' hs
  have hin:inS C Ns s (i,j)=(s.testBit j&&(havN C Ns s).testBit i):=rfl
  obtain ⟨X,hX⟩:∃ X,X=havN C Ns s:=⟨_,rfl⟩
  rw [← hX] at d0 s1 hin
  have h1:=has_any _ X (i:Int) W s1
  have h2:=fun W' (hb':Below W.heap.size W W')=>has_any _ s (j:Int) W' (s2.below hb')
  have hx1:hasB X (i:Int)=X.testBit i:=by unfold hasB;simp
  have hx2:hasB s (j:Int)=s.testBit j:=by unfold hasB;simp
  rw [hx1] at h1
  rw [hx2] at h2
  have hlen:=HLN.out k
  obtain ⟨M,hM⟩:∃ M,M=arTo C Ns L k0 (i,j) k:=⟨_,rfl⟩
  rw [← hM] at hown hsu hlen
  obtain ⟨B,hBe⟩:∃ B,B=inS C Ns s (i,j):=⟨_,rfl⟩
  rw [← hBe] at hsu hin
  obtain ⟨b1,hb1e⟩:∃ b,b=X.testBit i:=⟨_,rfl⟩
  obtain ⟨b2,hb2e⟩:∃ b,b=s.testBit j:=⟨_,rfl⟩
  rw [← hb1e] at h1 hin
  rw [← hb2e] at h2 hin
  have hM4:M.length≤4096:=by omega
  have HH1:=hideC h1;have HH2:=Lib.hid h2;have HSUC:=Lib.hid hsu;have HIN:=Lib.hid hin
  clear hM hBe hb1e hb2e hx1 hx2 h1 h2 hsu hX hin hs s1 s2 hlen
  obtain ⟨A9,c9,rfl⟩:=hown.val
  cases b1 with
  | false =>
   have hB2:B=false:=by rw [HIN.out];simp
   subst hB2
   have HF:=Lib.hid (HSUC.out.trans (if_neg (by simp)))
   clear HSUC HIN
   go_wp2_with fail
   refine HH1.out.mono ?_
   rintro e W1 ⟨rfl,hb1⟩
   go_wp2_with fail
   exact ⟨(k+1,.slice A9 M.length c9),rfl,⟨by first | rfl | trivial,by show k0≤k+1;omega,.inr (by show k+1≤L.length;omega),hb.trans (hb1.mono hb.size),by dsimp only;rw [HF.out];exact hown.below hb1⟩,by show L.length-(k+1) < L.length-k;omega⟩
  | true =>
   go_wp2_with fail
   refine HH1.out.mono ?_
   rintro e W1 ⟨rfl,hb1⟩
   have cB1:=(hBW.below hb1 hBW.lt).cell 1
   have e1:=onB hb1 d1
   have HH3:=hideC (HH2.out W1 hb1)
   clear HH1 HH2 d0 d1 cB
   cases b2 with
   | false =>
    have hB2:B=false:=by rw [HIN.out];simp
    subst hB2
    have HF:=Lib.hid (HSUC.out.trans (if_neg (by simp)))
    clear HSUC HIN
    go_wp2_with fail
    refine HH3.out.mono ?_
    rintro e W2 ⟨rfl,hb2⟩
    have hb12:=hb1.trans (hb2.mono hb1.size)
    go_wp2_with fail
    exact ⟨(k+1,.slice A9 M.length c9),rfl,⟨by first | rfl | trivial,by show k0≤k+1;omega,.inr (by show k+1≤L.length;omega),hb.trans (hb12.mono hb.size),by dsimp only;rw [HF.out];exact hown.below hb12⟩,by show L.length-(k+1) < L.length-k;omega⟩
   | true =>
    have hB2:B=true:=by rw [HIN.out];simp
    subst hB2
    have HF:=Lib.hid (HSUC.out.trans (if_pos rfl))
    clear HSUC HIN
    go_wp2_with fail
    refine HH3.out.mono ?_
    rintro e W2 ⟨rfl,hb2⟩
    have hb12:=hb1.trans (hb2.mono hb1.size)
    have k2:=hb.trans (hb12.mono hb.size)
    have own2:=hown.below hb12
    have hba:Below W2.heap.size W2 (W2.alloc (.cells #[.int .i64 (k:Int)] 3)):=(Below.refl _ _).alloc (Nat.le_refl _) _
    have hlocs:=own_below own2 hba
    have k3:=k2.trans (hba.mono k2.size)
    have hsz:=k2.size
    clear hba own2 hown cB1 e1 HH3
    go_wp2_with (at_builtin;refine wpList_append_own _ rfl _ _ 78 rfl (w.heap.size) 3 i0 (.int .i64 0) 1 8 Tryz.underlying78 hi0 hz0 hz1 hz2 rfl (by decide) _ _ _ rfl (hlocs) ⟨W2.heap.size,0,none⟩ 1 1 [.int .i64 (k:Int)] rfl rfl (cell_one_new _ _ _) (by simp [Value.oneCell']) (by unfold maxLen;omega) (by omega) (by simp;omega) ?_;intro v' w3 hown' hgrow _)
    have k4:=k3.grown hgrow k3.size (fun q hq=>(hlocs.lt q hq).1)
    exact ⟨(k+1,v'),rfl,⟨by first | rfl | trivial,by show k0≤k+1;omega,.inr (by show k+1≤L.length;omega),k4,by dsimp only;rw [HF.out];exact OwnX.snoc hown' rfl rfl⟩,by show L.length-(k+1) < L.length-k;omega⟩
 ·have he:=HEN.out k (by omega) (by omega)
  rw [he] at hown
  obtain ⟨A9,c9,rfl⟩:=hown.val
  clear he
  go_wp2_with fail
  go_ret
  exact ⟨_,rfl,hown,hb⟩
end Go.Proofs.YtafpmkdlciioaaaGreatDoor
namespace Go.Proofs.YtafpmkdlciioaaaGreatDoor
open Go.RowKit
attribute [local go_sem] Oper.semAt_some
theorem run_store_funcD {P:Program} {w:World} {a:Addr} {m:Mode} (fn:Fn) (first cap:Array Value):(store a (.func fn first cap) m).run P w=stored P w a (.func fn first cap) m:=run_store P w a _ m rfl
attribute [local go_sem] run_store_funcD
theorem pickK_app (ar:Nat×Nat→List Nat):∀ (a b:List (Nat×Nat)) (o:Option (Nat×Nat)),pickK ar (a ++ b) o=pickK ar b (pickK ar a o)
 | [],_,_=>rfl
 | c :: a,b,none=>by rw [List.cons_append,pickK,pickK];exact pickK_app ar a b _
 | c :: a,b,some d=>by rw [List.cons_append,pickK,pickK];exact pickK_app ar a b _
abbrev rowO (o:Option (Nat×Nat)):Nat:=(o.getD (0,0)).1
abbrev colO (o:Option (Nat×Nat)):Nat:=(o.getD (0,0)).2
def arO (ar:Nat×Nat→List Nat):Option (Nat×Nat)→List Nat
 | none=>[]
 | some c=>ar c
theorem pick_step (ar:Nat×Nat→List Nat) (o:Option (Nat×Nat)) (c:Nat×Nat):pickK ar [c] o=if (o.isNone||decide ((ar c).length < (arO ar o).length))=true then some c else o:=by
 cases o with
 | none=>rfl
 | some b =>
  show (if (ar c).length < (ar b).length then some c else some b)=_
  by_cases h:(ar c).length < (ar b).length
  ·rw [if_pos h,if_pos (by show decide _=true;exact decide_eq_true h)]
  ·rw [if_neg h,if_neg (by show ¬ decide ((ar c).length < (ar b).length)=true;simpa using h)]
def CellS (W:World) (base gx gs k0:Nat) (ar:Nat×Nat→List Nat) (o:Option (Nat×Nat)) (A:Option Addr) (c:Nat):Prop :=
 Blk W gx 83 #[ptr gs]∧Blk W (gx+1) 3 #[.int .i64 (k0:Int)]∧Blk W (gx+2) 3 #[.int .i64 (rowO o:Int)]∧Blk W (gx+3) 3 #[.int .i64 (colO o:Int)] ∧
  Blk W (gx+4) 78 #[.slice A (arO ar o).length c]∧Blk W (gx+5) 4 #[.bool o.isSome]∧OwnX W base (.slice A (arO ar o).length c) (arO ar o)
theorem CellS.below {W W':World} {base gx gs k0:Nat} {ar:Nat×Nat→List Nat} {o:Option (Nat×Nat)} {A:Option Addr} {c:Nat} (h:CellS W base gx gs k0 ar o A c) (hb:Below W.heap.size W W'):CellS W' base gx gs k0 ar o A c:=by
 obtain ⟨h1,h2,h3,h4,h5,h6,h7⟩:=h
 exact ⟨h1.below hb h1.lt,h2.below hb h2.lt,h3.below hb h3.lt,h4.below hb h4.lt,h5.below hb h5.lt,h6.below hb h6.lt,h7.below hb⟩
theorem CellS.kc {W W':World} {base gx gs k0:Nat} {ar:Nat×Nat→List Nat} {o:Option (Nat×Nat)} {A:Option Addr} {c:Nat} (h:CellS W base gx gs k0 ar o A c) (hk:KeepC W W'):CellS W' base gx gs k0 ar o A c:=by
 obtain ⟨h1,h2,h3,h4,h5,h6,h7⟩:=h
 exact ⟨h1.kc hk,h2.kc hk,h3.kc hk,h4.kc hk,h5.kc hk,h6.kc hk,own_kc h7 hk⟩
theorem CellS.put {W:World} {gx gs k0 n:Nat} {ar:Nat×Nat→List Nat} {o:Option (Nat×Nat)} {A A':Option Addr} {c c':Nat} (h:CellS W (gx+6) gx gs k0 ar o A c) (x:Nat×Nat) (hX:OwnX W (gx+6) (.slice A' n c') (ar x)) (hn:n=(ar x).length) :
  CellS ((((W.setCell ⟨gx+2,0,none⟩ (.int .i64 (x.1:Int))).setCell ⟨gx+3,0,none⟩ (.int .i64 (x.2:Int))).setCell ⟨gx+4,0,none⟩ (.slice A' n c')).setCell ⟨gx+5,0,none⟩ (.bool true)) (gx+6) gx gs k0 ar (some x) A' c' ∧
   KeepW W ((((W.setCell ⟨gx+2,0,none⟩ (.int .i64 (x.1:Int))).setCell ⟨gx+3,0,none⟩ (.int .i64 (x.2:Int))).setCell ⟨gx+4,0,none⟩ (.slice A' n c')).setCell ⟨gx+5,0,none⟩ (.bool true)):=by
 subst hn
 obtain ⟨h1,h2,h3,h4,h5,h6,h7⟩:=h
 have far:∀ (V:World) (g i:Nat) (u:Value) (t:TypeId) (cs:Array Value),Blk V g t cs→g≠i→Blk (V.setCell ⟨i,0,none⟩ u) g t cs:=fun V g i u t cs hB hne=>hB.far (p:=⟨i,0,none⟩) (by simpa using hne) u
 have hX1:=ownsRow_setCell_other hX (a:=⟨gx+2,0,none⟩) (fun e=>absurd (show gx+6≤gx+2 from (hX.lt _ e).1) (by omega)) (.int .i64 (x.1:Int))
 have hX2:=ownsRow_setCell_other hX1 (a:=⟨gx+3,0,none⟩) (fun e=>absurd (show gx+6≤gx+3 from (hX.lt _ e).1) (by omega)) (.int .i64 (x.2:Int))
 have hX3:=ownsRow_setCell_other hX2 (a:=⟨gx+4,0,none⟩) (fun e=>absurd (show gx+6≤gx+4 from (hX.lt _ e).1) (by omega)) (.slice A' (ar x).length c')
 have hX4:=ownsRow_setCell_other hX3 (a:=⟨gx+5,0,none⟩) (fun e=>absurd (show gx+6≤gx+5 from (hX.lt _ e).1) (by omega)) (.bool true)
 have a3:=h3.set_ 0 (.int .i64 (x.1:Int))
 have a4:=far _ _ (gx+2) (.int .i64 (x.1:Int)) _ _ h4 (by omega)
 have a5:=far _ _ (gx+2) (.int .i64 (x.1:Int)) _ _ h5 (by omega)
 have a6:=far _ _ (gx+2) (.int .i64 (x.1:Int)) _ _ h6 (by omega)
 have b3:=far _ _ (gx+3) (.int .i64 (x.2:Int)) _ _ a3 (by omega)
 have b4:=a4.set_ 0 (.int .i64 (x.2:Int))
 have b5:=far _ _ (gx+3) (.int .i64 (x.2:Int)) _ _ a5 (by omega)
 have b6:=far _ _ (gx+3) (.int .i64 (x.2:Int)) _ _ a6 (by omega)
 have c3:=far _ _ (gx+4) (.slice A' (ar x).length c') _ _ b3 (by omega)
 have c4:=far _ _ (gx+4) (.slice A' (ar x).length c') _ _ b4 (by omega)
 have c5:=b5.set_ 0 (.slice A' (ar x).length c')
 have c6:=far _ _ (gx+4) (.slice A' (ar x).length c') _ _ b6 (by omega)
 refine ⟨⟨far _ _ _ _ _ _ (far _ _ _ _ _ _ (far _ _ _ _ _ _ (far _ _ _ _ _ _ h1 (by omega)) (by omega)) (by omega)) (by omega),far _ _ _ _ _ _ (far _ _ _ _ _ _ (far _ _ _ _ _ _ (far _ _ _ _ _ _ h2 (by omega)) (by omega)) (by omega)) (by omega),
  far _ _ _ _ _ _ c3 (by omega),far _ _ _ _ _ _ c4 (by omega),far _ _ _ _ _ _ c5 (by omega),c6.set_ 0 (.bool true),hX4⟩,?_⟩
 exact (KeepW.setCell (p:=⟨gx+2,0,none⟩) h3 (by decide) _).trans ((KeepW.setCell (p:=⟨gx+3,0,none⟩) a4 (by decide) _).trans ((KeepW.setCell (p:=⟨gx+4,0,none⟩) b5 (by decide) _).trans (KeepW.setCell (p:=⟨gx+5,0,none⟩) c6 (by decide) _)))
theorem cell4_below {B:Nat} {w W:World} {gx:Nat} (h:Below B w W) (hB:B≤gx) (u1 u2 u3 u4:Value):Below B w ((((W.setCell ⟨gx+2,0,none⟩ u1).setCell ⟨gx+3,0,none⟩ u2).setCell ⟨gx+4,0,none⟩ u3).setCell ⟨gx+5,0,none⟩ u4) :=
 (((h.setCell (p:=⟨gx+2,0,none⟩) (show B≤gx+2 by omega) u1).setCell (p:=⟨gx+3,0,none⟩) (show B≤gx+3 by omega) u2).setCell (p:=⟨gx+4,0,none⟩) (show B≤gx+4 by omega) u3).setCell (p:=⟨gx+5,0,none⟩) (show B≤gx+5 by omega) u4
theorem cell4_others (W:World) (gx:Nat) (u1 u2 u3 u4:Value):KeepsOthers W ((((W.setCell ⟨gx+2,0,none⟩ u1).setCell ⟨gx+3,0,none⟩ u2).setCell ⟨gx+4,0,none⟩ u3).setCell ⟨gx+5,0,none⟩ u4) :=
 (((KeepsOthers.setCell _ _ _).trans (KeepsOthers.setCell _ _ _)).trans (KeepsOthers.setCell _ _ _)).trans (KeepsOthers.setCell _ _ _)
theorem cell4_far {W:World} {gx g:Nat} {t:TypeId} {cs:Array Value} (hB:Blk W g t cs) (hg:gx+6≤g) (u1 u2 u3 u4:Value):Blk ((((W.setCell ⟨gx+2,0,none⟩ u1).setCell ⟨gx+3,0,none⟩ u2).setCell ⟨gx+4,0,none⟩ u3).setCell ⟨gx+5,0,none⟩ u4) g t cs :=
 (((hB.far (p:=⟨gx+2,0,none⟩) (show g≠gx+2 by omega) u1).far (p:=⟨gx+3,0,none⟩) (show g≠gx+3 by omega) u2).far (p:=⟨gx+4,0,none⟩) (show g≠gx+4 by omega) u3).far (p:=⟨gx+5,0,none⟩) (show g≠gx+5 by omega) u4
theorem cell_any (gs base base':Nat) (vL:Value) (q C:Nat) (Ns L Os:List Nat) (nd:Int) (v:Value) (k0:Nat) (w:World) (hS:IsSr w gs base vL q C Ns L nd) (hO:OwnO w base' v Os) (hL:L.length≤4096) (hl:Os.length≤4096) (hT:Tab w) :
  Calls Tryz.prog 78 #[ptr gs,v,.int .i64 k0] w fun e w'=>∃ A c,e=.returned (.tuple #[.int .i64 (rowO (pickK (arK C Ns L k0) (cellsOf Os) none):Int),.int .i64 (colO (pickK (arK C Ns L k0) (cellsOf Os) none):Int),.slice A (arO (arK C Ns L k0) (pickK (arK C Ns L k0) (cellsOf Os) none)).length c]) ∧
   OwnX w' w.heap.size (.slice A (arO (arK C Ns L k0) (pickK (arK C Ns L k0) (cellsOf Os) none)).length c) (arO (arK C Ns L k0) (pickK (arK C Ns L k0) (cellsOf Os) none))∧Below w.heap.size w w':=by
 obtain ⟨A,c,rfl⟩:=hO.val
 have HAR:=Lib.hid (fun W k x (hb:Below w.heap.size w W)=>around_any gs base vL q C Ns L nd k x k0 W (hS.below hb) hL)
 obtain ⟨ar,har⟩:∃ ar,ar=arK C Ns L k0:=⟨_,rfl⟩
 rw [← har] at HAR ⊢
 obtain ⟨oE,hoE⟩:∃ o,o=pickK ar (cellsOf Os) none:=⟨_,rfl⟩
 rw [← hoE]
 have HOE:=Lib.hid hoE;have HO:=Lib.hid hO
 clear har hoE hS hO
 refine (callsIn_wide (n:=9)).1 (callsIn_of_wp_marks Tryz.func78 rfl trivial (wpIn_wide.2 ?_) rfl)
 simp only [Tryz.ntmps78,List.size_toArray,List.length_cons,List.length_nil,Nat.reduceAdd,Nat.reduceSub,Array.replicate_succ,Array.replicate_zero,List.push_toArray,List.append_toArray,List.nil_append,List.cons_append]
 go_upto_region 1 with fail
 refine abs2 fun W1 h3 h5 hb1 hz1=>?_
 obtain ⟨gx,hgx⟩:∃ x,x=w.heap.size:=⟨_,rfl⟩
 have hgw:w.heap.size≤gx:=by omega
 rw [← hgx] at h3 h5 hz1 ⊢
 clear hgx
 go_upto_region 2 with fail
 refine abs4 fun W2 h9 h10 h11 h12 hb2 hz2=>?_
 have h32:=h3.below hb2 h3.lt
 have h52:=h5.below hb2 h5.lt
 have b2:=hb1.trans (hb2.mono hb1.size)
 rw [hz1] at h9 h10 h11 h12
 have hc2:CellS W2 (gx+6) gx gs k0 ar none none 0:=⟨h32,h52,h9,h10,h11,h12,OwnX.nil _ _⟩
 have hsz2:gx+6≤W2.heap.size:=by omega
 clear hz1 hz2 hb1 hb2 h3 h5 h9 h10 h11 h12 h32 h52
 go_wp2_with fail
 refine wp_loopF (β:=Nat×Option (Nat×Nat)×Option Addr×Nat) (fun x f=>#[ptr gs,.slice A Os.length c,.int .i64 (k0:Int),ptr gx,f 4,ptr (gx+1),.int .i64 0,.int .i64 0,.slice none 0 0,ptr (gx+2),ptr (gx+3),ptr (gx+4),ptr (gx+5),f 13,f 14,f 15,f 16,.slice A Os.length c,.int .i64 (Os.length:Int),.int .i64 (x.1:Int),f 20,f 21,f 22,f 23,f 24,f 25,f 26,f 27,f 28,f 29,f 30,f 31,f 32,f 33,f 34,f 35,f 36,f 37,f 38,f 39,f 40,f 41,f 42,f 43,f 44,f 45,f 46,f 47])
  (fun x ds W=>x.1≤Os.length∧Marks w.heap.size W ds∧Below w.heap.size w W∧gx+6≤W.heap.size∧CellS W (gx+6) gx gs k0 ar x.2.1 x.2.2.1 x.2.2.2∧x.2.1=pickK ar (onesC Os x.1) none) (fun x=>Os.length-x.1) (0,none,none,0) rfl
  ⟨Nat.zero_le _,trivial,b2,hsz2,hc2,rfl⟩ ?_
 rintro ⟨k,o,A9,c9⟩ f ds W ⟨hk,hM,hb,hsz,hc,ho⟩
 dsimp only at hk hc ho ⊢
 by_cases hlt:k < Os.length
 ·obtain ⟨gO,A1,c1,rfl,-,-,-,d0,s1⟩:=(HO.out.below hb).at hlt
  have hsu:=onesC_succ Os k
  obtain ⟨N,hN⟩:∃ N,N=Os.getD k 0:=⟨_,rfl⟩
  rw [← hN] at d0 s1 hsu
  have HSU:=Lib.hid hsu
  clear hN hsu
  go_upto_region 5 with fail
  refine abs2 fun W3 h13 h14 hb3 hz3=>?_
  clear hz3
  have k3:=hb.trans (hb3.mono hb.size)
  have hc3:=hc.below hb3
  have s13:=s1.below hb3
  have hM3:=hM.kd (KeepD.of_below hb3)
  have hsz3:gx+6≤W3.heap.size:=Nat.le_trans hsz hb3.size
  obtain ⟨g13,hg13⟩:∃ x,x=W.heap.size:=⟨_,rfl⟩
  have hg13x:gx+6≤g13:=by omega
  rw [← hg13] at h13 h14 ⊢
  have c14:=h14.cell 0
  clear hg13 hb3 d0 s1 hM hc hb
  go_wp2_with fail
  refine (all_any A1 (nw N) c1 W3).mono ?_
  rintro e w5 ⟨rfl,hw5⟩
  have hY:=hw5▸Blk.new W3 58 #[.slice A1 (nw N) c1]
  have hb5:Below W3.heap.size W3 w5:=by rw [hw5];exact (Below.refl _ _).alloc (Nat.le_refl _) _
  clear hw5
  have k5:=k3.trans (hb5.mono k3.size)
  have hc5:=hc3.below hb5
  have h135:=h13.below hb5 h13.lt
  have s15:=s13.below hb5
  have hM5:=hM3.kd (KeepD.of_below hb5)
  have hT5:=hT.below k5
  have hsz5:gx+6≤w5.heap.size:=Nat.le_trans hsz3 hb5.size
  obtain ⟨gy,hgy⟩:∃ g,g=W3.heap.size:=⟨_,rfl⟩
  rw [← hgy] at hY ⊢
  clear hgy hb5 k3 hc3 h13 h14 s13 hM3 c14
  go_wp2_with fail
  refine wp_rangeAll (v:=.slice A1 (nw N) c1) (N:=N) (Bx:=gy) rfl (hY.cell 0) s15 hT5 rfl
   (fun pre W=>(∃ o A c,CellS W (gx+6) gx gs k0 ar o A c∧o=pickK ar (onesC Os k ++ pre.map fun j=>(k,j)) none)∧Blk W g13 3 #[.int .i64 (k:Int)]∧Below w.heap.size w W∧KeepD w5 W∧gx+6≤W.heap.size) (fun _ _ _=>False)
   ?hI (fun _ _ _ _ _ hs _ _=>hs) ?h0 ?a1 ?assign ?body ?done (fun _ _ _ _ _ h _=>h.elim)
  case assign =>
   intro l x W K hKa
   gi_wp2
   exact hKa
  case hI =>
   rintro s W W' row ⟨⟨o,A,c,h1,h1'⟩,h2,h3,h4,h5⟩ hg hrw
   have hkc:=KeepC.of_grown hg hrw
   exact ⟨⟨o,A,c,h1.kc hkc,h1'⟩,h2.kc hkc,h3.grown hg h3.size fun k' e=>Nat.le_trans k5.size (hrw k' e).1,h4.grown hg hrw,Nat.le_trans h5 hg.size⟩
  case h0=>exact ⟨⟨o,A9,c9,hc5,by simpa using ho⟩,h135,k5,KeepD.refl _,hsz5⟩
  case body =>
   rintro ll pre x W hx ⟨⟨o,A,c,hc,ho⟩,h13,h4,h5,h6⟩ hlen hkp
   have hst:pickK ar (onesC Os k ++ (pre ++ [x]).map fun j=>(k,j)) none=pickK ar [(k,x)] o:=by
    rw [List.map_append,← List.append_assoc,pickK_app,← ho];rfl
   rw [pick_step] at hst
   have HA:=hideC (HAR.out W k x h4)
   have e1:=hc.1.cell 0
   have e2:=hc.2.1.cell 0
   have e13:=h13.cell 0
   clear ho
   cases o with
   | none =>
    have HST:=Lib.hid (hst.trans (if_pos rfl))
    clear hst
    gi_wp2_with (refine ⟨trivial,?_⟩;gi_at_call 130;refine (CallsIn.inRound ll (callsIn_wide.2 HA.out)).mono ?_;rintro e w6 ⟨v6,rfl,hX,hb6⟩;obtain ⟨A6,c6,rfl⟩:=hX.val;have hc6:=hc.below hb6;have h136:=(h13.below hb6 h13.lt).cell 0;have y2:=hc6.2.2.1.cell 0;have y3:=hc6.2.2.2.1.cell 0;have y4:=hc6.2.2.2.2.1.cell 0;have y5:=hc6.2.2.2.2.2.1.cell 0;have z2:=hc6.2.2.1.frozen 0;have z3:=hc6.2.2.2.1.frozen 0;have z4:=hc6.2.2.2.2.1.frozen 0;have z5:=hc6.2.2.2.2.2.1.frozen 0)
    have hp:=hc6.put (k,x) (hX.low h6) rfl
    have hb8:=cell4_below (hb6.mono h4.size) hgw (.int .i64 (k:Int)) (.int .i64 (x:Int)) (.slice A6 (ar (k,x)).length c6) (.bool true)
    have h138:=cell4_far (h13.below hb6 h13.lt) hg13x (.int .i64 (k:Int)) (.int .i64 (x:Int)) (.slice A6 (ar (k,x)).length c6) (.bool true)
    have hot:=(KeepsOthers.of_below hb6).trans (cell4_others w6 gx (.int .i64 (k:Int)) (.int .i64 (x:Int)) (.slice A6 (ar (k,x)).length c6) (.bool true))
    exact ⟨hot.from _,KpA.mk_ ((KeepW.of_below hb6).trans hp.2) hb8 hT.pos,⟨some (k,x),A6,c6,hp.1,HST.out.symm⟩,h138,h4.trans hb8,h5.others hot,Nat.le_trans hg13x (Nat.le_of_lt h138.lt)⟩
   | some b =>
    obtain ⟨n1,hn1⟩:∃ n,n=(ar b).length:=⟨_,rfl⟩
    obtain ⟨n2,hn2⟩:∃ n,n=(ar (k,x)).length:=⟨_,rfl⟩
    by_cases hlt2:n2 < n1
    ·have hq:((some b:Option (Nat×Nat)).isNone||decide ((ar (k,x)).length < (arO ar (some b)).length))=true:=by
      show decide ((ar (k,x)).length < (ar b).length)=true
      rw [← hn1,← hn2];exact decide_eq_true hlt2
     have HST:=Lib.hid (hst.trans (if_pos hq))
     have hl3:(ar (k,x)).length < (arO ar (some b)).length:=by show (ar (k,x)).length < (ar b).length;omega
     clear hst hq hn1 hn2 hlt2
     gi_wp2_with (refine ⟨trivial,?_⟩;gi_at_call 130;refine (CallsIn.inRound ll (callsIn_wide.2 HA.out)).mono ?_;rintro e w6 ⟨v6,rfl,hX,hb6⟩;obtain ⟨A6,c6,rfl⟩:=hX.val;have hc6:=hc.below hb6;have h136:=(h13.below hb6 h13.lt).cell 0;have y2:=hc6.2.2.1.cell 0;have y3:=hc6.2.2.2.1.cell 0;have y4:=hc6.2.2.2.2.1.cell 0;have y5:=hc6.2.2.2.2.2.1.cell 0;have z2:=hc6.2.2.1.frozen 0;have z3:=hc6.2.2.2.1.frozen 0;have z4:=hc6.2.2.2.2.1.frozen 0;have z5:=hc6.2.2.2.2.2.1.frozen 0)
     have hp:=hc6.put (k,x) (hX.low h6) rfl
     have hb8:=cell4_below (hb6.mono h4.size) hgw (.int .i64 (k:Int)) (.int .i64 (x:Int)) (.slice A6 (ar (k,x)).length c6) (.bool true)
     have h138:=cell4_far (h13.below hb6 h13.lt) hg13x (.int .i64 (k:Int)) (.int .i64 (x:Int)) (.slice A6 (ar (k,x)).length c6) (.bool true)
     have hot:=(KeepsOthers.of_below hb6).trans (cell4_others w6 gx (.int .i64 (k:Int)) (.int .i64 (x:Int)) (.slice A6 (ar (k,x)).length c6) (.bool true))
     exact ⟨hot.from _,KpA.mk_ ((KeepW.of_below hb6).trans hp.2) hb8 hT.pos,⟨some (k,x),A6,c6,hp.1,HST.out.symm⟩,h138,h4.trans hb8,h5.others hot,Nat.le_trans hg13x (Nat.le_of_lt h138.lt)⟩
    ·have hq:¬ ((some b:Option (Nat×Nat)).isNone||decide ((ar (k,x)).length < (arO ar (some b)).length))=true:=by
      show ¬ decide ((ar (k,x)).length < (ar b).length)=true
      rw [← hn1,← hn2];simpa using hlt2
     have HST:=Lib.hid (hst.trans (if_neg hq))
     have hl3:¬ (ar (k,x)).length < (arO ar (some b)).length:=by show ¬ (ar (k,x)).length < (ar b).length;omega
     clear hst hq hn1 hn2 hlt2
     gi_wp2_with (refine ⟨trivial,?_⟩;gi_at_call 130;refine (CallsIn.inRound ll (callsIn_wide.2 HA.out)).mono ?_;rintro e w6 ⟨v6,rfl,hX,hb6⟩;obtain ⟨A6,c6,rfl⟩:=hX.val;have hc6:=hc.below hb6;have h136:=(h13.below hb6 h13.lt).cell 0;have y2:=hc6.2.2.1.cell 0;have y3:=hc6.2.2.2.1.cell 0;have y4:=hc6.2.2.2.2.1.cell 0;have y5:=hc6.2.2.2.2.2.1.cell 0;have z2:=hc6.2.2.1.frozen 0;have z3:=hc6.2.2.2.1.frozen 0;have z4:=hc6.2.2.2.2.1.frozen 0;have z5:=hc6.2.2.2.2.2.1.frozen 0)
     exact ⟨(KeepsOthers.of_below hb6).from _,KpA.of_below hb6,⟨some b,A,c,hc6,HST.out.symm⟩,h13.below hb6 h13.lt,h4.trans (hb6.mono h4.size),h5.others (KeepsOthers.of_below hb6),Nat.le_trans h6 hb6.size⟩
  case done =>
   rintro D W hD ⟨⟨o,A,c,h1,ho⟩,h2,h3,h4,h5⟩ hKd
   have hM6:=hM5.cons h4 (by have:=k5.size;omega) hD hKd
   rw [← HSU.out] at ho
   go_wp2_with fail
   exact ⟨(k+1,o,A,c),rfl,⟨by show k+1≤Os.length;omega,hM6,h3,h5,h1,ho⟩,by show Os.length-(k+1) < Os.length-k;omega⟩
 ·obtain rfl:k=Os.length:=by omega
  rw [onesC_all,← HOE.out] at ho
  subst ho
  have y2:=hc.2.2.1.cell 0
  have y3:=hc.2.2.2.1.cell 0
  have y4:=hc.2.2.2.2.1.cell 0
  go_wp2_with fail
  refine wp_spine (fun V=>Below W.heap.size W V) [0,1,2,3,4,5] [] (by kernel_rfl) (by kernel_rfl) ?_
  iterate 6 (refine wpE_op (v:=?_) rfl rfl (fun W hW=>?_) ?_;rotate_left;(have x2:=onB hW y2;have x3:=onB hW y3;have x4:=onB hW y4;go_simp;first | done | with_reducible rfl);simp only [pt1,pt3,pt4,pt5])
  refine wpE_nil ⟨fun _=>(Below.refl _ _).drew,wpSp_nil ?_⟩
  have hd:Below W.heap.size W W.drew:=(Below.refl _ _).drew
  go_wp2_with fail
  refine leave_marks (n₀:=w.heap.size) _ _ (hM.kd (KeepD.of_below hd)) fun W' hW'=>?_
  refine ⟨.tuple #[.int .i64 (rowO o:Int),.int .i64 (colO o:Int),.slice A9 (arO ar o).length c9],by simp [results,Tryz.results78],A9,c9,rfl,?_,(hb.trans (hd.mono hb.size)).trans hW'.1⟩
  have hX:=hc.2.2.2.2.2.2.below hd
  have hX2:OwnX W' (gx+6) (.slice A9 (arO ar o).length c9) (arO ar o):=own_kc hX ⟨hW'.1.size,hW'.2⟩
  exact hX2.low (by omega)
end Go.Proofs.YtafpmkdlciioaaaGreatDoor
