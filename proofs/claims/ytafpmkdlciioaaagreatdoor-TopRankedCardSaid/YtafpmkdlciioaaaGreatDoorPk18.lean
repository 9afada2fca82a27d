import Derived.Test.YtafpmkdlciioaaaGreatDoorPk04
import Derived.Deep.DeepCutAuto
import Derived.Deep.CutBlock
import Derived.Test.YtafpmkdlciioaaaGreatDoorPk05
import Derived.Test.YtafpmkdlciioaaaGreatDoorPk09
import Derived.Test.YtafpmkdlciioaaaGreatDoorShelf
set_option maxHeartbeats 40000000
set_option maxRecDepth 100000
namespace Go.Proofs.YtafpmkdlciioaaaGreatDoor
open Go.RowKit
attribute [local go_sem] Oper.semAt_some
def IsH (w:World) (lk:Nat):Prop :=
 ∃ (o pb gb:Nat) (ab sr:Value),Blk w lk 131 #[ptr o]∧Blk w o 183 #[.int .i64 64,.slice (some ⟨pb,0,none⟩) 0 0,ab,.slice (some ⟨gb,0,none⟩) 64 64,sr]∧Blk w gb 58 (zeros (.slice none 0 0) 64)
theorem IsH.below {w w':World} {lk:Nat} (h:IsH w lk) (hb:Below w.heap.size w w'):IsH w' lk:=by
 obtain ⟨o,pb,gb,ab,sr,h1,h2,h3⟩:=h
 exact ⟨o,pb,gb,ab,sr,h1.below hb h1.lt,h2.below hb h2.lt,h3.below hb h3.lt⟩
theorem role_any (x:Int) (w:World) (h:1≤x∧x≤63) :
  Calls Tryz.prog 202 #[.int .i64 x] w fun e w'=>e=.returned (.bool true)∧w'=w:=by
 obtain ⟨h1,h2⟩:=h
 have e1:decide (1≤x)=true:=by simp [h1]
 have e2:decide (x≤63)=true:=by simp [h2]
 clear h1 h2
 go_enter Tryz.func202,Tryz.ntmps202
 go_wp2_with fail
 go_ret
 exact ⟨by simp,rfl⟩
theorem in_ord (o x:Nat) (b c d e':Value) (w:World) (h:Blk w o 183 #[.int .i64 64,b,c,d,e']) (hx:x < 64) :
  Calls Tryz.prog 211 #[ptr o,.int .i64 (x:Int)] w fun e w'=>e=.returned (.bool true)∧w'=w:=by
 have q0:=h.cell 0
 have e1:decide (0≤(x:Int))=true:=by simp
 have e2:decide ((x:Int) < 64)=true:=by simp;omega
 clear h hx
 go_enter Tryz.func211,Tryz.ntmps211
 go_wp2_with fail
 go_ret
 exact ⟨by simp,rfl⟩
theorem below_ord (o x gb:Nat) (b c e':Value) (w:World) (h:Blk w o 183 #[.int .i64 64,b,c,.slice (some ⟨gb,0,none⟩) 64 64,e']) (hg:Blk w gb 58 (zeros (.slice none 0 0) 64)) (hx:x < 64) :
  Calls Tryz.prog 203 #[ptr o,.int .i64 (x:Int)] w fun e w'=>e=.returned (.agg #[.slice none 0 0])∧Below w.heap.size w w':=by
 have HX:=Lib.hid hx
 have HG:=Lib.hid hg
 clear hx hg
 go_enter Tryz.func203,Tryz.ntmps203
 go_wp2_with fail
 refine absC1 fun W h4 hb hz=>?_
 have hk:=h.below hb h.lt
 have HI:=hideC (in_ord o x _ _ _ _ W hk HX.out)
 have hg:=(HG.out.below hb HG.out.lt).cell x
 rw [show (zeros (.slice none 0 0) 64)[x]?=some (.slice none 0 0) by simp [zeros,HX.out]] at hg
 have q3:=hk.cell 3
 have c4:=h4.cell 0
 have f4:=h4.frozen 0
 have hx0:(0:Int)≤(x:Int):=by omega
 have hx1:(x:Int) < 64:=by have:=HX.out;omega
 clear hz h
 go_wp2_with fail
 refine HI.out.mono ?_
 rintro e w1 ⟨rfl,rfl⟩
 go_wp2_with fail
 have k4:=(h4.set_ 0 (.slice none 0 0)).cell 0
 refine bodyPost_ret (v:=.agg #[.slice none 0 0]) (by simp [results,Tryz.results203,go_sem,k4]) rfl ⟨rfl,?_⟩
 exact hb.setCell (by simp) _
theorem juniors_h (lk x:Nat) (w:World) (h:IsH w lk) (h1:1≤x) (h2:x≤63) :
  Calls Tryz.prog 173 #[ptr lk,.int .i64 (x:Int)] w fun e w'=>∃ r,e=.returned (.agg #[r])∧IsSet w' r (2 ^ x)∧Below w.heap.size w w':=by
 obtain ⟨o,pb,gb,ab,sr,a1,a2,a3⟩:=h
 have HX:=Lib.hid (show x < 64 by omega)
 have HXX:=Lib.hid (show 1≤(x:Int)∧(x:Int)≤63 by omega)
 have HY:=Lib.hid (show withB 0 (x:Int)=2 ^ x by unfold withB;rw [if_pos (by omega)];simp)
 clear h1 h2
 go_enter Tryz.func173,Tryz.ntmps173
 go_wp2_with fail
 refine absC1 fun W h4 hb hz=>?_
 refine (role_any (x:Int) W HXX.out).mono ?_
 rintro e w1 ⟨rfl,rfl⟩
 have k1:=a1.below hb a1.lt
 have k2:=a2.below hb a2.lt
 have k3:=a3.below hb a3.lt
 have q0:=k1.cell 0
 have HI:=hideC (below_ord o x gb _ _ _ w1 k2 k3 HX.out)
 clear a1 a2 a3 hz
 go_wp2_with fail
 refine HI.out.mono ?_
 rintro e w2 ⟨rfl,hb2⟩
 have b2:=hb.trans (hb2.mono hb.size)
 have h42:=h4.below hb2 h4.lt
 have HW:=hideC (with_any (.slice none 0 0) 0 (x:Int) w2 (IsSet.empty w2))
 rw [HY.out] at HW
 clear q0 HI h4
 go_wp2_with fail
 refine HW.out.mono ?_
 rintro e w3 ⟨r,rfl,hr,hb3⟩
 have b3:=b2.trans (hb3.mono b2.size)
 have h43:=h42.below hb3 h42.lt
 obtain ⟨A,c,rfl,_⟩:=id hr
 have c4:=h43.cell 0
 have f4:=h43.frozen 0
 go_wp2_with fail
 have k4:=(h43.set_ 0 (.slice A (nw (2 ^ x)) c)).cell 0
 refine bodyPost_ret (v:=.agg #[.slice A (nw (2 ^ x)) c]) (by simp [results,Tryz.results173,go_sem,k4]) rfl ⟨_,rfl,?_,?_⟩
 ·exact hr.keep (KeepW.setCell (p:=⟨w.heap.size,0,none⟩) h43 (by decide) _)
 ·exact b3.setCell (by simp) _
def orTo (l:List Nat):Nat:=l.foldl (fun a x=>a|||2 ^ x) 0
theorem orTo_snoc (l:List Nat) (x:Nat):orTo (l ++ [x])=orTo l|||2 ^ x:=by simp [orTo]
theorem testBit_orTo (l:List Nat) (i:Nat):(orTo l).testBit i=decide (i∈l):=by
 induction hn:l.length generalizing l with
 | zero=>simp [List.length_eq_zero_iff.1 hn,orTo]
 | succ n ih' =>
  obtain ⟨l,x,rfl⟩:∃ l' x,l=l' ++ [x]:=⟨l.dropLast,l.getLast (by intro h;simp [h] at hn),(List.dropLast_concat_getLast _).symm⟩
  have ih:=ih' l (by simpa using hn)
  rw [orTo_snoc,Nat.testBit_or,ih,Nat.testBit_two_pow]
  by_cases h:i∈l <;> by_cases hx:x=i <;> simp [h,hx]
  exact fun e=>hx e.symm
theorem orTo_mems (S:Nat):orTo (mems S)=S:=by
 apply Nat.eq_of_testBit_eq;intro i
 rw [testBit_orTo]
 by_cases h:S.testBit i=true
 ·simp [mem_mems.2 h,h]
 ·simp [mt mem_mems.1 h,h]
theorem closure_h (lk:Nat) (v:Value) (S:Nat) (w:World) (hT:Tab w) (h:IsH w lk) (hs:IsSet w v S) (hS:∀ x,S.testBit x=true→1≤x∧x≤63) :
  Calls Tryz.prog 122 #[ptr lk,.agg #[v]] w fun e w'=>∃ r,e=.returned (.agg #[r])∧IsSet w' r S∧Below w.heap.size w w':=by
 have HS:=Lib.hid hS
 clear hS
 obtain ⟨Av,cv,rfl,_⟩:=id hs
 refine (callsIn_wide (n:=9)).1 (callsIn_of_wp_marks Tryz.func122 rfl trivial (wpIn_wide.2 ?_) rfl)
 simp only [Tryz.ntmps122,List.size_toArray,List.length_cons,List.length_nil,Nat.reduceAdd,Nat.reduceSub,Array.replicate_succ,Array.replicate_zero,List.push_toArray,List.append_toArray,List.nil_append,List.cons_append]
 go_wp2_with fail
 refine absC4 fun W0 hH0 hS0 hO0 hX0 hb0 hz0=>?_
 refine (all_any Av (nw S) cv W0).mono ?_
 rintro e w4 ⟨rfl,hw4⟩
 have hY:=hw4▸Blk.new W0 58 #[.slice Av (nw S) cv]
 have hb4:Below W0.heap.size W0 w4:=by rw [hw4];exact (Below.refl _ _).alloc (Nat.le_refl _) _
 have b4:=hb0.trans (hb4.mono hb0.size)
 have hH4:=hH0.below hb4 hH0.lt
 have hS4:=hS0.below hb4 hS0.lt
 have hO4:=hO0.below hb4 hO0.lt
 have hX4:=hX0.below hb4 hX0.lt
 have hs4:=hs.below b4
 have hT4:=hT.below b4
 have hsz4:w4.heap.size=w.heap.size+5:=by rw [hw4];simp [hz0]
 rw [hz0] at hY ⊢
 clear hw4 hX0 hH0 hS0 hO0
 have HSZ:=Lib.hid hsz4
 have HZ0:=Lib.hid hz0
 clear hsz4 hz0
 go_wp2_with fail
 refine wp_rangeAll (v:=.slice Av (nw S) cv) (N:=S) (Bx:=w.heap.size+4) rfl (hY.cell 0) hs4 hT4 rfl
  (fun pre W=>(∃ rv',Blk W (w.heap.size+3) 58 #[rv']∧IsSet W rv' (orTo pre))∧But (some (w.heap.size+3)) w4 W∧Below w.heap.size w W) (fun _ _ _=>False)
  ?hI (fun _ _ _ _ _ hs _ _=>hs) ?h0 ?a1 ?assign ?body ?done (fun _ _ _ _ _ h _=>h.elim)
 case assign =>
  intro l x W K hK
  gi_wp2
  exact hK
 case hI =>
  rintro s W W' row ⟨⟨rv',hb,hsr⟩,hbut,hbl⟩ hg hrow
  have hcells:∀ (g:Nat) cs t fz,W.heap[g]?=some (Obj.cells cs t fz)→W'.heap[g]?=some (Obj.cells cs t fz):=fun g cs t fz hb=>(hg.block g (Array.getElem?_eq_some_iff.1 hb).1 fun e=>by
   obtain ⟨_,o,ho,hc⟩:=hrow g e.symm
   rw [ho] at hb;cases hb;cases hc).trans hb
  refine ⟨⟨rv',hcells _ _ _ _ hb,hsr.keep ⟨hg.size,fun g cs h=>hcells _ _ _ _ h⟩⟩,⟨Nat.le_trans hbut.1 hg.size,fun g hg' hne=>(hg.block g (Nat.lt_of_lt_of_le hg' hbut.1) fun e=>?_).trans (hbut.2 g hg' hne)⟩,hbl.grown hg hbl.size fun k e=>?_⟩
  ·have:=(hrow g e.symm).1;omega
  ·have:=(hrow k e).1;have:=b4.size;omega
 case h0=>exact ⟨⟨_,hX4,by simpa [orTo] using IsSet.empty w4⟩,But.refl _ _,b4⟩
 case body =>
  rintro l pre x W hx ⟨⟨rv',hX,hsr⟩,hbut,hbl⟩ hlen hkp
  have cX:=hX.cell 0
  have cH:=hbut.on (hH4.cell 0) (by simp)
  have lX:=hX.lt
  have lH:=cell_lt cH
  have hd:Below W.heap.size W W.drew:=(Below.refl _ _).drew
  have HST:=Lib.hid (orTo_snoc pre x)
  have HJ:=hideC (juniors_h lk x W.drew ((h.below hbl).below hd) (HS.out x hx).1 (HS.out x hx).2)
  gi_wp2_with fail
  refine wpIn_spine (fun V=>Below W.heap.size W V) [0,1,2] [3,4,5] (fun _=>trivial) (by kernel_rfl) (by kernel_rfl) (by kernel_rfl) ?_
  iterate 3 (refine wpE_op (v:=?_) rfl rfl (fun W hW=>?_) ?_;rotate_left;(have x1:=onB hW cX;have x2:=onB hW cH;go_simp;first | done | with_reducible rfl);simp only [pt1,pt3,pt4,pt5])
  refine wpE_nil ⟨fun h=>(by cases h),wpSpI_op rfl hd ?_⟩
  gi_wp2_with (refine ⟨trivial,?_⟩;gi_at_call 173;refine (CallsIn.inRound l (callsIn_wide.2 HJ.out)).mono ?_;rintro e w6 ⟨r1,rfl,hr1,hb6⟩;obtain ⟨A6,c6,rfl,_⟩:=id hr1)
  have hb6':=hd.trans (hb6.mono hd.size)
  have HA:=hideC (or_any _ _ _ _ w6 (hsr.below hb6') hr1)
  refine nxtI_op rfl hb6' ?_
  gi_wp2_with (refine ⟨trivial,?_⟩;gi_at_call 84;refine (CallsIn.inRound l (callsIn_wide.2 HA.out)).mono ?_;rintro e w7 ⟨r2,rfl,hr2,hb7⟩;obtain ⟨A7,c7,rfl,_⟩:=id hr2)
  have hb7':=hb6'.trans (hb7.mono hb6'.size)
  have hX7:=hX.below hb7' hX.lt
  have cX7:=hX7.cell 0
  have fX7:=hX7.frozen 0
  refine nxtI_op rfl hb7' ?_
  gi_wp2_with fail
  refine nxtI_nil ?_
  gi_wp2_with fail
  have hk8:=(KeepW.of_below hb7').trans (KeepW.setCell (p:=⟨w.heap.size+1+1+1,0,none⟩) hX7 (by decide) (.slice A7 (nw (orTo pre|||2 ^ x)) c7))
  have hb8:=(hb7'.mono hbl.size).setCell (p:=⟨w.heap.size+1+1+1,0,none⟩) (by simp;omega) (.slice A7 (nw (orTo pre|||2 ^ x)) c7)
  exact ⟨((KeepsOthers.of_below hb7').trans (KeepsOthers.setCell _ _ _)).from _,KpA.mk_ hk8 hb8 hT.pos,
   ⟨_,hX7.set_ 0 (.slice A7 (nw (orTo pre|||2 ^ x)) c7),by rw [HST.out];exact hr2.keep (KeepW.setCell (p:=⟨w.heap.size+1+1+1,0,none⟩) hX7 (by decide) (.slice A7 (nw (orTo pre|||2 ^ x)) c7))⟩,(hbut.below hb7').trans (But.setCell _ _ _),hbl.trans hb8⟩
 case done =>
  rintro D W hD ⟨⟨rv',hX,hsr⟩,hbut,hbl⟩ hK
  rw [orTo_mems] at hsr
  obtain ⟨A',c',rfl,_⟩:=id hsr
  have hOW:=hbut.blk hO4 (by simp)
  have cX:=hX.cell 0
  have cO:=hOW.cell 0
  have fO:=hOW.frozen 0
  have lO:=hOW.lt
  go_wp2_with fail
  have hOX:=hOW.set_ 0 (.slice A' (nw S) c')
  have hbX:=hbl.setCell (p:=⟨w.heap.size+1+1,0,none⟩) (by show w.heap.size≤w.heap.size+1+1;omega) (.slice A' (nw S) c')
  have hsX:=hsr.keep (KeepW.setCell (p:=⟨w.heap.size+1+1,0,none⟩) hOW (by decide) (.slice A' (nw S) c'))
  have hKX:=(KeepsOthers.setCell W ⟨w.heap.size+1+1,0,none⟩ (.slice A' (nw S) c')).same _ _ hK rfl
  refine leave_marks (n₀:=w.heap.size) [{ target:=.collected D,args:=#[] }] _ ⟨⟨D,rfl,by have:=b4.size;omega,hKX,fun e he=>by cases he⟩,trivial⟩ fun W' hW'=>?_
  have hBB:Blk W' (w.heap.size+1+1) 58 _:=hW'.2 _ _ _ _ hOX
  have cX:=hBB.cell 0
  exact ⟨_,by simp [results,Tryz.results122,go_sem,cX],_,rfl,hsX.keep hW'.keep,hbX.trans hW'.1⟩
abbrev leftA (k:Nat):Array Value:=filled (.int .i64 0) (fun _=>.int .i64 (-1)) k 64
theorem index_left (gl k:Nat) (w:World) (h:Blk w gl 3 (leftA k)) (hk:k < 64) :
  Calls Tryz.prog 151 #[.slice (some ⟨gl,0,none⟩) 64 64,.int .i64 0] w fun e w'=>e=.returned (.int .i64 (k:Int))∧w'=w:=by
 go_enter Tryz.func151,Tryz.ntmps151
 go_wp2_with fail
 refine wp_loopF (β:=Nat) (fun j f=>#[.slice (some ⟨gl,0,none⟩) 64 64,.int .i64 0,f 2,f 3,.int .i64 0,f 5,f 6,.int .i64 64,.int .i64 (j:Int),f 9,f 10,f 11,f 12,f 13,f 14,f 15,f 16,f 17,f 18])
  (fun j ds W=>j≤k∧ds=[]∧W=w) (fun j=>k-j) 0 rfl
  ⟨Nat.zero_le _,rfl,rfl⟩ ?_
 rintro j f ds W ⟨hj,rfl,rfl⟩
 dsimp only at hj ⊢
 have hj64:(j:Int) < 64:=by omega
 have c0:=h.cell j
 rw [filled_get _ _ (by omega)] at c0
 by_cases hlt:j < k
 ·rw [if_pos hlt] at c0
  go_wp2_with fail
  exact ⟨j+1,rfl,⟨by omega,by first | rfl | trivial,by first | rfl | trivial⟩,by omega⟩
 ·rw [if_neg hlt] at c0
  obtain rfl:j=k:=by omega
  go_wp2_with fail
  go_ret
  exact ⟨rfl,rfl⟩
theorem make_int (n:Nat) (hn:n≤65536) (w:World) :
  (Instr.makeSlice 78 (.int .i64 (n:Int)) (.int .i64 (n:Int))).run Tryz.prog w=.ok (.slice (some ⟨w.heap.size,0,none⟩) n n) (w.alloc (.cells (zeros (.int .i64 0) n) 3)) :=
 make_run 78 3 _ 8 Tryz.underlying78 info_int rfl n (by omega) hn w
theorem sort_o (n0 o pb:Nat) (ab bl:Value) (w:World) (h:Blk w o 183 #[.int .i64 64,.slice (some ⟨pb,0,none⟩) 0 0,ab,bl,.slice none 0 0]) (hn:n0≤o) :
  Calls Tryz.prog 108 #[ptr o] w fun e w'=>e=.returned (.bool true)∧Below n0 w w'∧∃ gs cs c,Blk w' o 183 #[.int .i64 64,.slice (some ⟨pb,0,none⟩) 0 0,ab,bl,.slice (some ⟨gs,0,none⟩) 64 c]∧Blk w' gs 3 cs∧∀ k < 64,cs[k]?=some (i64 k):=by
 obtain ⟨i0,hi0,hz0,hz1,hz2⟩:=info_parts info_int
 have q0:=h.cell 0
 have q1:=h.cell 1
 have lo:=h.lt
 have hmk:(Instr.makeSlice 78 (.int .i64 64) (.int .i64 64)).run Tryz.prog w=_:=make_int 64 (by decide) w
 go_enter Tryz.func108,Tryz.ntmps108
 go_upto_region 2 with fail
 clear hmk q0 q1
 refine abs1 fun u1 BL hb hz=>?_
 have h1:=h.below hb lo
 have q1:=h1.cell 1
 have hb1:Below n0 w u1:=hb.mono (by omega)
 have hlg:o < w.heap.size:=lo
 obtain ⟨gl,hgl⟩:∃ x,x=w.heap.size:=⟨_,rfl⟩
 rw [← hgl] at BL hlg ⊢
 have HLG:=Lib.hid hlg
 have HGL:=Lib.hid hgl
 clear hb hz lo hgl hlg
 go_wp2_with fail
 refine wp_loop_rounds 1 ?_
 rw [rounds_succ]
 go_wp2_with fail
 refine wp_loopF (β:=Nat×Value) (fun b f=>#[ptr o,f 1,f 2,.slice (some ⟨gl,0,none⟩) 64 64,f 4,f 5,f 6,f 7,f 8,f 9,f 10,f 11,f 12,f 13,f 14,f 15,f 16,f 17,f 18,f 19,f 20,f 21,f 22,f 23,f 24,f 25,f 26,f 27,f 28,f 29,f 30,f 31,f 32,f 33,f 34,f 35,f 36,f 37,f 38,f 39,f 40,f 41,f 42,f 43,f 44,f 45,f 46,f 47,f 48,f 49,f 50,f 51,f 52,f 53,f 54,f 55,f 56,f 57,f 58,f 59,f 60,f 61,f 62,f 63,f 64,f 65,f 66,f 67,f 68,f 69,f 70,f 71,f 72,f 73,f 74,f 75,f 76,f 77,f 78])
  (fun b ds V=>b.1≤64∧ds=[]∧Below n0 w V∧gl < V.heap.size∧Blk V o 183 #[.int .i64 64,.slice (some ⟨pb,0,none⟩) 0 0,ab,bl,b.2]∧Blk V gl 3 (leftA b.1)∧V.ownsRow (gl+1) 3 1 b.2 b.1 ((List.range b.1).map i64)) (fun b=>64-b.1) (0,.slice none 0 0) rfl
  ⟨Nat.zero_le _,rfl,hb1,BL.lt,h1,by dsimp only [leftA];rw [← filled_zero];exact BL,World.ownsRow_nil _ _ _ _⟩ ?_
 rintro ⟨k,vs⟩ f ds V0 ⟨hk,rfl,hb,hgs,hO,hL,hown⟩
 dsimp only at hk hO hL hown ⊢
 obtain ⟨As,cs,rfl,hkc,hcm,-⟩:=row_of_own hown
 have q0:V0.cell? ⟨o,0,none⟩=some _:=hO.cell 0
 have q4:V0.cell? ⟨o,4,none⟩=some _:=hO.cell 4
 clear q1
 go_wp2_with fail
 refine wp_spine (fun W=>Below V0.heap.size V0 W) [0,1,2,3,4,5,6,7,8,9] [] (by kernel_rfl) (by kernel_rfl) ?_
 iterate 10 (refine wpE_op (v:=?_) rfl rfl (fun W hW=>?_) ?_;rotate_left;(have z0:=onB hW q0;have z4:=onB hW q4;go_simp;first | done | with_reducible rfl);simp only [pt1,pt3,pt4,pt5])
 refine wpE_nil ⟨fun _=>(Below.refl _ _).drew,wpSp_nil ?_⟩
 have hd:Below V0.heap.size V0 V0.drew:=(Below.refl _ _).drew
 obtain ⟨V1,hV1⟩:∃ V,V=V0.drew:=⟨_,rfl⟩
 rw [← hV1] at hd ⊢;clear hV1
 have hb1':Below n0 w V1:=hb.trans (hd.mono (by have:=HLG.out;omega))
 replace hO:=hO.below hd hO.lt;replace hL:=hL.below hd hL.lt;replace hown:=own_below hown hd
 have hgs1:=Nat.lt_of_lt_of_le hgs hd.size
 clear hd hb hgs q0 q4
 by_cases hlt:k < 64
 ·have hlt':(k:Int) < 64:=by omega
  have hk0:(0:Int)≤(k:Int):=by omega
  have hk1:¬ (k:Int) < 0:=by omega
  have HI:=hideC (index_left gl k V1 hL hlt)
  go_wp2_with fail
  refine HI.out.mono ?_
  rintro e V2 ⟨rfl,rfl⟩
  have cl:=hL.cell k
  rw [filled_get _ _ hlt,if_neg (by omega)] at cl
  have fl:=hL.frozen k
  have ll:=hL.lt
  clear HI
  go_upto_region 12 with fail
  clear cl fl ll
  have hgo:=HLG.out
  have hGn:n0≤gl:=by omega
  obtain ⟨V3,hV3⟩:∃ V,V=V2.setCell ⟨gl,k,none⟩ (.int .i64 (-1)):=⟨_,rfl⟩
  have hO3:=hO.far (p:=⟨gl,k,none⟩) (by show o≠gl;omega) (.int .i64 (-1));rw [← hV3] at hO3
  have hL3:=hL.set_ k (.int .i64 (-1));rw [leftA,filled_set (.int .i64 0) (fun _=>.int .i64 (-1)) hlt,← hV3] at hL3
  have hown3:=ownsRow_setCell_other hown (a:=⟨gl,k,none⟩) (fun e=>by have:=(hown.lt _ e).1;simp at this;omega) (.int .i64 (-1));rw [← hV3] at hown3
  have hb3:=hb1'.setCell (p:=⟨gl,k,none⟩) hGn (.int .i64 (-1));rw [← hV3] at hb3
  have hg3:gl < V3.heap.size:=hL3.lt
  rw [← hV3]
  clear hV3 hO hL hown hb1' hgs1
  have q4:=hO3.cell 4
  have lo:=hO3.lt
  have hal:Below V3.heap.size V3 (V3.alloc (.cells #[.int .i64 (k:Int)] 3)):=(Below.refl _ _).alloc (Nat.le_refl _) _
  have hlocs:=own_below hown3 hal
  have hO4:=hO3.below hal lo
  have hL4:=hL3.below hal hg3
  have hb4:=hb3.trans (hal.mono (by omega))
  have hg4:gl < (V3.alloc (.cells #[.int .i64 (k:Int)] 3)).heap.size:=hL4.lt
  have HG4:=Lib.hid hg4
  clear hal hown3 hb3 hO3 hL3 hgo hg4
  go_wp2_with (at_builtin;refine wpList_append_own _ rfl _ _ 78 rfl (gl+1) 3 i0 (.int .i64 0) 1 8 Tryz.underlying78 hi0 hz0 hz1 hz2 rfl (by decide) _ _ _ rfl (hlocs) ⟨V3.heap.size,0,none⟩ 1 1 [.int .i64 (k:Int)] rfl rfl (cell_one_new _ _ _) (by simp [Value.oneCell']) (by unfold maxLen;omega) (by omega) (by simp;omega) ?_)
  intro v' V5 hown' hgrow _
  obtain ⟨g5,cap5,rfl⟩:=ownsRow_succ hown'
  have hgo:=HLG.out
  have hg4:=HG4.out
  have hb5:=hb4.grown hgrow (by omega) (fun p hp=>by have:=(hlocs.lt p hp).1;omega)
  have hO5:=hO4.grown hgrow (fun e=>by have:=(hlocs.lt _ e.symm).1;omega)
  have hL5:=hL4.grown hgrow (fun e=>by have:=(hlocs.lt _ e.symm).1;omega)
  rw [show (List.range k).map i64 ++ [Value.int .i64 (k:Int)]=(List.range (k+1)).map i64 by simp [List.range_succ]] at hown'
  have c4:=hO5.cell 4
  have f4:=hO5.frozen 4
  have l4:=hO5.lt
  clear hgo hg4 hb4 hO4 hL4 hlocs hgrow q4 lo
  go_upto_region 13 with fail
  obtain ⟨V6,hV6⟩:∃ V,V=V5.setCell ⟨o,4,none⟩ (.slice (some ⟨g5,0,none⟩) (k+1) cap5):=⟨_,rfl⟩
  have hO6:=hO5.set_ 4 (.slice (some ⟨g5,0,none⟩) (k+1) cap5);rw [← hV6] at hO6
  have hL6:=hL5.far (p:=⟨o,4,none⟩) (by have:=HLG.out;show gl≠o;omega) (.slice (some ⟨g5,0,none⟩) (k+1) cap5);rw [← hV6] at hL6
  have hown6:=ownsRow_setCell_other hown' (a:=⟨o,4,none⟩) (fun e=>by have:=(hown'.lt _ e).1;have:=HLG.out;simp at *;omega) (.slice (some ⟨g5,0,none⟩) (k+1) cap5);rw [← hV6] at hown6
  have hb6:=hb5.setCell (p:=⟨o,4,none⟩) hn (.slice (some ⟨g5,0,none⟩) (k+1) cap5);rw [← hV6] at hb6
  rw [← hV6]
  clear hV6 c4 f4 l4 hO5 hL5 hown' hb5
  have q1:=hO6.cell 1
  go_wp2_with fail
  refine wp_loop_rounds 1 ?_
  rw [rounds_succ]
  go_wp2_with fail
  exact ⟨(k+1,.slice (some ⟨g5,0,none⟩) (k+1) cap5),rfl,⟨by show k+1≤64;omega,by first | rfl | trivial,hb6,hL6.lt,hO6,hL6,hown6⟩,by show 64-(k+1) < 64-k;omega⟩
 ·obtain rfl:k=64:=by omega
  go_wp2_with fail
  go_ret
  obtain ⟨-,⟨-,h0⟩ | ⟨g,cap,cur,e1,-,e3,-,-,-,e7⟩⟩:=hown
  ·exact absurd h0 (by decide)
  ·rw [e1] at hO
   refine ⟨rfl,hb1',g,cur,cap,hO,e3,fun j hj=>?_⟩
   have:=congrArg (fun l=>l[j]?) e7
   simp only [Nat.mul_one,List.getElem?_take,if_pos hj] at this
   rw [← Array.getElem?_toList,this]
   simp [List.getElem?_range hj]
theorem info_ints:(Tryz.prog.info? 78).map (fun i=>(i.zero,i.size,i.bytes))=some (some (.slice none 0 0),1,24):=by kernel_rfl
theorem make_ints (n:Nat) (hn:n≤65536) (w:World) :
  (Instr.makeSlice 220 (.int .i64 (n:Int)) (.int .i64 (n:Int))).run Tryz.prog w=.ok (.slice (some ⟨w.heap.size,0,none⟩) n n) (w.alloc (.cells (zeros (.slice none 0 0) n) 78)) :=
 make_run 220 78 _ 24 Tryz.underlying220 info_ints rfl n (by omega) hn w
namespace Mix2
theorem relate_o (n0 o pb gs c:Nat) (ab bl:Value) (cs:Array Value) (w:World) (h:Blk w o 183 #[.int .i64 64,.slice (some ⟨pb,0,none⟩) 0 0,ab,bl,.slice (some ⟨gs,0,none⟩) 64 c]) (hs:Blk w gs 3 cs) (hcs:∀ k < 64,cs[k]?=some (i64 k)) (hn:n0≤o) (hw:n0≤w.heap.size) (hT:∀ V,Below n0 w V→Tab V) :
  Calls Tryz.prog 109 #[ptr o] w fun e w'=>e=.returned (.tuple #[])∧Below n0 w w'∧∃ gb ab',Blk w' o 183 #[.int .i64 64,.slice (some ⟨pb,0,none⟩) 0 0,ab',.slice (some ⟨gb,0,none⟩) 64 64,.slice (some ⟨gs,0,none⟩) 64 c]∧Blk w' gb 58 (zeros (.slice none 0 0) 64):=by
 have lo:=h.lt
 have HCS:=Lib.hid hcs
 clear hcs
 refine (callsIn_wide (n:=9)).1 (callsIn_of_wp_marks Tryz.func109 rfl trivial (wpIn_wide.2 ?_) rfl)
 simp only [Tryz.ntmps109,List.size_toArray,List.length_cons,List.length_nil,Nat.reduceAdd,Nat.reduceSub,Array.replicate_succ,Array.replicate_zero,List.push_toArray,List.append_toArray,List.nil_append,List.cons_append]
 go_upto_region 1 with fail
 refine abs1 fun u1 BX hb hz=>?_
 have BO:=h.below hb lo
 have BG:=hs.below hb hs.lt
 have b1:Below n0 w u1:=hb.mono hw
 obtain ⟨X,hX⟩:∃ x,x=w.heap.size:=⟨_,rfl⟩
 have hXn:n0≤X:=by omega
 have hXo:o < X:=by omega
 have hXu:X < u1.heap.size:=by omega
 rw [← hX] at BX ⊢
 clear hX hz hb h hs
 have x0:u1.cell? ⟨X,0,none⟩=some (ptr o):=BX.cell 0
 have o0:u1.cell? ⟨o,0,none⟩=some (.int .i64 64):=BO.cell 0
 refine wp_mix (fun V=>V.cell? ⟨X,0,none⟩=some (ptr o)∧V.cell? ⟨o,0,none⟩=some (.int .i64 64)) 18 (by kernel_rfl) (by kernel_rfl) ⟨x0,o0⟩ ?_
 obtain ⟨v0,hv0⟩:∃ V,V=u1.drew:=⟨_,rfl⟩
 have hd:Below u1.heap.size u1 v0:=by rw [hv0];exact (Below.refl _ _).drew
 rw [← hv0];clear hv0
 replace b1:=b1.trans (hd.mono (by have:=b1.size;omega))
 replace BX:=BX.below hd BX.lt;replace BO:=BO.below hd BO.lt;replace BG:=BG.below hd BG.lt;replace hXu:=Nat.lt_of_lt_of_le hXu hd.size
 clear hd x0 o0
 (refine m_q 0 (v:=?_) (by kernel_rfl) rfl rfl (fun W hW=>?_) ?_;rotate_left;(have z0:=hW.1;have z1:=hW.2;go_simp;first | done | with_reducible rfl);simp only [pt1,pt3,pt4,pt5]);(refine m_q 2 (v:=?_) (by kernel_rfl) rfl rfl (fun W hW=>?_) ?_;rotate_left;(have z0:=hW.1;have z1:=hW.2;go_simp;first | done | with_reducible rfl);simp only [pt1,pt3,pt4,pt5]);(refine m_q 3 (v:=?_) (by kernel_rfl) rfl rfl (fun W hW=>?_) ?_;rotate_left;(have z0:=hW.1;have z1:=hW.2;go_simp;first | done | with_reducible rfl);simp only [pt1,pt3,pt4,pt5]);(refine m_q 4 (v:=?_) (by kernel_rfl) rfl rfl (fun W hW=>?_) ?_;rotate_left;(have z0:=hW.1;have z1:=hW.2;go_simp;first | done | with_reducible rfl);simp only [pt1,pt3,pt4,pt5]);(refine m_q 5 (v:=?_) (by kernel_rfl) rfl rfl (fun W hW=>?_) ?_;rotate_left;(have z0:=hW.1;have z1:=hW.2;go_simp;first | done | with_reducible rfl);simp only [pt1,pt3,pt4,pt5]);(refine m_q 7 (v:=?_) (by kernel_rfl) rfl rfl (fun W hW=>?_) ?_;rotate_left;(have z0:=hW.1;have z1:=hW.2;go_simp;first | done | with_reducible rfl);simp only [pt1,pt3,pt4,pt5]);(refine m_q 8 (v:=?_) (by kernel_rfl) rfl rfl (fun W hW=>?_) ?_;rotate_left;(have z0:=hW.1;have z1:=hW.2;go_simp;first | done | with_reducible rfl);simp only [pt1,pt3,pt4,pt5]);(refine m_q 9 (v:=?_) (by kernel_rfl) rfl rfl (fun W hW=>?_) ?_;rotate_left;(have z0:=hW.1;have z1:=hW.2;go_simp;first | done | with_reducible rfl);simp only [pt1,pt3,pt4,pt5]);(refine m_q 10 (v:=?_) (by kernel_rfl) rfl rfl (fun W hW=>?_) ?_;rotate_left;(have z0:=hW.1;have z1:=hW.2;go_simp;first | done | with_reducible rfl);simp only [pt1,pt3,pt4,pt5])
 refine m_join (β:=Nat×Nat) #[true,true,true,true,true,true,true,true,true,true,true,true,true,true,true,false,false,false] 3 (fun b f=>#[f 0,.pointer (some ⟨X,0,none⟩),f 2,f 3,f 4,f 5,f 6,f 7,f 8,f 9,f 10,ptr o,f 12,f 13,f 14,f 15,f 16,f 17,f 18,f 19,f 20,.slice (some ⟨b.2,0,none⟩) 64 64,f 22,f 23,f 24,f 25,f 26,f 27,f 28,f 29,f 30,f 31,f 32,f 33,f 34,f 35,f 36,f 37,f 38,f 39,f 40,f 41,f 42,f 43,f 44,f 45,f 46,f 47,f 48,f 49,f 50,f 51,f 52,f 53,f 54,f 55,f 56,f 57,f 58,f 59,f 60,f 61,f 62,f 63,f 64,f 65,f 66,f 67,f 68,f 69,f 70,f 71,f 72,f 73,f 74,f 75,f 76,f 77,f 78,f 79,f 80,f 81,f 82,f 83,f 84,f 85,f 86,f 87,f 88,f 89,f 90,f 91,f 92,f 93,f 94,f 95,f 96,f 97,f 98,f 99,f 100,f 101,f 102,f 103,f 104,f 105,f 106,f 107,f 108,f 109,f 110,f 111,f 112,f 113,f 114,f 115,f 116,f 117,f 118,f 119,f 120]) (fun b ds V=>ds=[]∧Below n0 w V∧n0≤V.heap.size∧Blk V X 127 #[ptr o]∧Blk V o 183 #[.int .i64 64,.slice (some ⟨pb,0,none⟩) 0 0,.slice (some ⟨b.1,0,none⟩) 64 64,bl,.slice (some ⟨gs,0,none⟩) 64 c]∧Blk V b.1 58 (zeros (.slice none 0 0) 64)∧Blk V b.2 58 (zeros (.slice none 0 0) 64)∧Blk V gs 3 cs) ?lf ?tr
 case tr =>
  intro HL
  refine m_s3 1 6 11 (by kernel_rfl) rfl rfl rfl ?_ ?_ ?_
  ·have x0:=BX.cell 0;have lx:=BX.lt
   go_wp2_with fail
   clear x0 lx
   refine m_keep ⟨BX.cell 0,BO.cell 0⟩ ?_
   refine m_s2 6 11 (by kernel_rfl) rfl rfl ?_ ?_
   ·have hmk:(Instr.makeSlice 67 (.int .i64 64) (.int .i64 64)).run Tryz.prog v0=_:=makeSets_run 64 (by decide) v0
    go_wp2_with fail
    clear hmk
    refine absN fun v2 BA hb hz=>?_
    obtain ⟨gA,hgA⟩:∃ x,x=v0.heap.size:=⟨_,rfl⟩
    rw [← hgA] at BA ⊢
    have lgA:X < gA:=by omega
    clear hz hgA
    replace b1:=b1.trans (hb.mono (by have:=b1.size;omega))
    replace BX:=BX.below hb BX.lt;replace BO:=BO.below hb BO.lt;replace BG:=BG.below hb BG.lt
    replace hXu:=Nat.lt_of_lt_of_le hXu hb.size
    clear hb
    refine m_keep ⟨BX.cell 0,BO.cell 0⟩ ?_
    (refine m_q 12 (v:=?_) (by kernel_rfl) rfl rfl (fun W hW=>?_) ?_;rotate_left;(go_simp;first | done | with_reducible rfl);simp only [pt1,pt3,pt4,pt5]);(refine m_q 13 (v:=?_) (by kernel_rfl) rfl rfl (fun W hW=>?_) ?_;rotate_left;(go_simp;first | done | with_reducible rfl);simp only [pt1,pt3,pt4,pt5])
    refine m_s2 11 14 (by kernel_rfl) rfl rfl ?_ ?_
    ·have hmk:(Instr.makeSlice 67 (.int .i64 64) (.int .i64 64)).run Tryz.prog v2=_:=makeSets_run 64 (by decide) v2
     go_wp2_with fail
     clear hmk
     refine absN fun v3 BB hb hz=>?_
     obtain ⟨gB,hgB⟩:∃ x,x=v2.heap.size:=⟨_,rfl⟩
     rw [← hgB] at BB ⊢
     have lgB:X < gB:=by omega
     clear hz hgB
     replace b1:=b1.trans (hb.mono (by have:=b1.size;omega))
     replace BX:=BX.below hb BX.lt;replace BO:=BO.below hb BO.lt;replace BG:=BG.below hb BG.lt;replace BA:=BA.below hb BA.lt
     replace hXu:=Nat.lt_of_lt_of_le hXu hb.size
     clear hb
     refine m_keep ⟨BX.cell 0,BO.cell 0⟩ ?_
     refine m_s1 14 (by kernel_rfl) rfl ?_
     have c2:=BO.cell 2;have f2:=BO.frozen 2;have l2:=BO.lt
     go_wp2_with fail
     clear c2 f2 l2
     obtain ⟨v4,hv⟩:∃ V,V=v3.setCell ⟨o,2,none⟩ (.slice (some ⟨gA,0,none⟩) 64 64):=⟨_,rfl⟩
     replace BX:=BX.far (p:=⟨o,2,none⟩) (BX.ne_ BO (by decide)) (.slice (some ⟨gA,0,none⟩) 64 64);rw [← hv] at BX
     replace BG:=BG.far (p:=⟨o,2,none⟩) (BG.ne_ BO (by decide)) (.slice (some ⟨gA,0,none⟩) 64 64);rw [← hv] at BG
     replace BA:=BA.far (p:=⟨o,2,none⟩) (BA.ne_ BO (by decide)) (.slice (some ⟨gA,0,none⟩) 64 64);rw [← hv] at BA
     replace BB:=BB.far (p:=⟨o,2,none⟩) (BB.ne_ BO (by decide)) (.slice (some ⟨gA,0,none⟩) 64 64);rw [← hv] at BB
     replace BO:=BO.set_ 2 (.slice (some ⟨gA,0,none⟩) 64 64);rw [← hv] at BO
     replace b1:=b1.setCell (p:=⟨o,2,none⟩) hn (.slice (some ⟨gA,0,none⟩) 64 64);rw [← hv] at b1
     replace hXu:=BX.lt
     rw [← hv];clear hv
     refine m_keep ⟨BX.cell 0,BO.cell 0⟩ ?_
     exact HL (gA,gB) _ _ _ rfl rfl ⟨rfl,b1,by have:=b1.size;omega,BX,BO,BA,BB,BG⟩
    ·have c2:=BO.cell 2;have f2:=BO.frozen 2;have l2:=BO.lt
     go_wp2_with fail
     clear c2 f2 l2
     obtain ⟨v5,hv⟩:∃ V,V=v2.setCell ⟨o,2,none⟩ (.slice (some ⟨gA,0,none⟩) 64 64):=⟨_,rfl⟩
     replace BX:=BX.far (p:=⟨o,2,none⟩) (BX.ne_ BO (by decide)) (.slice (some ⟨gA,0,none⟩) 64 64);rw [← hv] at BX
     replace BG:=BG.far (p:=⟨o,2,none⟩) (BG.ne_ BO (by decide)) (.slice (some ⟨gA,0,none⟩) 64 64);rw [← hv] at BG
     replace BA:=BA.far (p:=⟨o,2,none⟩) (BA.ne_ BO (by decide)) (.slice (some ⟨gA,0,none⟩) 64 64);rw [← hv] at BA
     replace BO:=BO.set_ 2 (.slice (some ⟨gA,0,none⟩) 64 64);rw [← hv] at BO
     replace b1:=b1.setCell (p:=⟨o,2,none⟩) hn (.slice (some ⟨gA,0,none⟩) 64 64);rw [← hv] at b1
     replace hXu:=BX.lt
     rw [← hv];clear hv
     refine m_keep ⟨BX.cell 0,BO.cell 0⟩ ?_
     refine m_s1 11 (by kernel_rfl) rfl ?_
     have hmk:(Instr.makeSlice 67 (.int .i64 64) (.int .i64 64)).run Tryz.prog v5=_:=makeSets_run 64 (by decide) v5
     go_wp2_with fail
     clear hmk
     refine absN fun v6 BB hb hz=>?_
     obtain ⟨gB,hgB⟩:∃ x,x=v5.heap.size:=⟨_,rfl⟩
     rw [← hgB] at BB ⊢
     have lgB:X < gB:=by omega
     clear hz hgB
     replace b1:=b1.trans (hb.mono (by have:=b1.size;omega))
     replace BX:=BX.below hb BX.lt;replace BO:=BO.below hb BO.lt;replace BG:=BG.below hb BG.lt;replace BA:=BA.below hb BA.lt
     replace hXu:=Nat.lt_of_lt_of_le hXu hb.size
     clear hb
     refine m_keep ⟨BX.cell 0,BO.cell 0⟩ ?_
     exact HL (gA,gB) _ _ _ rfl rfl ⟨rfl,b1,by have:=b1.size;omega,BX,BO,BA,BB,BG⟩
   ·have hmk:(Instr.makeSlice 67 (.int .i64 64) (.int .i64 64)).run Tryz.prog v0=_:=makeSets_run 64 (by decide) v0
    go_wp2_with fail
    clear hmk
    refine absN fun v7 BB hb hz=>?_
    obtain ⟨gB,hgB⟩:∃ x,x=v0.heap.size:=⟨_,rfl⟩
    rw [← hgB] at BB ⊢
    have lgB:X < gB:=by omega
    clear hz hgB
    replace b1:=b1.trans (hb.mono (by have:=b1.size;omega))
    replace BX:=BX.below hb BX.lt;replace BO:=BO.below hb BO.lt;replace BG:=BG.below hb BG.lt
    replace hXu:=Nat.lt_of_lt_of_le hXu hb.size
    clear hb
    refine m_keep ⟨BX.cell 0,BO.cell 0⟩ ?_
    refine m_s1 6 (by kernel_rfl) rfl ?_
    have hmk:(Instr.makeSlice 67 (.int .i64 64) (.int .i64 64)).run Tryz.prog v7=_:=makeSets_run 64 (by decide) v7
    go_wp2_with fail
    clear hmk
    refine absN fun v8 BA hb hz=>?_
    obtain ⟨gA,hgA⟩:∃ x,x=v7.heap.size:=⟨_,rfl⟩
    rw [← hgA] at BA ⊢
    have lgA:X < gA:=by omega
    clear hz hgA
    replace b1:=b1.trans (hb.mono (by have:=b1.size;omega))
    replace BX:=BX.below hb BX.lt;replace BO:=BO.below hb BO.lt;replace BG:=BG.below hb BG.lt;replace BB:=BB.below hb BB.lt
    replace hXu:=Nat.lt_of_lt_of_le hXu hb.size
    clear hb
    refine m_keep ⟨BX.cell 0,BO.cell 0⟩ ?_
    (refine m_q 12 (v:=?_) (by kernel_rfl) rfl rfl (fun W hW=>?_) ?_;rotate_left;(go_simp;first | done | with_reducible rfl);simp only [pt1,pt3,pt4,pt5]);(refine m_q 13 (v:=?_) (by kernel_rfl) rfl rfl (fun W hW=>?_) ?_;rotate_left;(go_simp;first | done | with_reducible rfl);simp only [pt1,pt3,pt4,pt5])
    refine m_s1 14 (by kernel_rfl) rfl ?_
    have c2:=BO.cell 2;have f2:=BO.frozen 2;have l2:=BO.lt
    go_wp2_with fail
    clear c2 f2 l2
    obtain ⟨v9,hv⟩:∃ V,V=v8.setCell ⟨o,2,none⟩ (.slice (some ⟨gA,0,none⟩) 64 64):=⟨_,rfl⟩
    replace BX:=BX.far (p:=⟨o,2,none⟩) (BX.ne_ BO (by decide)) (.slice (some ⟨gA,0,none⟩) 64 64);rw [← hv] at BX
    replace BG:=BG.far (p:=⟨o,2,none⟩) (BG.ne_ BO (by decide)) (.slice (some ⟨gA,0,none⟩) 64 64);rw [← hv] at BG
    replace BB:=BB.far (p:=⟨o,2,none⟩) (BB.ne_ BO (by decide)) (.slice (some ⟨gA,0,none⟩) 64 64);rw [← hv] at BB
    replace BA:=BA.far (p:=⟨o,2,none⟩) (BA.ne_ BO (by decide)) (.slice (some ⟨gA,0,none⟩) 64 64);rw [← hv] at BA
    replace BO:=BO.set_ 2 (.slice (some ⟨gA,0,none⟩) 64 64);rw [← hv] at BO
    replace b1:=b1.setCell (p:=⟨o,2,none⟩) hn (.slice (some ⟨gA,0,none⟩) 64 64);rw [← hv] at b1
    replace hXu:=BX.lt
    rw [← hv];clear hv
    refine m_keep ⟨BX.cell 0,BO.cell 0⟩ ?_
    exact HL (gA,gB) _ _ _ rfl rfl ⟨rfl,b1,by have:=b1.size;omega,BX,BO,BA,BB,BG⟩
  ·have hmk:(Instr.makeSlice 67 (.int .i64 64) (.int .i64 64)).run Tryz.prog v0=_:=makeSets_run 64 (by decide) v0
   go_wp2_with fail
   clear hmk
   refine absN fun v10 BA hb hz=>?_
   obtain ⟨gA,hgA⟩:∃ x,x=v0.heap.size:=⟨_,rfl⟩
   rw [← hgA] at BA ⊢
   have lgA:X < gA:=by omega
   clear hz hgA
   replace b1:=b1.trans (hb.mono (by have:=b1.size;omega))
   replace BX:=BX.below hb BX.lt;replace BO:=BO.below hb BO.lt;replace BG:=BG.below hb BG.lt
   replace hXu:=Nat.lt_of_lt_of_le hXu hb.size
   clear hb
   refine m_keep ⟨BX.cell 0,BO.cell 0⟩ ?_
   (refine m_q 12 (v:=?_) (by kernel_rfl) rfl rfl (fun W hW=>?_) ?_;rotate_left;(go_simp;first | done | with_reducible rfl);simp only [pt1,pt3,pt4,pt5]);(refine m_q 13 (v:=?_) (by kernel_rfl) rfl rfl (fun W hW=>?_) ?_;rotate_left;(go_simp;first | done | with_reducible rfl);simp only [pt1,pt3,pt4,pt5])
   refine m_s3 1 11 14 (by kernel_rfl) rfl rfl rfl ?_ ?_ ?_
   ·have x0:=BX.cell 0;have lx:=BX.lt
    go_wp2_with fail
    clear x0 lx
    refine m_keep ⟨BX.cell 0,BO.cell 0⟩ ?_
    refine m_s2 11 14 (by kernel_rfl) rfl rfl ?_ ?_
    ·have hmk:(Instr.makeSlice 67 (.int .i64 64) (.int .i64 64)).run Tryz.prog v10=_:=makeSets_run 64 (by decide) v10
     go_wp2_with fail
     clear hmk
     refine absN fun v12 BB hb hz=>?_
     obtain ⟨gB,hgB⟩:∃ x,x=v10.heap.size:=⟨_,rfl⟩
     rw [← hgB] at BB ⊢
     have lgB:X < gB:=by omega
     clear hz hgB
     replace b1:=b1.trans (hb.mono (by have:=b1.size;omega))
     replace BX:=BX.below hb BX.lt;replace BO:=BO.below hb BO.lt;replace BG:=BG.below hb BG.lt;replace BA:=BA.below hb BA.lt
     replace hXu:=Nat.lt_of_lt_of_le hXu hb.size
     clear hb
     refine m_keep ⟨BX.cell 0,BO.cell 0⟩ ?_
     refine m_s1 14 (by kernel_rfl) rfl ?_
     have c2:=BO.cell 2;have f2:=BO.frozen 2;have l2:=BO.lt
     go_wp2_with fail
     clear c2 f2 l2
     obtain ⟨v13,hv⟩:∃ V,V=v12.setCell ⟨o,2,none⟩ (.slice (some ⟨gA,0,none⟩) 64 64):=⟨_,rfl⟩
     replace BX:=BX.far (p:=⟨o,2,none⟩) (BX.ne_ BO (by decide)) (.slice (some ⟨gA,0,none⟩) 64 64);rw [← hv] at BX
     replace BG:=BG.far (p:=⟨o,2,none⟩) (BG.ne_ BO (by decide)) (.slice (some ⟨gA,0,none⟩) 64 64);rw [← hv] at BG
     replace BA:=BA.far (p:=⟨o,2,none⟩) (BA.ne_ BO (by decide)) (.slice (some ⟨gA,0,none⟩) 64 64);rw [← hv] at BA
     replace BB:=BB.far (p:=⟨o,2,none⟩) (BB.ne_ BO (by decide)) (.slice (some ⟨gA,0,none⟩) 64 64);rw [← hv] at BB
     replace BO:=BO.set_ 2 (.slice (some ⟨gA,0,none⟩) 64 64);rw [← hv] at BO
     replace b1:=b1.setCell (p:=⟨o,2,none⟩) hn (.slice (some ⟨gA,0,none⟩) 64 64);rw [← hv] at b1
     replace hXu:=BX.lt
     rw [← hv];clear hv
     refine m_keep ⟨BX.cell 0,BO.cell 0⟩ ?_
     exact HL (gA,gB) _ _ _ rfl rfl ⟨rfl,b1,by have:=b1.size;omega,BX,BO,BA,BB,BG⟩
    ·have c2:=BO.cell 2;have f2:=BO.frozen 2;have l2:=BO.lt
     go_wp2_with fail
     clear c2 f2 l2
     obtain ⟨v14,hv⟩:∃ V,V=v10.setCell ⟨o,2,none⟩ (.slice (some ⟨gA,0,none⟩) 64 64):=⟨_,rfl⟩
     replace BX:=BX.far (p:=⟨o,2,none⟩) (BX.ne_ BO (by decide)) (.slice (some ⟨gA,0,none⟩) 64 64);rw [← hv] at BX
     replace BG:=BG.far (p:=⟨o,2,none⟩) (BG.ne_ BO (by decide)) (.slice (some ⟨gA,0,none⟩) 64 64);rw [← hv] at BG
     replace BA:=BA.far (p:=⟨o,2,none⟩) (BA.ne_ BO (by decide)) (.slice (some ⟨gA,0,none⟩) 64 64);rw [← hv] at BA
     replace BO:=BO.set_ 2 (.slice (some ⟨gA,0,none⟩) 64 64);rw [← hv] at BO
     replace b1:=b1.setCell (p:=⟨o,2,none⟩) hn (.slice (some ⟨gA,0,none⟩) 64 64);rw [← hv] at b1
     replace hXu:=BX.lt
     rw [← hv];clear hv
     refine m_keep ⟨BX.cell 0,BO.cell 0⟩ ?_
     refine m_s1 11 (by kernel_rfl) rfl ?_
     have hmk:(Instr.makeSlice 67 (.int .i64 64) (.int .i64 64)).run Tryz.prog v14=_:=makeSets_run 64 (by decide) v14
     go_wp2_with fail
     clear hmk
     refine absN fun v15 BB hb hz=>?_
     obtain ⟨gB,hgB⟩:∃ x,x=v14.heap.size:=⟨_,rfl⟩
     rw [← hgB] at BB ⊢
     have lgB:X < gB:=by omega
     clear hz hgB
     replace b1:=b1.trans (hb.mono (by have:=b1.size;omega))
     replace BX:=BX.below hb BX.lt;replace BO:=BO.below hb BO.lt;replace BG:=BG.below hb BG.lt;replace BA:=BA.below hb BA.lt
     replace hXu:=Nat.lt_of_lt_of_le hXu hb.size
     clear hb
     refine m_keep ⟨BX.cell 0,BO.cell 0⟩ ?_
     exact HL (gA,gB) _ _ _ rfl rfl ⟨rfl,b1,by have:=b1.size;omega,BX,BO,BA,BB,BG⟩
   ·have hmk:(Instr.makeSlice 67 (.int .i64 64) (.int .i64 64)).run Tryz.prog v10=_:=makeSets_run 64 (by decide) v10
    go_wp2_with fail
    clear hmk
    refine absN fun v16 BB hb hz=>?_
    obtain ⟨gB,hgB⟩:∃ x,x=v10.heap.size:=⟨_,rfl⟩
    rw [← hgB] at BB ⊢
    have lgB:X < gB:=by omega
    clear hz hgB
    replace b1:=b1.trans (hb.mono (by have:=b1.size;omega))
    replace BX:=BX.below hb BX.lt;replace BO:=BO.below hb BO.lt;replace BG:=BG.below hb BG.lt;replace BA:=BA.below hb BA.lt
    replace hXu:=Nat.lt_of_lt_of_le hXu hb.size
    clear hb
    refine m_keep ⟨BX.cell 0,BO.cell 0⟩ ?_
    refine m_s2 1 14 (by kernel_rfl) rfl rfl ?_ ?_
    ·have x0:=BX.cell 0;have lx:=BX.lt
     go_wp2_with fail
     clear x0 lx
     refine m_keep ⟨BX.cell 0,BO.cell 0⟩ ?_
     refine m_s1 14 (by kernel_rfl) rfl ?_
     have c2:=BO.cell 2;have f2:=BO.frozen 2;have l2:=BO.lt
     go_wp2_with fail
     clear c2 f2 l2
     obtain ⟨v18,hv⟩:∃ V,V=v16.setCell ⟨o,2,none⟩ (.slice (some ⟨gA,0,none⟩) 64 64):=⟨_,rfl⟩
     replace BX:=BX.far (p:=⟨o,2,none⟩) (BX.ne_ BO (by decide)) (.slice (some ⟨gA,0,none⟩) 64 64);rw [← hv] at BX
     replace BG:=BG.far (p:=⟨o,2,none⟩) (BG.ne_ BO (by decide)) (.slice (some ⟨gA,0,none⟩) 64 64);rw [← hv] at BG
     replace BA:=BA.far (p:=⟨o,2,none⟩) (BA.ne_ BO (by decide)) (.slice (some ⟨gA,0,none⟩) 64 64);rw [← hv] at BA
     replace BB:=BB.far (p:=⟨o,2,none⟩) (BB.ne_ BO (by decide)) (.slice (some ⟨gA,0,none⟩) 64 64);rw [← hv] at BB
     replace BO:=BO.set_ 2 (.slice (some ⟨gA,0,none⟩) 64 64);rw [← hv] at BO
     replace b1:=b1.setCell (p:=⟨o,2,none⟩) hn (.slice (some ⟨gA,0,none⟩) 64 64);rw [← hv] at b1
     replace hXu:=BX.lt
     rw [← hv];clear hv
     refine m_keep ⟨BX.cell 0,BO.cell 0⟩ ?_
     exact HL (gA,gB) _ _ _ rfl rfl ⟨rfl,b1,by have:=b1.size;omega,BX,BO,BA,BB,BG⟩
    ·have c2:=BO.cell 2;have f2:=BO.frozen 2;have l2:=BO.lt
     go_wp2_with fail
     clear c2 f2 l2
     obtain ⟨v19,hv⟩:∃ V,V=v16.setCell ⟨o,2,none⟩ (.slice (some ⟨gA,0,none⟩) 64 64):=⟨_,rfl⟩
     replace BX:=BX.far (p:=⟨o,2,none⟩) (BX.ne_ BO (by decide)) (.slice (some ⟨gA,0,none⟩) 64 64);rw [← hv] at BX
     replace BG:=BG.far (p:=⟨o,2,none⟩) (BG.ne_ BO (by decide)) (.slice (some ⟨gA,0,none⟩) 64 64);rw [← hv] at BG
     replace BA:=BA.far (p:=⟨o,2,none⟩) (BA.ne_ BO (by decide)) (.slice (some ⟨gA,0,none⟩) 64 64);rw [← hv] at BA
     replace BB:=BB.far (p:=⟨o,2,none⟩) (BB.ne_ BO (by decide)) (.slice (some ⟨gA,0,none⟩) 64 64);rw [← hv] at BB
     replace BO:=BO.set_ 2 (.slice (some ⟨gA,0,none⟩) 64 64);rw [← hv] at BO
     replace b1:=b1.setCell (p:=⟨o,2,none⟩) hn (.slice (some ⟨gA,0,none⟩) 64 64);rw [← hv] at b1
     replace hXu:=BX.lt
     rw [← hv];clear hv
     refine m_keep ⟨BX.cell 0,BO.cell 0⟩ ?_
     refine m_s1 1 (by kernel_rfl) rfl ?_
     have x0:=BX.cell 0;have lx:=BX.lt
     go_wp2_with fail
     clear x0 lx
     refine m_keep ⟨BX.cell 0,BO.cell 0⟩ ?_
     exact HL (gA,gB) _ _ _ rfl rfl ⟨rfl,b1,by have:=b1.size;omega,BX,BO,BA,BB,BG⟩
   ·have c2:=BO.cell 2;have f2:=BO.frozen 2;have l2:=BO.lt
    go_wp2_with fail
    clear c2 f2 l2
    obtain ⟨v21,hv⟩:∃ V,V=v10.setCell ⟨o,2,none⟩ (.slice (some ⟨gA,0,none⟩) 64 64):=⟨_,rfl⟩
    replace BX:=BX.far (p:=⟨o,2,none⟩) (BX.ne_ BO (by decide)) (.slice (some ⟨gA,0,none⟩) 64 64);rw [← hv] at BX
    replace BG:=BG.far (p:=⟨o,2,none⟩) (BG.ne_ BO (by decide)) (.slice (some ⟨gA,0,none⟩) 64 64);rw [← hv] at BG
    replace BA:=BA.far (p:=⟨o,2,none⟩) (BA.ne_ BO (by decide)) (.slice (some ⟨gA,0,none⟩) 64 64);rw [← hv] at BA
    replace BO:=BO.set_ 2 (.slice (some ⟨gA,0,none⟩) 64 64);rw [← hv] at BO
    replace b1:=b1.setCell (p:=⟨o,2,none⟩) hn (.slice (some ⟨gA,0,none⟩) 64 64);rw [← hv] at b1
    replace hXu:=BX.lt
    rw [← hv];clear hv
    refine m_keep ⟨BX.cell 0,BO.cell 0⟩ ?_
    refine m_s2 1 11 (by kernel_rfl) rfl rfl ?_ ?_
    ·have x0:=BX.cell 0;have lx:=BX.lt
     go_wp2_with fail
     clear x0 lx
     refine m_keep ⟨BX.cell 0,BO.cell 0⟩ ?_
     refine m_s1 11 (by kernel_rfl) rfl ?_
     have hmk:(Instr.makeSlice 67 (.int .i64 64) (.int .i64 64)).run Tryz.prog v21=_:=makeSets_run 64 (by decide) v21
     go_wp2_with fail
     clear hmk
     refine absN fun v23 BB hb hz=>?_
     obtain ⟨gB,hgB⟩:∃ x,x=v21.heap.size:=⟨_,rfl⟩
     rw [← hgB] at BB ⊢
     have lgB:X < gB:=by omega
     clear hz hgB
     replace b1:=b1.trans (hb.mono (by have:=b1.size;omega))
     replace BX:=BX.below hb BX.lt;replace BO:=BO.below hb BO.lt;replace BG:=BG.below hb BG.lt;replace BA:=BA.below hb BA.lt
     replace hXu:=Nat.lt_of_lt_of_le hXu hb.size
     clear hb
     refine m_keep ⟨BX.cell 0,BO.cell 0⟩ ?_
     exact HL (gA,gB) _ _ _ rfl rfl ⟨rfl,b1,by have:=b1.size;omega,BX,BO,BA,BB,BG⟩
    ·have hmk:(Instr.makeSlice 67 (.int .i64 64) (.int .i64 64)).run Tryz.prog v21=_:=makeSets_run 64 (by decide) v21
     go_wp2_with fail
     clear hmk
     refine absN fun v24 BB hb hz=>?_
     obtain ⟨gB,hgB⟩:∃ x,x=v21.heap.size:=⟨_,rfl⟩
     rw [← hgB] at BB ⊢
     have lgB:X < gB:=by omega
     clear hz hgB
     replace b1:=b1.trans (hb.mono (by have:=b1.size;omega))
     replace BX:=BX.below hb BX.lt;replace BO:=BO.below hb BO.lt;replace BG:=BG.below hb BG.lt;replace BA:=BA.below hb BA.lt
     replace hXu:=Nat.lt_of_lt_of_le hXu hb.size
     clear hb
     refine m_keep ⟨BX.cell 0,BO.cell 0⟩ ?_
     refine m_s1 1 (by kernel_rfl) rfl ?_
     have x0:=BX.cell 0;have lx:=BX.lt
     go_wp2_with fail
     clear x0 lx
     refine m_keep ⟨BX.cell 0,BO.cell 0⟩ ?_
     exact HL (gA,gB) _ _ _ rfl rfl ⟨rfl,b1,by have:=b1.size;omega,BX,BO,BA,BB,BG⟩
  ·have hmk:(Instr.makeSlice 67 (.int .i64 64) (.int .i64 64)).run Tryz.prog v0=_:=makeSets_run 64 (by decide) v0
   go_wp2_with fail
   clear hmk
   refine absN fun v26 BB hb hz=>?_
   obtain ⟨gB,hgB⟩:∃ x,x=v0.heap.size:=⟨_,rfl⟩
   rw [← hgB] at BB ⊢
   have lgB:X < gB:=by omega
   clear hz hgB
   replace b1:=b1.trans (hb.mono (by have:=b1.size;omega))
   replace BX:=BX.below hb BX.lt;replace BO:=BO.below hb BO.lt;replace BG:=BG.below hb BG.lt
   replace hXu:=Nat.lt_of_lt_of_le hXu hb.size
   clear hb
   refine m_keep ⟨BX.cell 0,BO.cell 0⟩ ?_
   refine m_s2 1 6 (by kernel_rfl) rfl rfl ?_ ?_
   ·have x0:=BX.cell 0;have lx:=BX.lt
    go_wp2_with fail
    clear x0 lx
    refine m_keep ⟨BX.cell 0,BO.cell 0⟩ ?_
    refine m_s1 6 (by kernel_rfl) rfl ?_
    have hmk:(Instr.makeSlice 67 (.int .i64 64) (.int .i64 64)).run Tryz.prog v26=_:=makeSets_run 64 (by decide) v26
    go_wp2_with fail
    clear hmk
    refine absN fun v28 BA hb hz=>?_
    obtain ⟨gA,hgA⟩:∃ x,x=v26.heap.size:=⟨_,rfl⟩
    rw [← hgA] at BA ⊢
    have lgA:X < gA:=by omega
    clear hz hgA
    replace b1:=b1.trans (hb.mono (by have:=b1.size;omega))
    replace BX:=BX.below hb BX.lt;replace BO:=BO.below hb BO.lt;replace BG:=BG.below hb BG.lt;replace BB:=BB.below hb BB.lt
    replace hXu:=Nat.lt_of_lt_of_le hXu hb.size
    clear hb
    refine m_keep ⟨BX.cell 0,BO.cell 0⟩ ?_
    (refine m_q 12 (v:=?_) (by kernel_rfl) rfl rfl (fun W hW=>?_) ?_;rotate_left;(go_simp;first | done | with_reducible rfl);simp only [pt1,pt3,pt4,pt5]);(refine m_q 13 (v:=?_) (by kernel_rfl) rfl rfl (fun W hW=>?_) ?_;rotate_left;(go_simp;first | done | with_reducible rfl);simp only [pt1,pt3,pt4,pt5])
    refine m_s1 14 (by kernel_rfl) rfl ?_
    have c2:=BO.cell 2;have f2:=BO.frozen 2;have l2:=BO.lt
    go_wp2_with fail
    clear c2 f2 l2
    obtain ⟨v29,hv⟩:∃ V,V=v28.setCell ⟨o,2,none⟩ (.slice (some ⟨gA,0,none⟩) 64 64):=⟨_,rfl⟩
    replace BX:=BX.far (p:=⟨o,2,none⟩) (BX.ne_ BO (by decide)) (.slice (some ⟨gA,0,none⟩) 64 64);rw [← hv] at BX
    replace BG:=BG.far (p:=⟨o,2,none⟩) (BG.ne_ BO (by decide)) (.slice (some ⟨gA,0,none⟩) 64 64);rw [← hv] at BG
    replace BB:=BB.far (p:=⟨o,2,none⟩) (BB.ne_ BO (by decide)) (.slice (some ⟨gA,0,none⟩) 64 64);rw [← hv] at BB
    replace BA:=BA.far (p:=⟨o,2,none⟩) (BA.ne_ BO (by decide)) (.slice (some ⟨gA,0,none⟩) 64 64);rw [← hv] at BA
    replace BO:=BO.set_ 2 (.slice (some ⟨gA,0,none⟩) 64 64);rw [← hv] at BO
    replace b1:=b1.setCell (p:=⟨o,2,none⟩) hn (.slice (some ⟨gA,0,none⟩) 64 64);rw [← hv] at b1
    replace hXu:=BX.lt
    rw [← hv];clear hv
    refine m_keep ⟨BX.cell 0,BO.cell 0⟩ ?_
    exact HL (gA,gB) _ _ _ rfl rfl ⟨rfl,b1,by have:=b1.size;omega,BX,BO,BA,BB,BG⟩
   ·have hmk:(Instr.makeSlice 67 (.int .i64 64) (.int .i64 64)).run Tryz.prog v26=_:=makeSets_run 64 (by decide) v26
    go_wp2_with fail
    clear hmk
    refine absN fun v30 BA hb hz=>?_
    obtain ⟨gA,hgA⟩:∃ x,x=v26.heap.size:=⟨_,rfl⟩
    rw [← hgA] at BA ⊢
    have lgA:X < gA:=by omega
    clear hz hgA
    replace b1:=b1.trans (hb.mono (by have:=b1.size;omega))
    replace BX:=BX.below hb BX.lt;replace BO:=BO.below hb BO.lt;replace BG:=BG.below hb BG.lt;replace BB:=BB.below hb BB.lt
    replace hXu:=Nat.lt_of_lt_of_le hXu hb.size
    clear hb
    refine m_keep ⟨BX.cell 0,BO.cell 0⟩ ?_
    (refine m_q 12 (v:=?_) (by kernel_rfl) rfl rfl (fun W hW=>?_) ?_;rotate_left;(go_simp;first | done | with_reducible rfl);simp only [pt1,pt3,pt4,pt5]);(refine m_q 13 (v:=?_) (by kernel_rfl) rfl rfl (fun W hW=>?_) ?_;rotate_left;(go_simp;first | done | with_reducible rfl);simp only [pt1,pt3,pt4,pt5])
    refine m_s2 1 14 (by kernel_rfl) rfl rfl ?_ ?_
    ·have x0:=BX.cell 0;have lx:=BX.lt
     go_wp2_with fail
     clear x0 lx
     refine m_keep ⟨BX.cell 0,BO.cell 0⟩ ?_
     refine m_s1 14 (by kernel_rfl) rfl ?_
     have c2:=BO.cell 2;have f2:=BO.frozen 2;have l2:=BO.lt
     go_wp2_with fail
     clear c2 f2 l2
     obtain ⟨v32,hv⟩:∃ V,V=v30.setCell ⟨o,2,none⟩ (.slice (some ⟨gA,0,none⟩) 64 64):=⟨_,rfl⟩
     replace BX:=BX.far (p:=⟨o,2,none⟩) (BX.ne_ BO (by decide)) (.slice (some ⟨gA,0,none⟩) 64 64);rw [← hv] at BX
     replace BG:=BG.far (p:=⟨o,2,none⟩) (BG.ne_ BO (by decide)) (.slice (some ⟨gA,0,none⟩) 64 64);rw [← hv] at BG
     replace BB:=BB.far (p:=⟨o,2,none⟩) (BB.ne_ BO (by decide)) (.slice (some ⟨gA,0,none⟩) 64 64);rw [← hv] at BB
     replace BA:=BA.far (p:=⟨o,2,none⟩) (BA.ne_ BO (by decide)) (.slice (some ⟨gA,0,none⟩) 64 64);rw [← hv] at BA
     replace BO:=BO.set_ 2 (.slice (some ⟨gA,0,none⟩) 64 64);rw [← hv] at BO
     replace b1:=b1.setCell (p:=⟨o,2,none⟩) hn (.slice (some ⟨gA,0,none⟩) 64 64);rw [← hv] at b1
     replace hXu:=BX.lt
     rw [← hv];clear hv
     refine m_keep ⟨BX.cell 0,BO.cell 0⟩ ?_
     exact HL (gA,gB) _ _ _ rfl rfl ⟨rfl,b1,by have:=b1.size;omega,BX,BO,BA,BB,BG⟩
    ·have c2:=BO.cell 2;have f2:=BO.frozen 2;have l2:=BO.lt
     go_wp2_with fail
     clear c2 f2 l2
     obtain ⟨v33,hv⟩:∃ V,V=v30.setCell ⟨o,2,none⟩ (.slice (some ⟨gA,0,none⟩) 64 64):=⟨_,rfl⟩
     replace BX:=BX.far (p:=⟨o,2,none⟩) (BX.ne_ BO (by decide)) (.slice (some ⟨gA,0,none⟩) 64 64);rw [← hv] at BX
     replace BG:=BG.far (p:=⟨o,2,none⟩) (BG.ne_ BO (by decide)) (.slice (some ⟨gA,0,none⟩) 64 64);rw [← hv] at BG
     replace BB:=BB.far (p:=⟨o,2,none⟩) (BB.ne_ BO (by decide)) (.slice (some ⟨gA,0,none⟩) 64 64);rw [← hv] at BB
     replace BA:=BA.far (p:=⟨o,2,none⟩) (BA.ne_ BO (by decide)) (.slice (some ⟨gA,0,none⟩) 64 64);rw [← hv] at BA
     replace BO:=BO.set_ 2 (.slice (some ⟨gA,0,none⟩) 64 64);rw [← hv] at BO
     replace b1:=b1.setCell (p:=⟨o,2,none⟩) hn (.slice (some ⟨gA,0,none⟩) 64 64);rw [← hv] at b1
     replace hXu:=BX.lt
     rw [← hv];clear hv
     refine m_keep ⟨BX.cell 0,BO.cell 0⟩ ?_
     refine m_s1 1 (by kernel_rfl) rfl ?_
     have x0:=BX.cell 0;have lx:=BX.lt
     go_wp2_with fail
     clear x0 lx
     refine m_keep ⟨BX.cell 0,BO.cell 0⟩ ?_
     exact HL (gA,gB) _ _ _ rfl rfl ⟨rfl,b1,by have:=b1.size;omega,BX,BO,BA,BB,BG⟩
 case lf =>
  rintro ⟨gA,gB⟩ f ds v1 ⟨rfl,b1,hv1,BX,BO,BA,BB,BG⟩
  dsimp only at BO BA BB ⊢
  (refine m_q 15 (v:=?_) (by kernel_rfl) rfl rfl (fun W hW=>?_) ?_;rotate_left;(go_simp;first | done | with_reducible rfl);simp only [pt1,pt3,pt4,pt5]);(refine m_q 16 (v:=?_) (by kernel_rfl) rfl rfl (fun W hW=>?_) ?_;rotate_left;(go_simp;first | done | with_reducible rfl);simp only [pt1,pt3,pt4,pt5])
  have c3:=BO.cell 3;have f3:=BO.frozen 3;have l3:=BO.lt
  refine m_s1 17 (by kernel_rfl) rfl ?_
  go_wp2_with fail
  refine m_keep ⟨(BX.far (p:=⟨o,3,none⟩) (BX.ne_ BO (by decide)) _).cell 0,(BO.set_ 3 _).cell 0⟩ ?_
  refine m_end (by kernel_rfl) ?_
  clear c3 f3 l3
  obtain ⟨v2,hv⟩:∃ V,V=v1.setCell ⟨o,3,none⟩ (.slice (some ⟨gB,0,none⟩) 64 64):=⟨_,rfl⟩
  replace BX:=BX.far (p:=⟨o,3,none⟩) (BX.ne_ BO (by decide)) (.slice (some ⟨gB,0,none⟩) 64 64);rw [← hv] at BX
  replace BG:=BG.far (p:=⟨o,3,none⟩) (BG.ne_ BO (by decide)) (.slice (some ⟨gB,0,none⟩) 64 64);rw [← hv] at BG
  replace BA:=BA.far (p:=⟨o,3,none⟩) (BA.ne_ BO (by decide)) (.slice (some ⟨gB,0,none⟩) 64 64);rw [← hv] at BA
  replace BB:=BB.far (p:=⟨o,3,none⟩) (BB.ne_ BO (by decide)) (.slice (some ⟨gB,0,none⟩) 64 64);rw [← hv] at BB
  replace BO:=BO.set_ 3 (.slice (some ⟨gB,0,none⟩) 64 64);rw [← hv] at BO
  replace b1:=b1.setCell (p:=⟨o,3,none⟩) hn (.slice (some ⟨gB,0,none⟩) 64 64);rw [← hv] at b1
  have b2:n0≤v2.heap.size:=Nat.le_trans hw b1.size
  rw [← hv];clear hv
  have x0:=BX.cell 0;have lx:=BX.lt
  have o0:=BO.cell 0;have lo:=BO.lt
  have hmk:(Instr.makeSlice 220 (.int .i64 64) (.int .i64 64)).run Tryz.prog v2=_:=make_ints 64 (by decide) v2
  go_upto_region 3 with fail
  clear hmk x0 lx o0 lo
  refine abs1 fun v3 BD hb hz=>?_
  obtain ⟨gd,hgd⟩:∃ x,x=v2.heap.size:=⟨_,rfl⟩
  rw [← hgd] at BD ⊢
  clear hz hgd
  replace BX:=BX.below hb BX.lt;replace BO:=BO.below hb BO.lt;replace BG:=BG.below hb BG.lt;replace BB:=BB.below hb BB.lt;replace BA:=BA.below hb BA.lt
  replace b1:=b1.trans (hb.mono b2)
  replace b2:=Nat.le_trans b2 hb.size
  clear hb
  have x0:=BX.cell 0
  have o1:=BO.cell 1
  have o4:=BO.cell 4
  go_wp2_with fail
  refine wp_loop_rounds 1 ?_
  rw [rounds_succ]
  go_wp2_with fail
  clear x0 o1 o4
  have HTT:=Lib.hid (hT)
  clear hT
  refine wp_loopF (β:=Nat) (fun k f=>#[f 0,.pointer (some ⟨X,0,none⟩),.slice (some ⟨gd,0,none⟩) 64 64,f 3,f 4,f 5,f 6,f 7,f 8,f 9,f 10,f 11,f 12,f 13,f 14,f 15,f 16,f 17,f 18,f 19,f 20,f 21,f 22,f 23,f 24,f 25,f 26,f 27,f 28,f 29,f 30,f 31,f 32,f 33,f 34,f 35,f 36,f 37,f 38,f 39,f 40,f 41,f 42,f 43,f 44,f 45,f 46,f 47,f 48,f 49,f 50,f 51,f 52,f 53,f 54,f 55,f 56,.slice (some ⟨gs,0,none⟩) 64 c,.int .i64 64,.int .i64 (k:Int),f 60,f 61,f 62,f 63,f 64,f 65,f 66,f 67,f 68,f 69,f 70,f 71,f 72,f 73,f 74,f 75,f 76,f 77,f 78,f 79,f 80,f 81,f 82,f 83,f 84,f 85,f 86,f 87,f 88,f 89,f 90,f 91,f 92,f 93,f 94,f 95,f 96,f 97,f 98,f 99,f 100,f 101,f 102,f 103,f 104,f 105,f 106,f 107,f 108,f 109,f 110,f 111,f 112,f 113,f 114,f 115,f 116,f 117,f 118,f 119,f 120])
   (fun k ds V=>k≤64∧Marks n0 V ds∧Below v3.heap.size v3 V) (fun k=>64-k) 0 rfl
   ⟨Nat.zero_le _,trivial,Below.refl _ _⟩ ?_
  rintro k f ds V0 ⟨hk,hM,hb⟩
  dsimp only at hk ⊢
  by_cases hlt:k < 64
  ·have hb1:=b1.trans (hb.mono b2)
   have ck:V0.cell? ⟨gs,k,none⟩=some (i64 k):=by rw [(BG.below hb BG.lt).cell k];exact HCS.out k hlt
   have hlt':(k:Int) < 64:=by omega
   have hk0:(0:Int)≤(k:Int):=by omega
   go_upto_region 11 with fail
   refine abs1 fun V1 B6 hb6 hz=>?_
   have hbb:=hb.trans (hb6.mono hb.size)
   have hM1:=hM.kd (KeepD.of_below hb6)
   obtain ⟨g6,hg6⟩:∃ x,x=V0.heap.size:=⟨_,rfl⟩
   rw [← hg6] at B6 ⊢
   clear hz hg6 ck hM hb hb6 hb1
   have e6:=B6.cell 0;have l6:=B6.lt
   have dk:V1.cell? ⟨gd,k,none⟩=some (.slice none 0 0):=by rw [(BD.below hbb BD.lt).cell k];simp [zeros,hlt]
   go_wp2_with fail
   refine wp_loop_rounds 1 ?_
   rw [rounds_succ]
   have x0:V1.cell? ⟨X,0,none⟩=some (ptr o):=(BX.below hbb BX.lt).cell 0
   have o2:V1.cell? ⟨o,2,none⟩=some (.slice (some ⟨gA,0,none⟩) 64 64):=(BO.below hbb BO.lt).cell 2
   have ak:V1.cell? ⟨gA,k,none⟩=some (.slice none 0 0):=by rw [(BA.below hbb BA.lt).cell k];simp [zeros,hlt]
   have e6':V1.cell? ⟨g6,0,none⟩=some (.int .i64 (k:Int)):=B6.cell 0
   clear dk e6 l6
   go_wp2_with fail
   refine wp_spine (fun W=>Below V1.heap.size V1 W) [0,1,2,3,4,5,6] [7] (by kernel_rfl) (by kernel_rfl) ?_
   iterate 7 (refine wpE_op (v:=?_) rfl rfl (fun W hW=>?_) ?_;rotate_left;(have z0:=onB hW x0;have z1:=onB hW o2;have z2:=onB hW ak;have z3:=onB hW e6';go_simp;first | done | with_reducible rfl);simp only [pt1,pt3,pt4,pt5])
   have hd:Below V1.heap.size V1 V1.drew:=(Below.refl _ _).drew
   refine wpE_nil ⟨fun h=>(by cases h),wpSp_op rfl hd ?_⟩
   go_wp2_with fail
   refine (all_any none 0 0 V1.drew).mono ?_
   rintro e V2 ⟨rfl,hw2⟩
   have hY:=hw2▸Blk.new V1.drew 58 #[.slice none 0 0]
   have h2:Below V1.heap.size V1 V2:=by rw [hw2];exact hd.alloc (Nat.le_refl _) _
   clear hw2 x0 o2 ak e6'
   replace hbb:=hbb.trans (h2.mono hbb.size)
   replace hM1:=hM1.kd (KeepD.of_below h2)
   obtain ⟨gy,hgy⟩:∃ x,x=V1.drew.heap.size:=⟨_,rfl⟩
   rw [← hgy] at hY ⊢
   have hT2:=HTT.out V2 (b1.trans (hbb.mono b2))
   have hsz:=hbb.size
   have HSZ:=Lib.hid hsz
   clear hgy h2 hd hsz
   go_wp2_with fail
   refine nxt_nil ?_
   go_wp2_with fail
   refine wp_rangeAll (v:=.slice none 0 0) (N:=0) (Bx:=gy) rfl (hY.cell 0) (IsSet.empty _) hT2 rfl
    (fun pre W=>Below V2.heap.size V2 W∧KeepD V2 W) (fun _ _ _=>False)
    ?hI (fun _ _ _ _ _ hs _ _=>hs) ?h0 ?a1 ?assign ?body ?done (fun _ _ _ _ _ h _=>h.elim)
   case assign =>
    intro l x W K hK
    gi_wp2
    exact hK
   case hI =>
    rintro s W W' row ⟨h4,h5⟩ hg hrw
    exact ⟨h4.grown hg h4.size fun k' e=>(hrw k' e).1,h5.grown hg hrw⟩
   case h0=>exact ⟨Below.refl _ _,KeepD.refl _⟩
   case body =>
    rintro l pre x W hx
    simp at hx
   case done =>
    rintro D W hD ⟨h4,h5⟩ hK
    have hM6:=hM1.cons h5 (by have:=HSZ.out;omega) hD hK
    go_wp2_with fail
    exact ⟨k+1,rfl,⟨by omega,hM6,hbb.trans (h4.mono HSZ.out)⟩,by omega⟩
  ·obtain rfl:k=64:=by omega
   go_wp2_with fail
   refine leave_marks (n₀:=n0) ds _ hM fun W' hW'=>?_
   have hBO:=hW'.2 _ _ _ _ (BO.below hb BO.lt)
   have hBB:=hW'.2 _ _ _ _ (BB.below hb BB.lt)
   exact ⟨_,by simp [results,Tryz.results109,go_sem],rfl,(b1.trans (hb.mono b2)).trans hW'.1,gB,_,hBO,hBB⟩
end Mix2
theorem insort_p0 (F:Fn) (x y:Array Value) (a:Option Addr) (c:Nat) (w:World) :
  Calls Tryz.prog 186 #[.slice a 0 c,.int .i64 0,.int .i64 0,.func F x y] w fun e w'=>e=.returned (.tuple #[])∧w'=w:=by
 go_enter Tryz.func186,Tryz.ntmps186
 go_wp2_with fail
 refine wp_loop_rounds 1 ?_
 rw [rounds_succ]
 go_wp2_with fail
 go_end0
 exact ⟨rfl,rfl⟩
theorem pdq_p0 (F:Fn) (x y:Array Value) (a:Option Addr) (c:Nat) (l:Int) (w:World) :
  Calls Tryz.prog 150 #[.slice a 0 c,.int .i64 0,.int .i64 0,.int .i64 l,.func F x y] w fun e w'=>e=.returned (.tuple #[])∧w'=w:=by
 have HI:=hideC (insort_p0 F x y a c w)
 go_enter Tryz.func150,Tryz.ntmps150
 go_wp2_with fail
 refine wp_loop_rounds 1 ?_
 rw [rounds_succ]
 go_wp2_with fail
 refine HI.out.mono ?_
 rintro e w1 ⟨rfl,rfl⟩
 go_wp2_with fail
 refine bodyPost_ret (v:=.tuple #[]) (by simp [results,Tryz.results150,go_sem]) rfl ⟨rfl,rfl⟩
theorem sort_p0 (F:Fn) (x y:Array Value) (a:Option Addr) (c:Nat) (w:World) :
  Calls Tryz.prog 104 #[.slice a 0 c,.func F x y] w fun e w'=>e=.returned (.tuple #[])∧w'=w:=by
 have HB:=hideC (Tryz.bits_Len 0 w (by decide) (by decide))
 go_enter Tryz.func104,Tryz.ntmps104
 go_wp2_with fail
 refine HB.out.mono ?_
 rintro e w1 ⟨rfl,rfl⟩
 go_wp2_with fail
 refine (pdq_p0 F x y a c _ w1).mono ?_
 rintro e w1 ⟨rfl,rfl⟩
 go_wp2_with fail
 go_end0
 exact ⟨rfl,rfl⟩
theorem compact_p0 (a:Option Addr) (c:Nat) (w:World) :
  Calls Tryz.prog 107 #[.slice a 0 c] w fun e w'=>e=.returned (.slice a 0 c)∧w'=w:=by
 go_enter Tryz.func107,Tryz.ntmps107
 go_wp2_with fail
 go_ret
 exact ⟨rfl,rfl⟩
theorem clip_p0 (g c:Nat) (w:World) :
  Calls Tryz.prog 106 #[.slice (some ⟨g,0,none⟩) 0 c] w fun e w'=>e=.returned (.slice (some ⟨g,0,none⟩) 0 0)∧w'=w:=by
 go_enter Tryz.func106,Tryz.ntmps106
 go_wp2_with fail
 go_ret
 exact ⟨rfl,rfl⟩
theorem order_new (w:World) (hT:Tab w) :
  Calls Tryz.prog 62 #[.int .i64 64,.slice none 0 0] w fun e w'=>∃ (o pb gb:Nat) (ab sr:Value),e=pair (ptr o) 0∧Blk w' o 183 #[.int .i64 64,.slice (some ⟨pb,0,none⟩) 0 0,ab,.slice (some ⟨gb,0,none⟩) 64 64,sr]∧Blk w' gb 58 (zeros (.slice none 0 0) 64)∧Below w.heap.size w w':=by
 go_enter Tryz.func62,Tryz.ntmps62
 go_wp2_with fail
 refine wp_loop_rounds 1 ?_
 rw [rounds_succ]
 go_wp2_with fail
 refine absC1 fun u1 BP hb hz=>?_
 clear hz
 refine (sort_p0 _ _ _ _ _ u1).mono ?_
 rintro e u2 ⟨rfl,rfl⟩
 go_wp2_with fail
 refine (compact_p0 _ _ u2).mono ?_
 rintro e u3 ⟨rfl,rfl⟩
 go_wp2_with fail
 refine (clip_p0 _ _ u3).mono ?_
 rintro e u4 ⟨rfl,rfl⟩
 go_upto_region 12 with fail
 refine abs1 fun u5 BO hb5 hz=>?_
 have b5:=hb.trans (hb5.mono hb.size)
 have hln:w.heap.size≤u4.heap.size:=hb.size
 obtain ⟨o,ho⟩:∃ x,x=u4.heap.size:=⟨_,rfl⟩
 rw [← ho] at BO hln ⊢
 have HS:=hideC (sort_o w.heap.size o w.heap.size (.slice none 0 0) (.slice none 0 0) u5 BO hln)
 clear hz ho BP hb hb5
 go_wp2_with fail
 refine HS.out.mono ?_
 rintro e u6 ⟨rfl,hb6,gs,cs,c,BO6,BG6,hcs⟩
 have b6:=b5.trans hb6
 have HR:=hideC (Mix2.relate_o w.heap.size o w.heap.size gs c _ _ cs u6 BO6 BG6 hcs hln b6.size fun V hV=>hT.below (b6.trans hV))
 clear HS BO BO6 BG6 hcs hb6
 go_wp2_with fail
 refine HR.out.mono ?_
 rintro e u7 ⟨rfl,hb7,gb,ab,BO7,BB7⟩
 go_wp2_with fail
 go_ret2
 exact ⟨o,w.heap.size,gb,ab,_,rfl,BO7,BB7,b6.trans hb7⟩
theorem hierarchy_new (w:World) (hT:Tab w) :
  Calls Tryz.prog 18 #[] w fun e w'=>∃ lk,e=.returned (ptr lk)∧IsH w' lk∧Below w.heap.size w w':=by
 have HN:=hideC (order_new w hT)
 go_enter Tryz.func18,Tryz.ntmps18
 go_wp2_with fail
 refine HN.out.mono ?_
 rintro e w1 ⟨o,pb,gb,ab,sr,rfl,BO,BB,hb⟩
 clear HN
 go_wp2_with fail
 go_ret
 exact ⟨w1.heap.size,rfl,⟨o,pb,gb,ab,sr,Blk.new _ _ _,BO.alloc _,BB.alloc _⟩,hb.alloc hb.size _⟩
end Go.Proofs.YtafpmkdlciioaaaGreatDoor
