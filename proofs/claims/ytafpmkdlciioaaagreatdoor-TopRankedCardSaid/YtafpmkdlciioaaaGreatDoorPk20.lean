import Derived.Test.YtafpmkdlciioaaaGreatDoorPk19
import Derived.Test.YtafpmkdlciioaaaGreatDoorPk05
import Derived.Test.YtafpmkdlciioaaaGreatDoorPk04
import Derived.Test.YtafpmkdlciioaaaGreatDoorSortL
set_option maxHeartbeats 16000000
set_option maxRecDepth 100000
namespace Go.Proofs.YtafpmkdlciioaaaGreatDoor
open Go.RowKit Go.Maps
attribute [local go_sem] Oper.semAt_some
def IsS2 (w:World) (s lk g:Nat):Prop :=
 ∃ gl cl m ge ce v,Blk w s 139 #[.int .i64 1,ptr lk,.slice none 0 0,.slice (some ⟨g,0,none⟩) 1 1,.slice none 0 0,.slice none 0 0,.int .i64 10,.slice (some ⟨gl,0,none⟩) 2 cl,.map (some m),.slice (some ⟨ge,0,none⟩) 2 ce] ∧
  w.cell? ⟨gl,0,none⟩=some (.slice none 0 0)∧w.cell? ⟨gl,1,none⟩=some (.int .i64 (-1))∧w.cell? ⟨gl,2,none⟩=some (.int .i64 (-1))∧w.cell? ⟨gl,3,none⟩=some v∧w.cell? ⟨gl,4,none⟩=some (.int .i64 0)∧w.cell? ⟨gl,5,none⟩=some (.int .i64 0) ∧
  w.cell? ⟨ge,0,none⟩=some (.int .i64 1)∧w.cell? ⟨ge,1,none⟩=some (.int .i64 2)∧IsSet w v 2∧2≤cl∧2≤ce
theorem IsS2.below {w w':World} {s lk g:Nat} (h:IsS2 w s lk g) (hb:Below w.heap.size w w'):IsS2 w' s lk g:=by
 obtain ⟨gl,cl,m,ge,ce,v,BS,d0,d1,d2,d3,d4,d5,e0,e1,hs,h1,h2⟩:=h
 exact ⟨gl,cl,m,ge,ce,v,BS.below hb BS.lt,onB hb d0,onB hb d1,onB hb d2,onB hb d3,onB hb d4,onB hb d5,onB hb e0,onB hb e1,hs.below hb,h1,h2⟩
theorem blk_ne_map {w:World} {g b n:Nat} {t k:TypeId} {cs:Array Value} {R:Value→Option (DataW Unit×List MemPlace)} {D:DataW Unit} (h:Blk w g t cs) (hM:w.ownsMap Tryz.prog k R b n D):g≠b:=by
 rintro rfl
 obtain ⟨es,clock,h1,_⟩:=hM
 unfold Blk at h
 rw [h] at h1
 cases h1
theorem appL {l r:Array Value} {i:Nat} {v:Value} (hi:l[i]?=some v):(l ++ r)[i]?=some v:=by
 rw [Array.getElem?_append_left (Array.getElem?_eq_some_iff.1 hi).1];exact hi
theorem appLL {l m r:Array Value} {i:Nat} {v:Value} (hi:(l ++ m)[i]?=some v):(l ++ (m ++ r))[i]?=some v:=by
 rw [← Array.append_assoc];exact appL hi
theorem keepw_map {w w':World} {b n:Nat} {k:TypeId} {R:Value→Option (DataW Unit×List MemPlace)} {D:DataW Unit} (hg:w.grownBy w' (some b)) (hM:w.ownsMap Tryz.prog k R b n D):KeepW w w' :=
 ⟨hg.size,fun g cs h=>h.grown hg (by simpa using blk_ne_map h hM)⟩
theorem look_2 {w:World} {m:Nat} (h:w.ownsMap Tryz.prog 9 (plainElem Tryz.prog 4) m 1 d0M) :
  (Instr.lookup 137 (.map (some m)) (.string ⟨#[2]⟩) false).run Tryz.prog w=.ok (.bool false) w:=by
 obtain ⟨v,ps,hrun,hv⟩:=h.lookup (string_keyed Tryz.underlying9) Tryz.underlying137 (zero_boolT w) (plainElem_bool Tryz.underlying4 false) key_2
 obtain ⟨b',rfl,hb⟩:=plainElem_bool_inv Tryz.underlying4 hv
 rw [show d0M.atKey (.string [2]) (.lit (.bool false))=.lit (.bool false) by rfl] at hb
 simp only [Prod.mk.injEq] at hb
 have:=hb.1
 injection this with this
 injection this with this
 subst this
 exact hrun
namespace Mix2
theorem deepen_1 (n0 s lk g:Nat) (w:World) (hT:Tab w) (hH:IsH w lk) (hR1:IsR1 w g) (h:IsS1 n0 w s lk g) (hn:n0≤w.heap.size) :
  Calls Tryz.prog 111 #[ptr s] w fun e w'=>e=.returned (.tuple #[.bool true,.int .i64 0])∧IsS2 w' s lk g∧Below n0 w w':=by
 obtain ⟨gl,m,ge,BS,BL,BE,hM,hsm,hn1,hn2⟩:=h
 have s0:=BS.cell 0
 have s1:w.cell? ⟨s,1,none⟩=some _:=BS.cell 1
 have s2:w.cell? ⟨s,2,none⟩=some _:=BS.cell 2
 have s3:w.cell? ⟨s,3,none⟩=some _:=BS.cell 3
 have s4:w.cell? ⟨s,4,none⟩=some _:=BS.cell 4
 have s5:w.cell? ⟨s,5,none⟩=some _:=BS.cell 5
 have s6:w.cell? ⟨s,6,none⟩=some _:=BS.cell 6
 have s7:w.cell? ⟨s,7,none⟩=some _:=BS.cell 7
 have s8:w.cell? ⟨s,8,none⟩=some _:=BS.cell 8
 have s9:w.cell? ⟨s,9,none⟩=some _:=BS.cell 9
 have d0:w.cell? ⟨gl,0,none⟩=some _:=BL.cell 0
 have d1:w.cell? ⟨gl,1,none⟩=some _:=BL.cell 1
 have d2:w.cell? ⟨gl,2,none⟩=some _:=BL.cell 2
 have e0:w.cell? ⟨ge,0,none⟩=some _:=BE.cell 0
 have wz:IntKind.i64.wrap 0=0:=by decide
 have wo:IntKind.i64.wrap 1=1:=by decide
 go_enter Tryz.func111,Tryz.ntmps111
 go_wp2_with fail
 refine wp_loop_rounds 2 ?_
 rw [rounds_succ]
 go_wp2_with fail
 refine wp_spine (fun W=>Below w.heap.size w W) [0,1,2,3,4,5,6,7,8,9,10,11,12,13] [] (by kernel_rfl) (by kernel_rfl) ?_
 iterate 14 (refine wpE_op (v:=?_) rfl rfl (fun W hW=>?_) ?_;rotate_left;(have zs9:=onB hW s9;have ze0:=onB hW e0;go_simp;first | done | with_reducible rfl);simp only [pt1,pt3,pt4,pt5])
 refine wpE_nil ⟨fun _=>(Below.refl _ _).drew,wpSp_nil ?_⟩
 go_wp2_with fail
 refine wp_loop_rounds 2 ?_
 rw [rounds_succ]
 have hd0:Below w.heap.size w w.drew:=(Below.refl _ _).drew
 go_wp2_with fail
 obtain ⟨v0,hv0⟩:∃ V,V=w.drew:=⟨_,rfl⟩
 rw [← hv0] at hd0 ⊢;clear hv0
 replace s0:=onB hd0 s0;replace s1:=onB hd0 s1;replace s2:=onB hd0 s2;replace s3:=onB hd0 s3;replace s4:=onB hd0 s4;replace s5:=onB hd0 s5;replace s6:=onB hd0 s6;replace s7:=onB hd0 s7;replace s8:=onB hd0 s8;replace s9:=onB hd0 s9;replace d0:=onB hd0 d0;replace d1:=onB hd0 d1;replace d2:=onB hd0 d2;replace e0:=onB hd0 e0
 replace BS:=BS.below hd0 BS.lt
 replace BL:=BL.below hd0 BL.lt
 replace BE:=BE.below hd0 BE.lt
 replace hM:=ownsMapT_below hM hd0
 replace hT:=hT.below hd0;replace hH:=hH.below hd0;replace hR1:=hR1.below hd0
 refine wp_mix (fun V=>Below v0.heap.size v0 V) 20 (by kernel_rfl) (by kernel_rfl) (Below.refl _ _).drew ?_
 have hr:Below v0.heap.size v0 v0.drew:=(Below.refl _ _).drew
 obtain ⟨v1,hv1⟩:∃ V,V=v0.drew:=⟨_,rfl⟩
 rw [← hv1] at hr ⊢;clear hv1
 (refine m_q 0 (v:=?_) (by kernel_rfl) rfl rfl (fun W hW=>?_) ?_;rotate_left;(have zs0:=onB hW s0;have zs1:=onB hW s1;have zs2:=onB hW s2;have zs3:=onB hW s3;have zs4:=onB hW s4;have zs5:=onB hW s5;have zs7:=onB hW s7;have zd0:=onB hW d0;go_simp;first | done | with_reducible rfl);simp only [pt1,pt3,pt4,pt5]);(refine m_q 1 (v:=?_) (by kernel_rfl) rfl rfl (fun W hW=>?_) ?_;rotate_left;(have zs0:=onB hW s0;have zs1:=onB hW s1;have zs2:=onB hW s2;have zs3:=onB hW s3;have zs4:=onB hW s4;have zs5:=onB hW s5;have zs7:=onB hW s7;have zd0:=onB hW d0;go_simp;first | done | with_reducible rfl);simp only [pt1,pt3,pt4,pt5]);(refine m_q 2 (v:=?_) (by kernel_rfl) rfl rfl (fun W hW=>?_) ?_;rotate_left;(have zs0:=onB hW s0;have zs1:=onB hW s1;have zs2:=onB hW s2;have zs3:=onB hW s3;have zs4:=onB hW s4;have zs5:=onB hW s5;have zs7:=onB hW s7;have zd0:=onB hW d0;go_simp;first | done | with_reducible rfl);simp only [pt1,pt3,pt4,pt5]);(refine m_q 3 (v:=?_) (by kernel_rfl) rfl rfl (fun W hW=>?_) ?_;rotate_left;(have zs0:=onB hW s0;have zs1:=onB hW s1;have zs2:=onB hW s2;have zs3:=onB hW s3;have zs4:=onB hW s4;have zs5:=onB hW s5;have zs7:=onB hW s7;have zd0:=onB hW d0;go_simp;first | done | with_reducible rfl);simp only [pt1,pt3,pt4,pt5]);(refine m_q 4 (v:=?_) (by kernel_rfl) rfl rfl (fun W hW=>?_) ?_;rotate_left;(have zs0:=onB hW s0;have zs1:=onB hW s1;have zs2:=onB hW s2;have zs3:=onB hW s3;have zs4:=onB hW s4;have zs5:=onB hW s5;have zs7:=onB hW s7;have zd0:=onB hW d0;go_simp;first | done | with_reducible rfl);simp only [pt1,pt3,pt4,pt5]);(refine m_q 5 (v:=?_) (by kernel_rfl) rfl rfl (fun W hW=>?_) ?_;rotate_left;(have zs0:=onB hW s0;have zs1:=onB hW s1;have zs2:=onB hW s2;have zs3:=onB hW s3;have zs4:=onB hW s4;have zs5:=onB hW s5;have zs7:=onB hW s7;have zd0:=onB hW d0;go_simp;first | done | with_reducible rfl);simp only [pt1,pt3,pt4,pt5]);(refine m_q 6 (v:=?_) (by kernel_rfl) rfl rfl (fun W hW=>?_) ?_;rotate_left;(have zs0:=onB hW s0;have zs1:=onB hW s1;have zs2:=onB hW s2;have zs3:=onB hW s3;have zs4:=onB hW s4;have zs5:=onB hW s5;have zs7:=onB hW s7;have zd0:=onB hW d0;go_simp;first | done | with_reducible rfl);simp only [pt1,pt3,pt4,pt5]);(refine m_q 7 (v:=?_) (by kernel_rfl) rfl rfl (fun W hW=>?_) ?_;rotate_left;(have zs0:=onB hW s0;have zs1:=onB hW s1;have zs2:=onB hW s2;have zs3:=onB hW s3;have zs4:=onB hW s4;have zs5:=onB hW s5;have zs7:=onB hW s7;have zd0:=onB hW d0;go_simp;first | done | with_reducible rfl);simp only [pt1,pt3,pt4,pt5]);(refine m_q 8 (v:=?_) (by kernel_rfl) rfl rfl (fun W hW=>?_) ?_;rotate_left;(have zs0:=onB hW s0;have zs1:=onB hW s1;have zs2:=onB hW s2;have zs3:=onB hW s3;have zs4:=onB hW s4;have zs5:=onB hW s5;have zs7:=onB hW s7;have zd0:=onB hW d0;go_simp;first | done | with_reducible rfl);simp only [pt1,pt3,pt4,pt5]);(refine m_q 9 (v:=?_) (by kernel_rfl) rfl rfl (fun W hW=>?_) ?_;rotate_left;(have zs0:=onB hW s0;have zs1:=onB hW s1;have zs2:=onB hW s2;have zs3:=onB hW s3;have zs4:=onB hW s4;have zs5:=onB hW s5;have zs7:=onB hW s7;have zd0:=onB hW d0;go_simp;first | done | with_reducible rfl);simp only [pt1,pt3,pt4,pt5]);(refine m_q 10 (v:=?_) (by kernel_rfl) rfl rfl (fun W hW=>?_) ?_;rotate_left;(have zs0:=onB hW s0;have zs1:=onB hW s1;have zs2:=onB hW s2;have zs3:=onB hW s3;have zs4:=onB hW s4;have zs5:=onB hW s5;have zs7:=onB hW s7;have zd0:=onB hW d0;go_simp;first | done | with_reducible rfl);simp only [pt1,pt3,pt4,pt5]);(refine m_q 11 (v:=?_) (by kernel_rfl) rfl rfl (fun W hW=>?_) ?_;rotate_left;(have zs0:=onB hW s0;have zs1:=onB hW s1;have zs2:=onB hW s2;have zs3:=onB hW s3;have zs4:=onB hW s4;have zs5:=onB hW s5;have zs7:=onB hW s7;have zd0:=onB hW d0;go_simp;first | done | with_reducible rfl);simp only [pt1,pt3,pt4,pt5]);(refine m_q 12 (v:=?_) (by kernel_rfl) rfl rfl (fun W hW=>?_) ?_;rotate_left;(have zs0:=onB hW s0;have zs1:=onB hW s1;have zs2:=onB hW s2;have zs3:=onB hW s3;have zs4:=onB hW s4;have zs5:=onB hW s5;have zs7:=onB hW s7;have zd0:=onB hW d0;go_simp;first | done | with_reducible rfl);simp only [pt1,pt3,pt4,pt5])
 refine m_join (β:=Nat×Option Addr×Nat×Nat) #[true,true,true,true,true,true,true,true,true,true,true,true,true,true,true,true,true,true,false,false] 2 (fun b f=>#[ptr s,f 1,f 2,f 3,.int .i64 0,.int .i64 1,.int .i64 0,.int .i64 0,ptr b.1,f 9,f 10,f 11,f 12,f 13,f 14,f 15,f 16,f 17,f 18,f 19,f 20,f 21,f 22,f 23,f 24,f 25,f 26,f 27,f 28,f 29,f 30,f 31,f 32,f 33,f 34,f 35,f 36,f 37,f 38,f 39,f 40,f 41,f 42,f 43,f 44,f 45,.slice (some ⟨g,0,none⟩) 1 1,.int .i64 1,.int .i64 0,f 49,f 50,f 51,f 52,f 53,f 54,f 55,f 56,f 57,f 58,f 59,f 60,f 61,f 62,f 63,f 64,f 65,.agg #[.slice b.2.1 b.2.2.1 b.2.2.2],.bool true,f 68,f 69,f 70,f 71,f 72,f 73,f 74,f 75,f 76,f 77,f 78,f 79,f 80,f 81,f 82,f 83,f 84,f 85,f 86,f 87,f 88,f 89,f 90,f 91,f 92,f 93,f 94,f 95,f 96,f 97,f 98,f 99,f 100,f 101,f 102,f 103,f 104,f 105,f 106,f 107,f 108,f 109,f 110,f 111,f 112,f 113,f 114,f 115,f 116,f 117,f 118,f 119,f 120,f 121,f 122,f 123,f 124,f 125,f 126,f 127,f 128,f 129,f 130,f 131,f 132,f 133,f 134,f 135,f 136,f 137,f 138,f 139,f 140,f 141,f 142]) (fun b ds V=>ds=[]∧Below v0.heap.size v0 V∧v0.heap.size≤b.1∧Blk V b.1 58 #[.slice none 0 0]∧IsSet V (.slice b.2.1 b.2.2.1 b.2.2.2) 2) ?lf ?tr
 case tr =>
  intro HL
  refine m_s2 13 17 (by kernel_rfl) rfl rfl ?_ ?_
  ·have HS:=hideC (step_yes lk g (.slice none 0 0) v1 (hT.below hr) (hH.below hr) (hR1.below hr) (IsSet.empty _))
   rw [pV_eq] at HS
   go_wp2_with fail
   refine HS.out.mono ?_
   rintro e v2 ⟨A,n,c,rfl,hs2,hb⟩
   have hr2:=hr.trans (hb.mono hr.size)
   go_wp2_with fail
   refine m_keep hr2 ?_
   (refine m_q 14 (v:=?_) (by kernel_rfl) rfl rfl (fun W hW=>?_) ?_;rotate_left;(go_simp;first | done | with_reducible rfl);simp only [pt1,pt3,pt4,pt5]);(refine m_q 15 (v:=?_) (by kernel_rfl) rfl rfl (fun W hW=>?_) ?_;rotate_left;(go_simp;first | done | with_reducible rfl);simp only [pt1,pt3,pt4,pt5]);(refine m_q 16 (v:=?_) (by kernel_rfl) rfl rfl (fun W hW=>?_) ?_;rotate_left;(go_simp;first | done | with_reducible rfl);simp only [pt1,pt3,pt4,pt5])
   refine m_s1 17 (by kernel_rfl) rfl ?_
   go_wp2_with fail
   refine absN fun v3 B8 hb hz=>?_
   clear hz
   refine m_keep (hr2.trans (hb.mono hr2.size)) ?_
   exact HL (v2.heap.size,A,n,c) _ _ _ rfl rfl ⟨rfl,hr2.trans (hb.mono hr2.size),hr2.size,B8,hs2.below hb⟩
  ·go_wp2_with fail
   refine absN fun v2 B8 hb hz=>?_
   clear hz
   have hr2:=hr.trans (hb.mono hr.size)
   refine m_keep hr2 ?_
   have HS:=hideC (step_yes lk g (.slice none 0 0) v2 (hT.below hr2) (hH.below hr2) (hR1.below hr2) (IsSet.empty _))
   rw [pV_eq] at HS
   refine m_s1 13 (by kernel_rfl) rfl ?_
   go_wp2_with fail
   refine HS.out.mono ?_
   rintro e v3 ⟨A,n,c,rfl,hs2,hb3⟩
   have hr3:=hr2.trans (hb3.mono hr2.size)
   go_wp2_with fail
   refine m_keep hr3 ?_
   (refine m_q 14 (v:=?_) (by kernel_rfl) rfl rfl (fun W hW=>?_) ?_;rotate_left;(go_simp;first | done | with_reducible rfl);simp only [pt1,pt3,pt4,pt5]);(refine m_q 15 (v:=?_) (by kernel_rfl) rfl rfl (fun W hW=>?_) ?_;rotate_left;(go_simp;first | done | with_reducible rfl);simp only [pt1,pt3,pt4,pt5]);(refine m_q 16 (v:=?_) (by kernel_rfl) rfl rfl (fun W hW=>?_) ?_;rotate_left;(go_simp;first | done | with_reducible rfl);simp only [pt1,pt3,pt4,pt5])
   exact HL (v1.heap.size,A,n,c) _ _ _ rfl rfl ⟨rfl,hr3,hr.size,B8.below hb3 B8.lt,hs2⟩
 case lf =>
  rintro ⟨a8,A,n,c⟩ f ds v3 ⟨rfl,hr,ha,B8,hs2⟩
  dsimp only at ha B8 hs2 ⊢
  have c8:=B8.cell 0;have f8:=B8.frozen 0;have l8:=B8.lt
  refine m_s1 18 (by kernel_rfl) rfl ?_
  go_wp2_with fail
  refine m_keep (hr.setCell ha _) ?_
  (refine m_q 19 (v:=?_) (by kernel_rfl) rfl rfl (fun W hW=>?_) ?_;rotate_left;(go_simp;first | done | with_reducible rfl);simp only [pt1,pt3,pt4,pt5])
  refine m_end (by kernel_rfl) ?_
  clear c8 f8 l8
  obtain ⟨v4,hv4⟩:∃ V,V=v3.setCell ⟨a8,0,none⟩ (.slice A n c):=⟨_,rfl⟩
  have hr4:Below v0.heap.size v0 v4:=by rw [hv4];exact hr.setCell ha _
  have B84:Blk v4 a8 58 #[.slice A n c]:=by rw [hv4];exact B8.set_ 0 _
  have hs4:IsSet v4 (.slice A n c) 2:=by rw [hv4];exact hs2.keep (KeepW.setCell B8 (by decide) _)
  rw [← hv4];clear hv4 hr B8 hs2
  replace s0:=onB hr4 s0;replace s1:=onB hr4 s1;replace s2:=onB hr4 s2;replace s3:=onB hr4 s3;replace s4:=onB hr4 s4;replace s5:=onB hr4 s5;replace s6:=onB hr4 s6;replace s7:=onB hr4 s7;replace s8:=onB hr4 s8;replace s9:=onB hr4 s9;replace d0:=onB hr4 d0;replace d1:=onB hr4 d1;replace d2:=onB hr4 d2;replace e0:=onB hr4 e0
  replace BS:=BS.below hr4 BS.lt
  replace BL:=BL.below hr4 BL.lt
  replace BE:=BE.below hr4 BE.lt
  replace hM:=ownsMapT_below hM hr4
  have hbw:=hd0.trans (hr4.mono hd0.size)
  have k8:v4.cell? ⟨a8,0,none⟩=some (.slice A n c):=B84.cell 0
  go_wp2_with fail
  refine wp_spine (fun W=>Below v4.heap.size v4 W) [0,1,2,3,4,5,6,7] [8,9,10,11] (by kernel_rfl) (by kernel_rfl) ?_
  iterate 3 (refine wpE_op (v:=?_) rfl rfl (fun W hW=>?_) ?_;rotate_left;(go_simp;first | done | with_reducible rfl);simp only [pt1,pt3,pt4,pt5])
  iterate 5 (refine wpE_yes (v:=?_) rfl (by rfl) (fun W hW=>?_) ?_;rotate_left;(have zs8:=onB hW s8;have z8:=onB hW k8;go_simp;first | done | with_reducible rfl);simp only [pt1,pt3,pt4,pt5])
  have hd:Below v4.heap.size v4 v4.drew:=(Below.refl _ _).drew
  refine wpE_nil ⟨fun h=>(by cases h),wpSp_op rfl hd ?_⟩
  have HB:=hideC (bytes_2 _ v4.drew (hs4.below hd))
  go_wp2_with fail
  refine HB.out.mono ?_
  rintro e v5 ⟨gB,rfl,hgB,hb⟩
  have h5:=hd.trans hb
  have hcv:=conv_2 gB v5 hgB
  have hlk:=look_2 (ownsMapT_below hM h5)
  clear HB hb hgB
  go_wp2_with fail
  refine nxt_op rfl h5 ?_
  go_wp2_with fail
  refine nxt_op rfl h5 ?_
  go_wp2_with fail
  refine nxt_op rfl h5 ?_
  go_wp2_with fail
  refine nxt_nil ?_
  clear hcv hlk
  go_wp2_with fail
  have hb5:=h5
  replace s0:=onB hb5 s0;replace s1:=onB hb5 s1;replace s2:=onB hb5 s2;replace s3:=onB hb5 s3;replace s4:=onB hb5 s4;replace s5:=onB hb5 s5;replace s6:=onB hb5 s6;replace s7:=onB hb5 s7;replace s8:=onB hb5 s8;replace s9:=onB hb5 s9;replace d0:=onB hb5 d0;replace d1:=onB hb5 d1;replace d2:=onB hb5 d2;replace e0:=onB hb5 e0;replace k8:=onB hb5 k8;replace BS:=BS.below hb5 BS.lt;replace BL:=BL.below hb5 BL.lt;replace BE:=BE.below hb5 BE.lt;replace hM:=ownsMapT_below hM hb5;replace B84:=B84.below hb5 B84.lt;replace hs4:=hs4.below hb5;replace hbw:=hbw.trans (hb5.mono hbw.size)
  clear hb5 h5
  refine wp_spine (fun W=>Below v5.heap.size v5 W) [0,1,2,3,4] [5,6,7] (by kernel_rfl) (by kernel_rfl) ?_
  iterate 5 (refine wpE_op (v:=?_) rfl rfl (fun W hW=>?_) ?_;rotate_left;(have zs8:=onB hW s8;have z8:=onB hW k8;go_simp;first | done | with_reducible rfl);simp only [pt1,pt3,pt4,pt5])
  have hd:Below v5.heap.size v5 v5.drew:=(Below.refl _ _).drew
  refine wpE_nil ⟨fun h=>(by cases h),wpSp_op rfl hd ?_⟩
  have HB:=hideC (bytes_2 _ v5.drew (hs4.below hd))
  go_wp2_with fail
  refine HB.out.mono ?_
  rintro e v6 ⟨gC,rfl,hgC,hb⟩
  have h6:=hd.trans hb
  have hcv:=conv_2 gC v6 hgC
  have hM6:=ownsMapT_below hM h6
  obtain ⟨v7,hrun,-,hg⟩:=hM6.update (string_keyed Tryz.underlying9) Tryz.underlying137 (by unfold maxLen;omega) key_2 (plainElem_bool Tryz.underlying4 true)
  clear HB hb hgC
  go_wp2_with fail
  refine nxt_op rfl h6 ?_
  go_wp2_with fail
  refine nxt_op rfl h6 ?_
  go_wp2_with fail
  refine nxt_nil ?_
  clear hcv hrun
  have gLm:=blk_ne_map BL hM;have gEm:=blk_ne_map BE hM;have g8m:=blk_ne_map B84 hM
  replace BS:=(BS.below h6 BS.lt).grown hg (by simpa using hsm);replace BL:=(BL.below h6 BL.lt).grown hg (by simpa using gLm);replace BE:=(BE.below h6 BE.lt).grown hg (by simpa using gEm);replace B84:=(B84.below h6 B84.lt).grown hg (by simpa using g8m)
  have hnw:n0≤v6.heap.size:=Nat.le_trans hn (Nat.le_trans hbw.size h6.size)
  have bn:Below n0 w v7:=((hbw.mono hn).trans (h6.mono (Nat.le_trans hn hbw.size))).grown hg hnw (fun q hq=>by cases hq;exact hn2)
  have hs7:IsSet v7 (.slice A n c) 2:=(hs4.below h6).keep (keepw_map hg hM6)
  clear s0;clear s1;clear s2;clear s3;clear s4;clear s5;clear s6;clear s7;clear s8;clear s9;clear d0;clear d1;clear d2;clear e0;clear k8
  have s0:v7.cell? ⟨s,0,none⟩=some _:=BS.cell 0
  have s1:v7.cell? ⟨s,1,none⟩=some _:=BS.cell 1
  have s2:v7.cell? ⟨s,2,none⟩=some _:=BS.cell 2
  have s3:v7.cell? ⟨s,3,none⟩=some _:=BS.cell 3
  have s4:v7.cell? ⟨s,4,none⟩=some _:=BS.cell 4
  have s5:v7.cell? ⟨s,5,none⟩=some _:=BS.cell 5
  have s6:v7.cell? ⟨s,6,none⟩=some _:=BS.cell 6
  have s7:v7.cell? ⟨s,7,none⟩=some _:=BS.cell 7
  have s8:v7.cell? ⟨s,8,none⟩=some _:=BS.cell 8
  have s9:v7.cell? ⟨s,9,none⟩=some _:=BS.cell 9
  have d0:v7.cell? ⟨gl,0,none⟩=some _:=BL.cell 0
  have d1:v7.cell? ⟨gl,1,none⟩=some _:=BL.cell 1
  have d2:v7.cell? ⟨gl,2,none⟩=some _:=BL.cell 2
  have e0:v7.cell? ⟨ge,0,none⟩=some _:=BE.cell 0
  have k8:v7.cell? ⟨a8,0,none⟩=some _:=B84.cell 0
  clear hM hM6 h6 hg hs4 hbw
  go_wp2_with fail
  refine wp_spine (fun W=>Below v7.heap.size v7 W) [0,1,2,3,4,5,6,7] [8,9,10,11,12,13] (by kernel_rfl) (by kernel_rfl) ?_
  iterate 8 (refine wpE_op (v:=?_) rfl rfl (fun W hW=>?_) ?_;rotate_left;(have zs7:=onB hW s7;have z8:=onB hW k8;go_simp;first | done | with_reducible rfl);simp only [pt1,pt3,pt4,pt5])
  have hd:Below v7.heap.size v7 v7.drew:=(Below.refl _ _).drew
  refine wpE_nil ⟨fun h=>(by cases h),wpSp_op rfl hd ?_⟩
  go_wp2_with fail
  refine nxt_op rfl hd ?_
  go_wp2_with fail
  refine absND fun v8 BN h8 hz=>?_
  clear hz
  have n0c:v8.cell? ⟨v7.heap.size,0,none⟩=some _:=BN.cell 0
  have n1c:v8.cell? ⟨v7.heap.size,1,none⟩=some _:=BN.cell 1
  have n2c:v8.cell? ⟨v7.heap.size,2,none⟩=some _:=BN.cell 2
  have D0:=onB h8 d0
  have D1:=onB h8 d1
  have D2:=onB h8 d2
  refine nxt_op rfl h8 ?_
  go_wp2_with fail
  have hcl:2≤(Question.appendCap 2 1 141).cut (v8.tape v8.drawn (Question.appendCap 2 1 141)):=by simp only [Question.cut];omega
  generalize (Question.appendCap 2 1 141).cut (v8.tape v8.drawn (Question.appendCap 2 1 141))=cl at hcl ⊢
  refine absND fun v9 BQ hb hz=>?_
  clear hz
  have h9:=h8.trans (hb.mono h8.size)
  clear n0c n1c n2c D0 D1 D2
  refine nxt_op rfl h9 ?_
  go_wp2_with fail
  refine nxt_op rfl h9 ?_
  go_wp2_with fail
  have BS9:=BS.below h9 BS.lt
  have C7:=BS9.cell 7;have F7:=BS9.frozen 7;have l7:=BS9.lt
  refine nxt_op rfl h9 ?_
  go_wp2_with fail
  refine nxt_nil ?_
  clear C7 F7 l7
  obtain ⟨gq,hgq⟩:∃ x,x=v8.heap.size:=⟨_,rfl⟩
  rw [← hgq] at BQ ⊢;clear hgq
  obtain ⟨v10,hv10⟩:∃ V,V=v9.setCell ⟨s,7,none⟩ (.slice (some ⟨gq,0,none⟩) 2 cl):=⟨_,rfl⟩
  have BE9:=BE.below h9 BE.lt
  have BSx:=BS9.set_ 7 (.slice (some ⟨gq,0,none⟩) 2 cl);rw [← hv10] at BSx
  have BEx:=BE9.far (p:=⟨s,7,none⟩) (BE9.ne_ BS9 (by decide)) (.slice (some ⟨gq,0,none⟩) 2 cl);rw [← hv10] at BEx
  have BQx:=BQ.far (p:=⟨s,7,none⟩) (BQ.ne_ BS9 (by decide)) (.slice (some ⟨gq,0,none⟩) 2 cl);rw [← hv10] at BQx
  have hs10:IsSet v10 (.slice A n c) 2:=by rw [hv10];exact (hs7.below h9).keep (KeepW.setCell (p:=⟨s,7,none⟩) BS9 (by decide) _)
  have bx:Below n0 w v10:=by rw [hv10];exact (bn.trans (h9.mono (Nat.le_trans hn bn.size))).setCell hn1 _
  rw [← hv10]
  clear hv10 BS9 BE9 BQ hs7 bn h9 h8 hb BN BS BE BL B84 hd k8 e0 s0 s1 s2 s3 s4 s5 s6 s7 s8 s9 d0 d1 d2
  have s0:v10.cell? ⟨s,0,none⟩=some _:=BSx.cell 0
  have s1:v10.cell? ⟨s,1,none⟩=some _:=BSx.cell 1
  have s2:v10.cell? ⟨s,2,none⟩=some _:=BSx.cell 2
  have s3:v10.cell? ⟨s,3,none⟩=some _:=BSx.cell 3
  have s4:v10.cell? ⟨s,4,none⟩=some _:=BSx.cell 4
  have s5:v10.cell? ⟨s,5,none⟩=some _:=BSx.cell 5
  have s6:v10.cell? ⟨s,6,none⟩=some _:=BSx.cell 6
  have s7:v10.cell? ⟨s,7,none⟩=some _:=BSx.cell 7
  have s8:v10.cell? ⟨s,8,none⟩=some _:=BSx.cell 8
  have s9:v10.cell? ⟨s,9,none⟩=some _:=BSx.cell 9
  have e0:v10.cell? ⟨ge,0,none⟩=some _:=BEx.cell 0
  go_wp2_with fail
  refine wp_spine (fun W=>Below v10.heap.size v10 W) [0,1,2,3,4,5,6,7,8,9] [] (by kernel_rfl) (by kernel_rfl) ?_
  iterate 10 (refine wpE_op (v:=?_) rfl rfl (fun W hW=>?_) ?_;rotate_left;(have zs6:=onB hW s6;have zs7:=onB hW s7;go_simp;first | done | with_reducible rfl);simp only [pt1,pt3,pt4,pt5])
  refine wpE_nil ⟨fun _=>(Below.refl _ _).drew,wpSp_nil ?_⟩
  go_wp2_with fail
  rw [rounds_succ]
  go_wp2_with fail
  rw [rounds_succ]
  go_wp2_with fail
  have hdd:Below v10.heap.size v10 v10.drew:=(Below.refl _ _).drew
  obtain ⟨v11,hnew⟩:∃ V,V=v10.drew:=⟨_,rfl⟩
  rw [← hnew] at hdd ⊢;clear hnew
  replace s0:=onB hdd s0;replace s1:=onB hdd s1;replace s2:=onB hdd s2;replace s3:=onB hdd s3;replace s4:=onB hdd s4;replace s5:=onB hdd s5;replace s6:=onB hdd s6;replace s7:=onB hdd s7;replace s8:=onB hdd s8;replace s9:=onB hdd s9;replace e0:=onB hdd e0
  replace BSx:=BSx.below hdd BSx.lt;replace BEx:=BEx.below hdd BEx.lt;replace BQx:=BQx.below hdd BQx.lt
  replace hs10:=hs10.below hdd;replace bx:=bx.trans (hdd.mono (Nat.le_trans hn bx.size))
  clear hdd
  refine wp_spine (fun W=>Below v11.heap.size v11 W) [0,1,2,3,4,5,6,7,8,9,10,11,12,13] [] (by kernel_rfl) (by kernel_rfl) ?_
  iterate 14 (refine wpE_op (v:=?_) rfl rfl (fun W hW=>?_) ?_;rotate_left;(have zs9:=onB hW s9;have ze0:=onB hW e0;go_simp;first | done | with_reducible rfl);simp only [pt1,pt3,pt4,pt5])
  refine wpE_nil ⟨fun _=>(Below.refl _ _).drew,wpSp_nil ?_⟩
  go_wp2_with fail
  have hdd:Below v11.heap.size v11 v11.drew:=(Below.refl _ _).drew
  obtain ⟨v12,hnew⟩:∃ V,V=v11.drew:=⟨_,rfl⟩
  rw [← hnew] at hdd ⊢;clear hnew
  replace s0:=onB hdd s0;replace s1:=onB hdd s1;replace s2:=onB hdd s2;replace s3:=onB hdd s3;replace s4:=onB hdd s4;replace s5:=onB hdd s5;replace s6:=onB hdd s6;replace s7:=onB hdd s7;replace s8:=onB hdd s8;replace s9:=onB hdd s9;replace e0:=onB hdd e0
  replace BSx:=BSx.below hdd BSx.lt;replace BEx:=BEx.below hdd BEx.lt;replace BQx:=BQx.below hdd BQx.lt
  replace hs10:=hs10.below hdd;replace bx:=bx.trans (hdd.mono (Nat.le_trans hn bx.size))
  clear hdd
  refine wp_spine (fun W=>Below v12.heap.size v12 W) [0,1,2,3,4,5,6,7,8,9,10,11,12,13,14,15,16,17] [] (by kernel_rfl) (by kernel_rfl) ?_
  iterate 18 (refine wpE_op (v:=?_) rfl rfl (fun W hW=>?_) ?_;rotate_left;(have zs7:=onB hW s7;have zs9:=onB hW s9;have ze0:=onB hW e0;go_simp;first | done | with_reducible rfl);simp only [pt1,pt3,pt4,pt5])
  refine wpE_nil ⟨fun _=>(Below.refl _ _).drew,wpSp_nil ?_⟩
  go_wp2_with fail
  have hdd:Below v12.heap.size v12 v12.drew:=(Below.refl _ _).drew
  obtain ⟨v13,hnew⟩:∃ V,V=v12.drew:=⟨_,rfl⟩
  rw [← hnew] at hdd ⊢;clear hnew
  replace s0:=onB hdd s0;replace s1:=onB hdd s1;replace s2:=onB hdd s2;replace s3:=onB hdd s3;replace s4:=onB hdd s4;replace s5:=onB hdd s5;replace s6:=onB hdd s6;replace s7:=onB hdd s7;replace s8:=onB hdd s8;replace s9:=onB hdd s9;replace e0:=onB hdd e0
  replace BSx:=BSx.below hdd BSx.lt;replace BEx:=BEx.below hdd BEx.lt;replace BQx:=BQx.below hdd BQx.lt
  replace hs10:=hs10.below hdd;replace bx:=bx.trans (hdd.mono (Nat.le_trans hn bx.size))
  clear hdd
  refine wp_spine (fun W=>Below v13.heap.size v13 W) [0,1,2,3,4,5,6,7,8,9] [10,11,12,13,14] (by kernel_rfl) (by kernel_rfl) ?_
  iterate 10 (refine wpE_op (v:=?_) rfl rfl (fun W hW=>?_) ?_;rotate_left;(have zs7:=onB hW s7;have zs9:=onB hW s9;go_simp;first | done | with_reducible rfl);simp only [pt1,pt3,pt4,pt5])
  have hd:Below v13.heap.size v13 v13.drew:=(Below.refl _ _).drew
  refine wpE_nil ⟨fun h=>(by cases h),wpSp_op rfl hd ?_⟩
  go_wp2_with fail
  refine absND fun v14 BN h14 hz=>?_
  clear hz
  have n0c:v14.cell? ⟨v13.heap.size,0,none⟩=some _:=BN.cell 0
  have E0:=onB h14 e0
  refine nxt_op rfl h14 ?_
  go_wp2_with fail
  have hce:2≤(Question.appendCap 2 1 3).cut (v14.tape v14.drawn (Question.appendCap 2 1 3)):=by simp only [Question.cut];omega
  generalize (Question.appendCap 2 1 3).cut (v14.tape v14.drawn (Question.appendCap 2 1 3))=ce at hce ⊢
  refine absND fun v15 BW hb hz=>?_
  clear hz
  have h15:=h14.trans (hb.mono h14.size)
  clear n0c E0
  refine nxt_op rfl h15 ?_
  go_wp2_with fail
  refine nxt_op rfl h15 ?_
  go_wp2_with fail
  have BS9:=BSx.below h15 BSx.lt
  have C9:=BS9.cell 9;have F9:=BS9.frozen 9;have l9:=BS9.lt
  refine nxt_op rfl h15 ?_
  go_wp2_with fail
  refine nxt_nil ?_
  go_wp2_with fail
  go_ret2
  have BQ9:=BQx.below h15 BQx.lt
  have BQf:=BQ9.far (p:=⟨s,9,none⟩) (BQ9.ne_ BS9 (by decide)) (.slice (some ⟨v14.heap.size,0,none⟩) 2 ce)
  have BWf:=BW.far (p:=⟨s,9,none⟩) (BW.ne_ BS9 (by decide)) (.slice (some ⟨v14.heap.size,0,none⟩) 2 ce)
  refine ⟨rfl,⟨gq,cl,m,v14.heap.size,ce,.slice A n c,BS9.set_ 9 _,(BQf.cell 0).trans (appLL rfl),(BQf.cell 1).trans (appLL rfl),(BQf.cell 2).trans (appLL rfl),(BQf.cell 3).trans (appLL rfl),(BQf.cell 4).trans (appLL rfl),(BQf.cell 5).trans (appLL rfl),(BWf.cell 0).trans (appL rfl),(BWf.cell 1).trans (appL rfl),?_,hcl,hce⟩,?_⟩
  ·exact (hs10.below h15).keep (KeepW.setCell (p:=⟨s,9,none⟩) BS9 (by decide) _)
  ·exact (bx.trans (h15.mono (Nat.le_trans hn bx.size))).setCell hn1 _
theorem deepen_2 (s lk g:Nat) (w:World) (hT:Tab w) (hH:IsH w lk) (hR1:IsR1 w g) (h:IsS2 w s lk g) :
  Calls Tryz.prog 111 #[ptr s] w fun e w'=>e=.returned (.tuple #[.bool false,.int .i64 0])∧IsS2 w' s lk g∧Below w.heap.size w w':=by
 have HK:=Lib.hid h
 obtain ⟨gl,cl,m,ge,ce,v,BS,d0,d1,d2,d3,d4,d5,e0,e1,hsv,hcl,hce⟩:=h
 obtain ⟨Av,cv,rfl,_⟩:=id hsv
 have s0:w.cell? ⟨s,0,none⟩=some _:=BS.cell 0
 have s1:w.cell? ⟨s,1,none⟩=some _:=BS.cell 1
 have s2:w.cell? ⟨s,2,none⟩=some _:=BS.cell 2
 have s3:w.cell? ⟨s,3,none⟩=some _:=BS.cell 3
 have s4:w.cell? ⟨s,4,none⟩=some _:=BS.cell 4
 have s5:w.cell? ⟨s,5,none⟩=some _:=BS.cell 5
 have s6:w.cell? ⟨s,6,none⟩=some _:=BS.cell 6
 have s7:w.cell? ⟨s,7,none⟩=some _:=BS.cell 7
 have s8:w.cell? ⟨s,8,none⟩=some _:=BS.cell 8
 have s9:w.cell? ⟨s,9,none⟩=some _:=BS.cell 9
 have wz:IntKind.i64.wrap 0=0:=by decide
 have wo:IntKind.i64.wrap 1=1:=by decide
 go_enter Tryz.func111,Tryz.ntmps111
 go_wp2_with fail
 refine wp_loop_rounds 2 ?_
 rw [rounds_succ]
 go_wp2_with fail
 refine wp_spine (fun W=>Below w.heap.size w W) [0,1,2,3,4,5,6,7,8,9,10,11,12,13] [] (by kernel_rfl) (by kernel_rfl) ?_
 iterate 14 (refine wpE_op (v:=?_) rfl rfl (fun W hW=>?_) ?_;rotate_left;(have zs9:=onB hW s9;have ze0:=onB hW e0;have ze1:=onB hW e1;go_simp;first | done | with_reducible rfl);simp only [pt1,pt3,pt4,pt5])
 refine wpE_nil ⟨fun _=>(Below.refl _ _).drew,wpSp_nil ?_⟩
 go_wp2_with fail
 refine wp_loop_rounds 2 ?_
 rw [rounds_succ]
 have hd0:Below w.heap.size w w.drew:=(Below.refl _ _).drew
 go_wp2_with fail
 obtain ⟨v0,hv0⟩:∃ V,V=w.drew:=⟨_,rfl⟩
 rw [← hv0] at hd0 ⊢;clear hv0
 replace s0:=onB hd0 s0;replace s1:=onB hd0 s1;replace s2:=onB hd0 s2;replace s3:=onB hd0 s3;replace s4:=onB hd0 s4;replace s5:=onB hd0 s5;replace s6:=onB hd0 s6;replace s7:=onB hd0 s7;replace s8:=onB hd0 s8;replace s9:=onB hd0 s9;replace d0:=onB hd0 d0;replace d1:=onB hd0 d1;replace d2:=onB hd0 d2;replace d3:=onB hd0 d3;replace d4:=onB hd0 d4;replace d5:=onB hd0 d5;replace e0:=onB hd0 e0;replace e1:=onB hd0 e1
 replace BS:=BS.below hd0 BS.lt
 replace hT:=hT.below hd0;replace hH:=hH.below hd0;replace hR1:=hR1.below hd0
 replace hsv:=hsv.below hd0
 refine wp_mix (fun V=>Below v0.heap.size v0 V) 20 (by kernel_rfl) (by kernel_rfl) (Below.refl _ _).drew ?_
 have hr:Below v0.heap.size v0 v0.drew:=(Below.refl _ _).drew
 obtain ⟨v1,hv1⟩:∃ V,V=v0.drew:=⟨_,rfl⟩
 rw [← hv1] at hr ⊢;clear hv1
 (refine m_q 0 (v:=?_) (by kernel_rfl) rfl rfl (fun W hW=>?_) ?_;rotate_left;(have zs0:=onB hW s0;have zs1:=onB hW s1;have zs2:=onB hW s2;have zs3:=onB hW s3;have zs4:=onB hW s4;have zs5:=onB hW s5;have zs7:=onB hW s7;have zd3:=onB hW d3;go_simp;first | done | with_reducible rfl);simp only [pt1,pt3,pt4,pt5]);(refine m_q 1 (v:=?_) (by kernel_rfl) rfl rfl (fun W hW=>?_) ?_;rotate_left;(have zs0:=onB hW s0;have zs1:=onB hW s1;have zs2:=onB hW s2;have zs3:=onB hW s3;have zs4:=onB hW s4;have zs5:=onB hW s5;have zs7:=onB hW s7;have zd3:=onB hW d3;go_simp;first | done | with_reducible rfl);simp only [pt1,pt3,pt4,pt5]);(refine m_q 2 (v:=?_) (by kernel_rfl) rfl rfl (fun W hW=>?_) ?_;rotate_left;(have zs0:=onB hW s0;have zs1:=onB hW s1;have zs2:=onB hW s2;have zs3:=onB hW s3;have zs4:=onB hW s4;have zs5:=onB hW s5;have zs7:=onB hW s7;have zd3:=onB hW d3;go_simp;first | done | with_reducible rfl);simp only [pt1,pt3,pt4,pt5]);(refine m_q 3 (v:=?_) (by kernel_rfl) rfl rfl (fun W hW=>?_) ?_;rotate_left;(have zs0:=onB hW s0;have zs1:=onB hW s1;have zs2:=onB hW s2;have zs3:=onB hW s3;have zs4:=onB hW s4;have zs5:=onB hW s5;have zs7:=onB hW s7;have zd3:=onB hW d3;go_simp;first | done | with_reducible rfl);simp only [pt1,pt3,pt4,pt5]);(refine m_q 4 (v:=?_) (by kernel_rfl) rfl rfl (fun W hW=>?_) ?_;rotate_left;(have zs0:=onB hW s0;have zs1:=onB hW s1;have zs2:=onB hW s2;have zs3:=onB hW s3;have zs4:=onB hW s4;have zs5:=onB hW s5;have zs7:=onB hW s7;have zd3:=onB hW d3;go_simp;first | done | with_reducible rfl);simp only [pt1,pt3,pt4,pt5]);(refine m_q 5 (v:=?_) (by kernel_rfl) rfl rfl (fun W hW=>?_) ?_;rotate_left;(have zs0:=onB hW s0;have zs1:=onB hW s1;have zs2:=onB hW s2;have zs3:=onB hW s3;have zs4:=onB hW s4;have zs5:=onB hW s5;have zs7:=onB hW s7;have zd3:=onB hW d3;go_simp;first | done | with_reducible rfl);simp only [pt1,pt3,pt4,pt5]);(refine m_q 6 (v:=?_) (by kernel_rfl) rfl rfl (fun W hW=>?_) ?_;rotate_left;(have zs0:=onB hW s0;have zs1:=onB hW s1;have zs2:=onB hW s2;have zs3:=onB hW s3;have zs4:=onB hW s4;have zs5:=onB hW s5;have zs7:=onB hW s7;have zd3:=onB hW d3;go_simp;first | done | with_reducible rfl);simp only [pt1,pt3,pt4,pt5]);(refine m_q 7 (v:=?_) (by kernel_rfl) rfl rfl (fun W hW=>?_) ?_;rotate_left;(have zs0:=onB hW s0;have zs1:=onB hW s1;have zs2:=onB hW s2;have zs3:=onB hW s3;have zs4:=onB hW s4;have zs5:=onB hW s5;have zs7:=onB hW s7;have zd3:=onB hW d3;go_simp;first | done | with_reducible rfl);simp only [pt1,pt3,pt4,pt5]);(refine m_q 8 (v:=?_) (by kernel_rfl) rfl rfl (fun W hW=>?_) ?_;rotate_left;(have zs0:=onB hW s0;have zs1:=onB hW s1;have zs2:=onB hW s2;have zs3:=onB hW s3;have zs4:=onB hW s4;have zs5:=onB hW s5;have zs7:=onB hW s7;have zd3:=onB hW d3;go_simp;first | done | with_reducible rfl);simp only [pt1,pt3,pt4,pt5]);(refine m_q 9 (v:=?_) (by kernel_rfl) rfl rfl (fun W hW=>?_) ?_;rotate_left;(have zs0:=onB hW s0;have zs1:=onB hW s1;have zs2:=onB hW s2;have zs3:=onB hW s3;have zs4:=onB hW s4;have zs5:=onB hW s5;have zs7:=onB hW s7;have zd3:=onB hW d3;go_simp;first | done | with_reducible rfl);simp only [pt1,pt3,pt4,pt5]);(refine m_q 10 (v:=?_) (by kernel_rfl) rfl rfl (fun W hW=>?_) ?_;rotate_left;(have zs0:=onB hW s0;have zs1:=onB hW s1;have zs2:=onB hW s2;have zs3:=onB hW s3;have zs4:=onB hW s4;have zs5:=onB hW s5;have zs7:=onB hW s7;have zd3:=onB hW d3;go_simp;first | done | with_reducible rfl);simp only [pt1,pt3,pt4,pt5]);(refine m_q 11 (v:=?_) (by kernel_rfl) rfl rfl (fun W hW=>?_) ?_;rotate_left;(have zs0:=onB hW s0;have zs1:=onB hW s1;have zs2:=onB hW s2;have zs3:=onB hW s3;have zs4:=onB hW s4;have zs5:=onB hW s5;have zs7:=onB hW s7;have zd3:=onB hW d3;go_simp;first | done | with_reducible rfl);simp only [pt1,pt3,pt4,pt5]);(refine m_q 12 (v:=?_) (by kernel_rfl) rfl rfl (fun W hW=>?_) ?_;rotate_left;(have zs0:=onB hW s0;have zs1:=onB hW s1;have zs2:=onB hW s2;have zs3:=onB hW s3;have zs4:=onB hW s4;have zs5:=onB hW s5;have zs7:=onB hW s7;have zd3:=onB hW d3;go_simp;first | done | with_reducible rfl);simp only [pt1,pt3,pt4,pt5])
 refine m_join (β:=Nat×Option Addr×Nat×Nat) #[true,true,true,true,true,true,true,true,true,true,true,true,true,true,true,true,true,true,false,false] 2 (fun b f=>#[ptr s,f 1,f 2,f 3,.int .i64 1,.int .i64 2,.int .i64 1,.int .i64 0,ptr b.1,f 9,f 10,f 11,f 12,f 13,f 14,f 15,f 16,f 17,f 18,f 19,f 20,f 21,f 22,f 23,f 24,f 25,f 26,f 27,f 28,f 29,f 30,f 31,f 32,f 33,f 34,f 35,f 36,f 37,f 38,f 39,f 40,f 41,f 42,f 43,f 44,f 45,.slice (some ⟨g,0,none⟩) 1 1,.int .i64 1,.int .i64 0,f 49,f 50,f 51,f 52,f 53,f 54,f 55,f 56,f 57,f 58,f 59,f 60,f 61,f 62,f 63,f 64,f 65,.agg #[.slice b.2.1 b.2.2.1 b.2.2.2],.bool false,f 68,f 69,f 70,f 71,f 72,f 73,f 74,f 75,f 76,f 77,f 78,f 79,f 80,f 81,f 82,f 83,f 84,f 85,f 86,f 87,f 88,f 89,f 90,f 91,f 92,f 93,f 94,f 95,f 96,f 97,f 98,f 99,f 100,f 101,f 102,f 103,f 104,f 105,f 106,f 107,f 108,f 109,f 110,f 111,f 112,f 113,f 114,f 115,f 116,f 117,f 118,f 119,f 120,f 121,f 122,f 123,f 124,f 125,f 126,f 127,f 128,f 129,f 130,f 131,f 132,f 133,f 134,f 135,f 136,f 137,f 138,f 139,f 140,f 141,f 142]) (fun b ds V=>ds=[]∧Below v0.heap.size v0 V∧v0.heap.size≤b.1∧Blk V b.1 58 #[.slice none 0 0]∧IsSet V (.slice b.2.1 b.2.2.1 b.2.2.2) 0) ?lf ?tr
 case tr =>
  intro HL
  refine m_s2 13 17 (by kernel_rfl) rfl rfl ?_ ?_
  ·have HS:=hideC (step_no lk g (.slice Av (nw 2) cv) v1 (hT.below hr) (hH.below hr) (hR1.below hr) (hsv.below hr))
   rw [pV_eq] at HS
   go_wp2_with fail
   refine HS.out.mono ?_
   rintro e v2 ⟨A,n,c,rfl,hs2,hb⟩
   have hr2:=hr.trans (hb.mono hr.size)
   go_wp2_with fail
   refine m_keep hr2 ?_
   (refine m_q 14 (v:=?_) (by kernel_rfl) rfl rfl (fun W hW=>?_) ?_;rotate_left;(go_simp;first | done | with_reducible rfl);simp only [pt1,pt3,pt4,pt5]);(refine m_q 15 (v:=?_) (by kernel_rfl) rfl rfl (fun W hW=>?_) ?_;rotate_left;(go_simp;first | done | with_reducible rfl);simp only [pt1,pt3,pt4,pt5]);(refine m_q 16 (v:=?_) (by kernel_rfl) rfl rfl (fun W hW=>?_) ?_;rotate_left;(go_simp;first | done | with_reducible rfl);simp only [pt1,pt3,pt4,pt5])
   refine m_s1 17 (by kernel_rfl) rfl ?_
   go_wp2_with fail
   refine absN fun v3 B8 hb hz=>?_
   clear hz
   refine m_keep (hr2.trans (hb.mono hr2.size)) ?_
   exact HL (v2.heap.size,A,n,c) _ _ _ rfl rfl ⟨rfl,hr2.trans (hb.mono hr2.size),hr2.size,B8,hs2.below hb⟩
  ·go_wp2_with fail
   refine absN fun v2 B8 hb hz=>?_
   clear hz
   have hr2:=hr.trans (hb.mono hr.size)
   refine m_keep hr2 ?_
   have HS:=hideC (step_no lk g (.slice Av (nw 2) cv) v2 (hT.below hr2) (hH.below hr2) (hR1.below hr2) (hsv.below hr2))
   rw [pV_eq] at HS
   refine m_s1 13 (by kernel_rfl) rfl ?_
   go_wp2_with fail
   refine HS.out.mono ?_
   rintro e v3 ⟨A,n,c,rfl,hs2,hb3⟩
   have hr3:=hr2.trans (hb3.mono hr2.size)
   go_wp2_with fail
   refine m_keep hr3 ?_
   (refine m_q 14 (v:=?_) (by kernel_rfl) rfl rfl (fun W hW=>?_) ?_;rotate_left;(go_simp;first | done | with_reducible rfl);simp only [pt1,pt3,pt4,pt5]);(refine m_q 15 (v:=?_) (by kernel_rfl) rfl rfl (fun W hW=>?_) ?_;rotate_left;(go_simp;first | done | with_reducible rfl);simp only [pt1,pt3,pt4,pt5]);(refine m_q 16 (v:=?_) (by kernel_rfl) rfl rfl (fun W hW=>?_) ?_;rotate_left;(go_simp;first | done | with_reducible rfl);simp only [pt1,pt3,pt4,pt5])
   exact HL (v1.heap.size,A,n,c) _ _ _ rfl rfl ⟨rfl,hr3,hr.size,B8.below hb3 B8.lt,hs2⟩
 case lf =>
  rintro ⟨a8,A,n,c⟩ f ds v3 ⟨rfl,hr,ha,B8,hs2⟩
  dsimp only at ha B8 hs2 ⊢
  have c8:=B8.cell 0;have f8:=B8.frozen 0;have l8:=B8.lt
  refine m_s1 18 (by kernel_rfl) rfl ?_
  go_wp2_with fail
  refine m_keep (hr.setCell ha _) ?_
  (refine m_q 19 (v:=?_) (by kernel_rfl) rfl rfl (fun W hW=>?_) ?_;rotate_left;(go_simp;first | done | with_reducible rfl);simp only [pt1,pt3,pt4,pt5])
  refine m_end (by kernel_rfl) ?_
  clear c8 f8 l8
  obtain ⟨v4,hv4⟩:∃ V,V=v3.setCell ⟨a8,0,none⟩ (.slice A n c):=⟨_,rfl⟩
  have hr4:Below v0.heap.size v0 v4:=by rw [hv4];exact hr.setCell ha _
  have B84:Blk v4 a8 58 #[.slice A n c]:=by rw [hv4];exact B8.set_ 0 _
  have hs4:IsSet v4 (.slice A n c) 0:=by rw [hv4];exact hs2.keep (KeepW.setCell B8 (by decide) _)
  rw [← hv4];clear hv4 hr B8 hs2
  replace s0:=onB hr4 s0;replace s1:=onB hr4 s1;replace s2:=onB hr4 s2;replace s3:=onB hr4 s3;replace s4:=onB hr4 s4;replace s5:=onB hr4 s5;replace s6:=onB hr4 s6;replace s7:=onB hr4 s7;replace s8:=onB hr4 s8;replace s9:=onB hr4 s9;replace d0:=onB hr4 d0;replace d1:=onB hr4 d1;replace d2:=onB hr4 d2;replace d3:=onB hr4 d3;replace d4:=onB hr4 d4;replace d5:=onB hr4 d5;replace e0:=onB hr4 e0;replace e1:=onB hr4 e1
  replace BS:=BS.below hr4 BS.lt
  have hbw:=hd0.trans (hr4.mono hd0.size)
  have k8:v4.cell? ⟨a8,0,none⟩=some (.slice A n c):=B84.cell 0
  go_wp2_with fail
  refine wp_spine (fun W=>Below v4.heap.size v4 W) [0,1,2,3,4,5,6,7] [8,9,10,11] (by kernel_rfl) (by kernel_rfl) ?_
  iterate 3 (refine wpE_op (v:=?_) rfl rfl (fun W hW=>?_) ?_;rotate_left;(go_simp;first | done | with_reducible rfl);simp only [pt1,pt3,pt4,pt5])
  iterate 5 (refine wpE_no rfl (by rfl) ?_;simp only [pt1,pt3,pt4,pt5])
  have hd:Below v4.heap.size v4 v4.drew:=(Below.refl _ _).drew
  refine wpE_nil ⟨fun h=>(by cases h),wpSp_op rfl hd ?_⟩
  go_wp2_with fail
  refine nxt_op rfl hd ?_
  go_wp2_with fail
  refine nxt_op rfl hd ?_
  go_wp2_with fail
  refine nxt_op rfl hd ?_
  go_wp2_with fail
  refine nxt_nil ?_
  go_wp2_with fail
  rw [rounds_succ]
  go_wp2_with fail
  rw [rounds_succ]
  go_wp2_with fail
  clear hd
  have hdd:Below v4.heap.size v4 v4.drew:=(Below.refl _ _).drew
  obtain ⟨v5,hnew⟩:∃ V,V=v4.drew:=⟨_,rfl⟩
  rw [← hnew] at hdd ⊢;clear hnew
  replace s0:=onB hdd s0;replace s1:=onB hdd s1;replace s2:=onB hdd s2;replace s3:=onB hdd s3;replace s4:=onB hdd s4;replace s5:=onB hdd s5;replace s6:=onB hdd s6;replace s7:=onB hdd s7;replace s8:=onB hdd s8;replace s9:=onB hdd s9;replace d0:=onB hdd d0;replace d1:=onB hdd d1;replace d2:=onB hdd d2;replace d3:=onB hdd d3;replace d4:=onB hdd d4;replace d5:=onB hdd d5;replace e0:=onB hdd e0;replace e1:=onB hdd e1
  replace hbw:=hbw.trans (hdd.mono hbw.size)
  clear hdd
  refine wp_spine (fun W=>Below v5.heap.size v5 W) [0,1,2,3,4,5,6,7,8,9,10,11,12,13] [] (by kernel_rfl) (by kernel_rfl) ?_
  iterate 14 (refine wpE_op (v:=?_) rfl rfl (fun W hW=>?_) ?_;rotate_left;(have zs9:=onB hW s9;have ze0:=onB hW e0;have ze1:=onB hW e1;go_simp;first | done | with_reducible rfl);simp only [pt1,pt3,pt4,pt5])
  refine wpE_nil ⟨fun _=>(Below.refl _ _).drew,wpSp_nil ?_⟩
  go_wp2_with fail
  have hdd:Below v5.heap.size v5 v5.drew:=(Below.refl _ _).drew
  obtain ⟨v6,hnew⟩:∃ V,V=v5.drew:=⟨_,rfl⟩
  rw [← hnew] at hdd ⊢;clear hnew
  replace s0:=onB hdd s0;replace s1:=onB hdd s1;replace s2:=onB hdd s2;replace s3:=onB hdd s3;replace s4:=onB hdd s4;replace s5:=onB hdd s5;replace s6:=onB hdd s6;replace s7:=onB hdd s7;replace s8:=onB hdd s8;replace s9:=onB hdd s9;replace d0:=onB hdd d0;replace d1:=onB hdd d1;replace d2:=onB hdd d2;replace d3:=onB hdd d3;replace d4:=onB hdd d4;replace d5:=onB hdd d5;replace e0:=onB hdd e0;replace e1:=onB hdd e1
  replace hbw:=hbw.trans (hdd.mono hbw.size)
  clear hdd
  refine wp_spine (fun W=>Below v6.heap.size v6 W) [0,1,2,3,4,5,6,7,8,9,10,11,12,13,14,15,16,17] [] (by kernel_rfl) (by kernel_rfl) ?_
  iterate 18 (refine wpE_op (v:=?_) rfl rfl (fun W hW=>?_) ?_;rotate_left;(have zs7:=onB hW s7;have zs9:=onB hW s9;have ze0:=onB hW e0;have ze1:=onB hW e1;go_simp;first | done | with_reducible rfl);simp only [pt1,pt3,pt4,pt5])
  refine wpE_nil ⟨fun _=>(Below.refl _ _).drew,wpSp_nil ?_⟩
  go_wp2_with fail
  go_ret2
  exact ⟨rfl,HK.out.below (hbw.drew),hbw.drew⟩
end Mix2
end Go.Proofs.YtafpmkdlciioaaaGreatDoor
namespace Go.Proofs.YtafpmkdlciioaaaGreatDoor
open Go.RowKit
theorem bey_at {M i:Nat} (h:M.testBit i=false):decide (M/2 ^ i≠0)=beyB M i:=by
 unfold beyB
 rw [decide_eq_decide,Nat.pow_succ,← Nat.div_div_eq_div_mul]
 have:M/2 ^ i%2=0:=by
  have h2:¬ (M/2 ^ i%2=1):=by rw [testBit_mod];simp [h]
  omega
 omega
theorem cmp_one {N M i:Nat} (hj:∀ j,j < i→N.testBit j=M.testBit j) (hN:N.testBit i=true) (hM:M.testBit i=false):cmpN N M=if beyB M i then -1 else 1:=by
 have hne:N≠M:=fun e=>by rw [e,hM] at hN;cases hN
 unfold cmpN
 rw [if_neg hne,ltR_at i N M hj hN hM,bey_at hM]
theorem cmp_two {N M i:Nat} (hj:∀ j,j < i→N.testBit j=M.testBit j) (hN:N.testBit i=false) (hM:M.testBit i=true):cmpN N M=if beyB N i then 1 else -1:=by
 have hne:N≠M:=fun e=>by rw [e,hM] at hN;cases hN
 unfold cmpN
 rw [if_neg hne]
 have h1:=ltR_at i M N (fun j h=>(hj j h).symm) hM hN
 rw [bey_at hN] at h1
 cases hb:beyB N i
 ·rw [hb] at h1
  rw [ltR_total _ _ (Ne.symm hne) h1];simp
 ·rw [hb] at h1
  rw [ltR_asymm h1];simp
theorem compare_g (v u:Value) (N M:Nat) (w:World) (hs:IsSet w v N) (ho:IsSet w u M) (hT:Tab w) :
  Calls Tryz.prog 66 #[.agg #[v],.agg #[u]] w fun e w'=>e=.returned (.int .i64 (cmpN N M))∧Gw w w':=by
 obtain ⟨A,c,rfl,hN,_⟩:=id hs
 obtain ⟨A',c',rfl,hM,_⟩:=id ho
 obtain ⟨n,hn⟩:∃ n,n=max (nw N) (nw M):=⟨_,rfl⟩
 have n64:n≤64:=by omega
 have emax:max (nw N:Int) (nw M:Int)=(n:Int):=by omega
 have hbig:∀ k,n≤k→wd N k=wd M k:=fun k hk=>by rw [wd_ge (by omega),wd_ge (by omega)]
 have HBIG:=hideC hbig
 clear hbig hn
 go_enter Tryz.func66,Tryz.ntmps66
 go_wp2_with fail
 refine gabs2 fun W0 hX hY hg0=>?_
 clear emax
 refine wp_loopF (β:=Nat) (fun k f=>#[f 0,f 1,.pointer (some ⟨w.heap.size,0,none⟩),.pointer (some ⟨w.heap.size+1,0,none⟩),f 4,f 5,f 6,f 7,f 8,f 9,f 10,f 11,f 12,f 13,.int .i64 (n:Int),.int .i64 (k:Int),f 16,f 17,f 18,f 19,f 20,f 21,f 22,f 23,f 24,f 25,f 26,f 27,f 28,f 29,f 30,f 31,f 32,f 33,f 34,f 35,f 36,f 37,f 38,f 39,f 40,f 41,f 42,f 43,f 44,f 45,f 46,f 47,f 48,f 49,f 50,f 51,f 52,f 53,f 54,f 55,f 56,f 57,f 58])
  (fun k ds wr=>k≤n∧ds=[]∧Gw w wr∧Blk wr w.heap.size 58 #[.slice A (nw N) c]∧Blk wr (w.heap.size+1) 58 #[.slice A' (nw M) c']∧Hid (∀ j,j < k→wd N j=wd M j)) (fun k=>n-k) 0 rfl ⟨Nat.zero_le _,rfl,hg0,hX,hY,hideC fun j hj=>by omega⟩ ?_
 rintro k f ds wr ⟨hk,rfl,hg,hX,hY,HE⟩
 dsimp only
 clear hg0
 by_cases hlt:k < n
 ·have x0:=hX.cell 0
  have y0:=hY.cell 0
  have hgd:=hg.trans (Gw.drew wr)
  have ex:=u64_xor_nat (wd N k) (wd M k) (wd_lt _ _) (wd_lt _ _)
  have hxl:wd N k ^^^ wd M k < 2 ^ 64:=Nat.xor_lt_two_pow (wd_lt _ _) (wd_lt _ _)
  obtain ⟨x,hx⟩:∃ x,x=wd N k ^^^ wd M k:=⟨_,rfl⟩
  rw [← hx] at ex hxl
  have HW1:=hideC (fun W h=>word_g (.slice A (nw N) c) N k W h)
  have HW2:=hideC (fun W h=>word_g (.slice A' (nw M) c') M k W h)
  obtain ⟨a,ha⟩:∃ a,a=wd N k:=⟨_,rfl⟩
  obtain ⟨b,hb⟩:∃ b,b=wd M k:=⟨_,rfl⟩
  rw [← ha] at ex HW1 hx
  rw [← hb] at ex HW2 hx
  have HA:=Lib.hid ha
  have HB:=Lib.hid hb
  have HX:=Lib.hid hx
  clear ha hb hx
  go_wp2_with fail
  refine wp_spine (fun W=>Below wr.heap.size wr W) [0,1,3,4] [2,5,6,7] (by kernel_rfl) (by kernel_rfl) ?_
  iterate 4 (refine wpE_op (v:=?_) rfl rfl (fun W hW=>?_) ?_;rotate_left;(have z0:=onB hW x0;have z1:=onB hW y0;go_simp;first | done | with_reducible rfl);simp only [pt1,pt3,pt4,pt5])
  refine wpE_nil ⟨fun h=>(by cases h),wpSp_op rfl (Below.refl _ _).drew ?_⟩
  go_wp2_with fail
  refine (HW1.out _ (hs.below hgd.below)).mono ?_
  rintro e w1 ⟨rfl,hg1⟩
  have b1:Below wr.heap.size wr w1:=((Gw.drew wr).trans hg1).below
  have g1:=hgd.trans hg1
  go_wp2_with fail
  refine nxt_op rfl b1 ?_
  go_wp2_with fail
  refine (HW2.out _ (ho.below g1.below)).mono ?_
  rintro e w2 ⟨rfl,hg2⟩
  have b2:Below wr.heap.size wr w2:=(((Gw.drew wr).trans hg1).trans hg2).below
  have g2:=g1.trans hg2
  go_wp2_with fail
  refine nxt_op rfl b2 ?_
  go_wp2_with fail
  refine nxt_op rfl b2 ?_
  go_wp2_with fail
  refine nxt_nil ?_
  have hX2:=hX.below b2 hX.lt
  have hY2:=hY.below b2 hY.lt
  clear ex x0 y0 HW1 HW2
  by_cases hx0:x=0
  ·have hab:wd N k=wd M k:=by
    rw [← HA.out,← HB.out]
    have:=HX.out
    rw [hx0] at this
    exact Nat.eq_of_testBit_eq fun j=>by
     have h2:=congrArg (fun y=>y.testBit j) this.symm
     simp only [Nat.testBit_xor,Nat.zero_testBit] at h2
     revert h2
     cases a.testBit j <;> cases b.testBit j <;> simp
   subst hx0
   have HAB:=Lib.hid hab
   clear hab
   go_wp2_with fail
   exact ⟨k+1,rfl,⟨by omega,by first | rfl | trivial,g2,hX2,hY2,hideC fun j hj=>by
    by_cases e:j=k
    ·rw [e];exact HAB.out
    ·exact HE.out j (by omega)⟩,by omega⟩
  ·have e0:((x:Int) == 0)=false:=by rw [beq_eq_false_iff_ne];omega
   obtain ⟨bb,hb1,hb2,hb3,hb4,_⟩:=ctz_spec x hx0 hxl
   have HTZ:=tz_any x hx0 hxl w2 (hT.below g2.below)
   rw [hb1] at HTZ
   have HTZ:=hideC HTZ
   obtain ⟨i,hi⟩:∃ i,i=64*k+bb:=⟨_,rfl⟩
   have hi64:i≤4095:=by omega
   have e1:(64:Int)*(k:Int)+(bb:Int)=(i:Int):=by omega
   have e2:IntKind.i64.wrap ((64:Int)*(k:Int))=(64:Int)*(k:Int):=i64w ⟨by omega,by omega⟩
   have hbit:∀ j,j < 64→(N.testBit (64*k+j) == M.testBit (64*k+j))=!x.testBit j:=fun j hj=>by
    have t1:=testBit_wd N k j
    have t2:=testBit_wd M k j
    rw [decide_eq_true hj,Bool.true_and] at t1 t2
    rw [← t1,← t2,HX.out,HA.out,HB.out,Nat.testBit_xor]
    cases (wd N k).testBit j <;> cases (wd M k).testBit j <;> rfl
   have hlow:∀ j,j < i→N.testBit j=M.testBit j:=fun j hj=>by
    by_cases h:j < 64*k
    ·rw [testBit_div N j,testBit_div M j,HE.out (j/64) (by omega)]
    ·have:=hbit (j-64*k) (by omega)
     rw [hb4 _ (by omega)] at this
     have e:64*k+(j-64*k)=j:=by omega
     rw [e] at this
     simpa using this
   have hdif:=hbit bb hb2
   rw [hb3,← hi] at hdif
   have HLOW:=hideC hlow
   clear hbit hlow hb1 hb3 hb4 hx0 hi HX HA HB
   go_wp2_with fail
   refine HTZ.out.mono ?_
   rintro e w3 ⟨rfl,rfl⟩
   have hs2:=hs.below g2.below
   have ho2:=ho.below g2.below
   have x0:=hX2.cell 0
   have y0:=hY2.cell 0
   have HH1:=hideC (fun W h=>has_g (.slice A (nw N) c) N i W h hi64)
   have HH2:=hideC (fun W h=>has_g (.slice A' (nw M) c') M i W h hi64)
   have HB1:=hideC (fun W h=>beyond_g (.slice A (nw N) c) N i W h)
   have HB2:=hideC (fun W h=>beyond_g (.slice A' (nw M) c') M i W h)
   have hcases:(N.testBit i=true∧M.testBit i=false)∨(N.testBit i=false∧M.testBit i=true):=by
    revert hdif
    cases N.testBit i <;> cases M.testBit i <;> simp
   clear hdif
   rcases hcases with ⟨hNi,hMi⟩ | ⟨hNi,hMi⟩
   ·rw [hNi] at HH1
    rw [hMi] at HH2
    have hc:=cmp_one HLOW.out hNi hMi
    have HCM:=Lib.hid hc
    clear hc hNi hMi
    go_wp2_with fail
    refine wp_spine (fun W=>Below w2.heap.size w2 W) [0,1,3,4] [2,5,6] (by kernel_rfl) (by kernel_rfl) ?_
    iterate 4 (refine wpE_op (v:=?_) rfl rfl (fun W hW=>?_) ?_;rotate_left;(have z0:=onB hW x0;have z1:=onB hW y0;go_simp;first | done | with_reducible rfl);simp only [pt1,pt3,pt4,pt5])
    refine wpE_nil ⟨fun h=>(by cases h),wpSp_op rfl (Below.refl _ _).drew ?_⟩
    go_wp2_with fail
    refine (HH1.out _ (hs.below (g2.trans (Gw.drew w2)).below)).mono ?_
    rintro e w4 ⟨rfl,hg4⟩
    have g4:=(g2.trans (Gw.drew w2)).trans hg4
    have b4:Below w2.heap.size w2 w4:=((Gw.drew w2).trans hg4).below
    go_wp2_with fail
    refine nxt_op rfl b4 ?_
    go_wp2_with fail
    refine (HH2.out _ (ho.below g4.below)).mono ?_
    rintro e w5 ⟨rfl,hg5⟩
    have g5:=g4.trans hg5
    have b5:Below w2.heap.size w2 w5:=(((Gw.drew w2).trans hg4).trans hg5).below
    go_wp2_with fail
    refine nxt_op rfl b5 ?_
    go_wp2_with fail
    refine nxt_nil ?_
    have hX5:=hX2.below b5 hX2.lt
    have hY5:=hY2.below b5 hY2.lt
    clear x0 y0
    have x0:=hX5.cell 0
    have y0:=hY5.cell 0
    go_wp2_with fail
    refine (HH1.out _ (hs.below g5.below)).mono ?_
    rintro e w6 ⟨rfl,hg6⟩
    have g6:=g5.trans hg6
    have hX6:=hX5.below hg6.below hX5.lt
    have hY6:=hY5.below hg6.below hY5.lt
    clear x0 y0
    have x0:=hX6.cell 0
    have y0:=hY6.cell 0
    go_wp2_with fail
    refine (HB2.out _ (ho.below g6.below)).mono ?_
    rintro e w7 ⟨rfl,hg7⟩
    have g7:=g6.trans hg7
    cases hbey:beyB M i
    ·have hcm:=HCM.out
     rw [hbey,if_neg (by simp)] at hcm
     have HCM2:=Lib.hid hcm
     have hX7:=hX6.below hg7.below hX6.lt
     have hY7:=hY6.below hg7.below hY6.lt
     clear x0 y0 hcm
     have x0:=hX7.cell 0
     have y0:=hY7.cell 0
     go_wp2_with fail
     refine (HH2.out _ (ho.below g7.below)).mono ?_
     rintro e w8 ⟨rfl,hg8⟩
     have g8:=g7.trans hg8
     go_wp2_with fail
     go_ret
     exact ⟨ret_int HCM2.out.symm,g8⟩
    ·have hcm:=HCM.out
     rw [hbey,if_pos rfl] at hcm
     have HCM2:=Lib.hid hcm
     clear hcm
     go_wp2_with fail
     go_ret
     exact ⟨ret_int HCM2.out.symm,g7⟩
   ·rw [hNi] at HH1
    rw [hMi] at HH2
    have hc:=cmp_two HLOW.out hNi hMi
    have HCM:=Lib.hid hc
    clear hc hNi hMi
    go_wp2_with fail
    refine wp_spine (fun W=>Below w2.heap.size w2 W) [0,1,3,4] [2,5,6] (by kernel_rfl) (by kernel_rfl) ?_
    iterate 4 (refine wpE_op (v:=?_) rfl rfl (fun W hW=>?_) ?_;rotate_left;(have z0:=onB hW x0;have z1:=onB hW y0;go_simp;first | done | with_reducible rfl);simp only [pt1,pt3,pt4,pt5])
    refine wpE_nil ⟨fun h=>(by cases h),wpSp_op rfl (Below.refl _ _).drew ?_⟩
    go_wp2_with fail
    refine (HH1.out _ (hs.below (g2.trans (Gw.drew w2)).below)).mono ?_
    rintro e w4 ⟨rfl,hg4⟩
    have g4:=(g2.trans (Gw.drew w2)).trans hg4
    have b4:Below w2.heap.size w2 w4:=((Gw.drew w2).trans hg4).below
    go_wp2_with fail
    refine nxt_op rfl b4 ?_
    go_wp2_with fail
    refine (HH2.out _ (ho.below g4.below)).mono ?_
    rintro e w5 ⟨rfl,hg5⟩
    have g5:=g4.trans hg5
    have b5:Below w2.heap.size w2 w5:=(((Gw.drew w2).trans hg4).trans hg5).below
    go_wp2_with fail
    refine nxt_op rfl b5 ?_
    go_wp2_with fail
    refine nxt_nil ?_
    have hX5:=hX2.below b5 hX2.lt
    have hY5:=hY2.below b5 hY2.lt
    clear x0 y0
    have x0:=hX5.cell 0
    have y0:=hY5.cell 0
    go_wp2_with fail
    refine (HH1.out _ (hs.below g5.below)).mono ?_
    rintro e w6 ⟨rfl,hg6⟩
    have g6:=g5.trans hg6
    have hX6:=hX5.below hg6.below hX5.lt
    have hY6:=hY5.below hg6.below hY5.lt
    clear x0 y0
    have x0:=hX6.cell 0
    have y0:=hY6.cell 0
    go_wp2_with fail
    refine (HH2.out _ (ho.below g6.below)).mono ?_
    rintro e w7 ⟨rfl,hg7⟩
    have g7:=g6.trans hg7
    have hX7:=hX6.below hg7.below hX6.lt
    have hY7:=hY6.below hg7.below hY6.lt
    clear x0 y0
    have x0:=hX7.cell 0
    have y0:=hY7.cell 0
    go_wp2_with fail
    refine (HB1.out _ (hs.below g7.below)).mono ?_
    rintro e w8 ⟨rfl,hg8⟩
    have g8:=g7.trans hg8
    cases hbey:beyB N i
    ·have hcm:=HCM.out
     rw [hbey,if_neg (by simp)] at hcm
     have HCM2:=Lib.hid hcm
     clear hcm
     go_wp2_with fail
     go_ret
     exact ⟨ret_int HCM2.out.symm,g8⟩
    ·have hcm:=HCM.out
     rw [hbey,if_pos rfl] at hcm
     have HCM2:=Lib.hid hcm
     clear hcm
     go_wp2_with fail
     go_ret
     exact ⟨ret_int HCM2.out.symm,g8⟩
 ·obtain rfl:k=n:=by omega
  have hNM:N=M:=wd_ext fun j=>by
   by_cases h:j < k
   ·exact HE.out j h
   ·exact HBIG.out j (by omega)
  have e:cmpN N M=0:=by unfold cmpN;rw [if_pos hNM]
  have HEE:=Lib.hid e
  clear e hNM HE HBIG
  go_wp2_with fail
  go_ret
  exact ⟨ret_int HEE.out.symm,hg⟩
end Go.Proofs.YtafpmkdlciioaaaGreatDoor
namespace Go.Proofs.YtafpmkdlciioaaaGreatDoor.SortC
open Go.RowKit
abbrev SetIn (w:World):={ x:Value×Nat // IsSet w x.1 x.2 }
@[reducible] def setInh (w:World):Inhabited (SetIn w):=⟨⟨(.slice none 0 0,0),IsSet.empty w⟩⟩
def encS (w:World) (x:SetIn w):List Value:=[x.1.1]
def cmpS (w:World) (x y:SetIn w):Int:=cmpN x.1.2 y.1.2
theorem ltOf_S (w:World) (x y:SetIn w):Go.Proofs.ltOf (cmpS w) x y=ltR x.1.2 y.1.2:=by
 unfold Go.Proofs.ltOf cmpS
 exact cmpN_lt _ _
theorem swo_S (w:World):Go.Sort.SWO (Go.Proofs.ltOf (cmpS w)) where
 irrefl x:=by rw [ltOf_S];exact ltR_irrefl _
 trans x y z h1 h2:=by rw [ltOf_S] at *;exact ltR_trans _ _ _ h1 h2
 ntrans x y z h1 h2:=by
  rw [ltOf_S] at *
  cases h:ltR x.1.2 z.1.2
  ·rfl
  ·by_cases e1:x.1.2=y.1.2
   ·rw [e1,h2] at h;cases h
   ·have a:=ltR_total _ _ e1 h1
    by_cases e2:y.1.2=z.1.2
    ·rw [e2] at a;rw [ltR_asymm a] at h;cases h
    ·have b:=ltR_total _ _ e2 h2
     have c:=ltR_trans _ _ _ b a
     rw [ltR_asymm c] at h;cases h
section
variable {α:Type} [Inhabited α]
theorem sortWorld_heap (enc:α→List Value) (k:Nat) (w:World) (blk off m:Nat) (d:Array α) (os:Array Obj) {g:Nat} (hg:g < w.heap.size) (hne:g≠blk):(Go.Proofs.sortWorldK enc k w blk off m d os).heap[g]?=w.heap[g]?:=by
 unfold Go.Proofs.sortWorldK
 rw [Go.Sort.heap_grow_old _ _ (by simpa [Go.Sort.putRowK,Go.Sort.putRow,Go.Sort.mapBlock,Go.Sort.ahead] using hg)]
 unfold Go.Sort.putRowK Go.Sort.putRow Go.Sort.mapBlock Go.Sort.ahead
 dsimp only
 rw [Array.getElem?_modify,if_neg (fun e=>hne e.symm)]
theorem sortWorld_size (enc:α→List Value) (k:Nat) (w:World) (blk off m:Nat) (d:Array α) (os:Array Obj):w.heap.size≤(Go.Proofs.sortWorldK enc k w blk off m d os).heap.size:=by
 simp [Go.Proofs.sortWorldK,Go.Sort.putRowK,Go.Sort.putRow,Go.Sort.mapBlock,Go.Sort.ahead,Go.Sort.grow]
theorem sortWorld_keep (enc:α→List Value) (k:Nat) (w:World) (blk off m:Nat) (d:Array α) (os:Array Obj) {t:TypeId} {cs:Array Value} (hB:Blk w blk t cs) (ht:146≠t):KeepW w (Go.Proofs.sortWorldK enc k w blk off m d os) :=
 ⟨sortWorld_size enc k w blk off m d os,fun _ _ h=>(sortWorld_heap enc k w blk off m d os h.lt (h.ne_ hB ht)).trans h⟩
theorem sortWorld_below (enc:α→List Value) (k:Nat) (w:World) (blk off m:Nat) (d:Array α) (os:Array Obj) (hb:blk < w.heap.size):Below blk w (Go.Proofs.sortWorldK enc k w blk off m d os) :=
 ⟨rfl,rfl,rfl,sortWorld_size enc k w blk off m d os,fun g hg=>sortWorld_heap enc k w blk off m d os (by omega) (by omega)⟩
end
theorem isAggS (W:World):(isAgg 58).run Tryz.prog W=.ok true W:=by kernel_rfl
theorem sizeOfS (W:World):(Go.sizeOf 58).run Tryz.prog W=.ok 1 W:=by kernel_rfl
theorem cmpLays_S (w:World) (blk size:Nat) {t:TypeId} {cs:Array Value} (hB:Blk w blk t cs) (ht:146≠t) (ht2:blk≠0) (hT:Tab w):letI:=setInh w;Go.Proofs.CmpLays Tryz.prog 66 #[] (encS w) 1 (cmpS w) blk 0 size w:=by
 letI:=setInh w
 intro m os dk hs x y
 have hk:=sortWorld_keep (encS w) 1 w blk 0 m dk os hB ht
 have hT':Tab (Go.Proofs.sortWorldK (encS w) 1 w blk 0 m dk os):=fun j hj=>by
  have h:=hT j hj
  exact (World.cell?_of_block (sortWorld_heap (encS w) 1 w blk 0 m dk os (cell_lt h) (Ne.symm ht2))).trans h
 exact compare_g x.1.1 y.1.1 x.1.2 y.1.2 _ (x.2.keep hk) (y.2.keep hk) hT'
theorem sort_sets (g:Nat) (cs:Array Value) (vs:List Value) (Ns:List Nat) (cap:Nat) (w:World) (hB:Blk w g 58 cs) (hv:∀ (k:Nat) u,vs[k]?=some u→cs[k]?=some u) (hs:Sets w vs Ns) (hT:Tab w) (hsz:vs.length < 4611686018427387904) (hg:g≠0) :
  Calls Tryz.prog 65 #[.slice (some ⟨g,0,none⟩) vs.length cap,.func (.func 66) #[] #[]] w fun e w'=>e=.returned (.tuple #[]) ∧
   ∃ vs' Ns',Ns'.Perm Ns∧Ns'.Pairwise (fun a b=>ltR b a=false)∧vs'.length=vs.length∧Row w' (some ⟨g,0,none⟩) vs'∧Sets w' vs' Ns'∧Below g w w'∧KeepW w w':=by
 letI:=setInh w
 have hl:=hs.1
 have hset:∀ k,(h:k < vs.length)→IsSet w vs[k] (Ns[k]'(by omega)):=fun k h=>hs.2 k _ _ (List.getElem?_eq_getElem h) (List.getElem?_eq_getElem (by omega))
 let d:Array (SetIn w):=Array.ofFn (n:=vs.length) fun k=>⟨(vs[k.1],Ns[k.1]'(by have:=k.2;omega)),hset k.1 k.2⟩
 have hd:d.size=vs.length:=by simp [d]
 have hdv:d.toList.map (fun x=>x.1.1)=vs:=by
  apply List.ext_getElem
  ·simp [d]
  ·intro i h1 h2;simp [d]
 have hdN:d.toList.map (fun x=>x.1.2)=Ns:=by
  apply List.ext_getElem
  ·simp [d,hl]
  ·intro i h1 h2;simp [d]
 have hH:Go.Sort.HoldsK (encS w) 1 w g 0 d:=by
  intro j hj
  rw [Go.Sort.size_flatK] at hj
  have hj':j < vs.length:=by omega
  refine ⟨?_,hB.frozen _⟩
  rw [Go.Sort.get_flatK _ _ _ _ hj,Nat.zero_add,hB.cell,Nat.div_one,Nat.mod_one]
  have h1:=hv j _ (List.getElem?_eq_getElem hj')
  rw [h1]
  show some _=some (id ([d[j]!.1.1][0]!))
  rw [getElem!_pos d j (by omega)]
  simp [d]
 clear_value d
 have hcon:=AnyQ.slices_SortFunc Tryz.sortSet 1 isAggS sizeOfS (encS w) (fun _=>rfl) (fun x v hx=>by
  obtain ⟨A,c,e,_⟩:=x.2
  simp only [encS,List.mem_singleton] at hx
  rw [hx,e];rfl) (cmpS w) (swo_S w) 66 #[] g 0 cap d w (enters_of Tryz.func66 (by kernel_rfl) rfl) (cmpLays_S w g d.size hB (by decide) hg hT) hH hB.lt (by omega)
 rw [hd] at hcon
 refine Calls.mono hcon ?_
 rintro e w' ⟨rfl,d',n',os,⟨hps,_,hperm⟩,hsort,rfl⟩
 have hk:=sortWorld_keep (encS w) 1 w g 0 n' d' os hB (by decide)
 have hp:d'.toList.Perm d.toList:=by
  have e1:d'.extract 0 vs.length=d':=by rw [← hd,← hps];simp
  have e2:d.extract 0 vs.length=d:=by rw [← hd];simp
  rwa [e1,e2] at hperm
 refine ⟨rfl,d'.toList.map (fun x=>x.1.1),d'.toList.map (fun x=>x.1.2),by rw [← hdN];exact hp.map _,?_,by simp [hps,hd],?_,?_,sortWorld_below _ _ _ _ _ _ _ _ hB.lt,hk⟩
 ·rw [List.pairwise_map,List.pairwise_iff_getElem]
  intro i j hi hj hij
  rw [Array.length_toList] at hi hj
  have:=hsort i j (Nat.zero_le _) hij (by omega)
  rw [ltOf_S,getElem!_pos d' i hi,getElem!_pos d' j hj] at this
  simpa using this
 ·intro hn
  refine ⟨g,0,rfl,Nat.lt_of_lt_of_le hB.lt (sortWorld_size _ _ _ _ _ _ _ _),fun k u hu=>?_⟩
  rw [List.getElem?_map] at hu
  obtain ⟨x,hx,rfl⟩:=Option.map_eq_some_iff.1 hu
  have hkd:k < d'.size:=by have:=(List.getElem?_eq_some_iff.1 hx).1;rwa [Array.length_toList] at this
  have hc:=Go.Sort.cell?_putRow id (Go.Sort.ahead w n') g 0 (Go.Sort.flatK (encS w) 1 d) (Go.Sort.flatK (encS w) 1 d') (fun j hj=>hH j hj) (by rw [Go.Sort.size_flatK,Go.Sort.size_flatK,hps]) k (by rw [Go.Sort.size_flatK];omega)
  unfold Go.Proofs.sortWorldK
  rw [Go.Sort.cell?_grow _ _ _ (by simpa [Go.Sort.putRowK,Go.Sort.putRow,Go.Sort.mapBlock,Go.Sort.ahead] using hB.lt)]
  unfold Go.Sort.putRowK
  rw [hc,Go.Sort.get_flatK _ _ _ _ (by omega),Nat.div_one,Nat.mod_one,getElem!_pos d' k hkd]
  have e:d'[k]=x:=by
   have:=(List.getElem?_eq_some_iff.1 hx).2
   rw [← this];simp
  rw [e];rfl
 ·refine ⟨by simp,fun k v N hv' hN=>?_⟩
  rw [List.getElem?_map] at hv' hN
  obtain ⟨x,hx,rfl⟩:=Option.map_eq_some_iff.1 hv'
  rw [hx] at hN
  cases hN
  exact x.2.keep hk
end Go.Proofs.YtafpmkdlciioaaaGreatDoor.SortC
namespace Go.Proofs.YtafpmkdlciioaaaGreatDoor
open Go.RowKit Go.Maps
attribute [local go_sem] Oper.semAt_some
theorem all_h (s lk g:Nat) (w0 w:World) (hT:Tab w0) (hH:IsH w0 lk) (hR1:IsR1 w0 g) (b0:Below w0.heap.size w0 w) (h:IsS1 w0.heap.size w s lk g) :
  Calls Tryz.prog 64 #[ptr s] w fun e w'=>e=.returned (.int .i64 0)∧IsS2 w' s lk g∧Below w0.heap.size w0 w':=by
 have H1:=hideC (Mix2.deepen_1 w0.heap.size s lk g w (hT.below b0) (hH.below b0) (hR1.below b0) h b0.size)
 clear h
 go_enter Tryz.func64,Tryz.ntmps64
 go_wp2_with fail
 refine wp_loop_rounds 2 ?_
 rw [rounds_succ]
 go_wp2_with fail
 refine H1.out.mono ?_
 rintro e w1 ⟨rfl,h2,hb⟩
 have b1:=b0.trans hb
 have H2:=hideC (Mix2.deepen_2 s lk g w1 (hT.below b1) (hH.below b1) (hR1.below b1) h2)
 clear H1 h2 hb b0
 go_wp2_with fail
 rw [rounds_succ]
 go_wp2_with fail
 refine H2.out.mono ?_
 rintro e w2 ⟨rfl,h3,hb⟩
 have b2:=b1.trans (hb.mono b1.size)
 clear H2
 go_wp2_with fail
 go_ret
 exact ⟨rfl,h3,b2⟩
theorem forward_h (lk g:Nat) (w:World) (hT:Tab w) (hH:IsH w lk) (hR1:IsR1 w g) :
  Calls Tryz.prog 19 #[pV lk g,.int .i64 10] w fun e w'=>(∃ A c,e=.returned (.tuple #[.slice A 2 c,.int .i64 0]))∧Below w.heap.size w w':=by
 unfold pV
 go_enter Tryz.func19,Tryz.ntmps19
 go_wp2_with fail
 refine absC1 fun u1 B2 hb hz=>?_
 have hT1:=hT.below hb
 have hH1:=hH.below hb
 have hR11:=hR1.below hb
 have HB:=hideC (begin_h lk g u1 hT1 hH1 hR11)
 rw [pV_eq] at HB
 clear hz B2
 refine HB.out.mono ?_
 rintro e u2 ⟨s,rfl,h1,hb2⟩
 have HA:=hideC (all_h s lk g u1 u2 hT1 hH1 hR11 hb2 h1)
 clear HB h1 hb2
 go_wp2_with fail
 refine HA.out.mono ?_
 rintro e u3 ⟨rfl,h3,hb3⟩
 have b3:=hb.trans (hb3.mono hb.size)
 clear HA hb hb3 hT1 hH1 hR11
 obtain ⟨gl,cl,m,ge,ce,v,BS,d0,d1,d2,d3,d4,d5,e0,e1,hs,hcl,hce⟩:=h3
 have s7:=BS.cell 7
 have hgl:=cell_lt d0
 have hgs:=BS.lt
 have hmk:(Instr.makeSlice 67 (.int .i64 2) (.int .i64 2)).run Tryz.prog u3=_:=makeSets_run 2 (by decide) u3
 obtain ⟨Av,cv,rfl,_⟩:=id hs
 go_upto_region 8 with fail
 clear hmk
 refine abs1 fun u4 BO hb hz=>?_
 clear hz s7
 have b4:=b3.trans (hb.mono b3.size)
 have s7:u4.cell? ⟨s,7,none⟩=some _:=onB hb (BS.cell 7)
 replace d0:=onB hb d0;replace d1:=onB hb d1;replace d2:=onB hb d2;replace d3:=onB hb d3;replace d4:=onB hb d4;replace d5:=onB hb d5
 have hs4:=hs.below hb
 have l7:=cell_lt s7
 have ld:=cell_lt d0
 have hlt:=hb.size
 obtain ⟨go,hgo⟩:∃ x,x=u3.heap.size:=⟨_,rfl⟩
 rw [← hgo] at BO hgl hgs ⊢
 have lo:=BO.lt
 have hwo:w.heap.size≤go:=hgo▸b3.size
 clear hb hs BS hgo
 have o0:=BO.cell 0
 have f0:=BO.frozen 0
 go_wp2_with fail
 refine wp_loop_rounds 3 ?_
 rw [rounds_succ]
 go_wp2_with fail
 obtain ⟨u5,hq⟩:∃ V,V=(u4.setCell ⟨go,0,none⟩ (.slice none 0 0)).alloc (.cells #[.slice none 0 0,.int .i64 (-1),.int .i64 (-1)] 141):=⟨_,rfl⟩
 have hbut:But (some go) u4 u5:=by rw [hq];exact (But.setCell u4 ⟨go,0,none⟩ (.slice none 0 0)).below ((Below.refl _ _).alloc (Nat.le_refl _) _)
 have hkw:KeepW u4 u5:=by rw [hq];exact (KeepW.setCell (p:=⟨go,0,none⟩) BO (by decide) _).trans (KeepW.alloc _ _)
 replace BO:=(BO.set_ 0 (.slice none 0 0)).alloc (.cells #[.slice none 0 0,.int .i64 (-1),.int .i64 (-1)] 141)
 rw [← hq] at BO
 have hbb:Below w.heap.size u4 u5:=by rw [hq];exact ((Below.refl w.heap.size u4).setCell (p:=⟨go,0,none⟩) hwo _).alloc (by simpa using b4.size) _
 replace b4:=b4.trans hbb
 rw [← hq];clear hq
 replace s7:=hbut.on s7 (by simp;omega)
 replace d0:=hbut.on d0 (by simp;omega)
 replace d1:=hbut.on d1 (by simp;omega)
 replace d2:=hbut.on d2 (by simp;omega)
 replace d3:=hbut.on d3 (by simp;omega)
 replace d4:=hbut.on d4 (by simp;omega)
 replace d5:=hbut.on d5 (by simp;omega)
 replace hs4:=hs4.keep hkw
 clear hbut hkw hbb o0 f0
 have o0:=BO.cell 1
 have f0:=BO.frozen 1
 replace l7:=cell_lt s7
 replace ld:=cell_lt d0
 replace lo:=BO.lt
 rw [rounds_succ]
 go_wp2_with fail
 obtain ⟨u6,hq⟩:∃ V,V=(u5.setCell ⟨go,1,none⟩ (.slice Av (nw 2) cv)).alloc (.cells #[.slice Av (nw 2) cv,.int .i64 0,.int .i64 0] 141):=⟨_,rfl⟩
 have hbut:But (some go) u5 u6:=by rw [hq];exact (But.setCell u5 ⟨go,1,none⟩ (.slice Av (nw 2) cv)).below ((Below.refl _ _).alloc (Nat.le_refl _) _)
 have hkw:KeepW u5 u6:=by rw [hq];exact (KeepW.setCell (p:=⟨go,1,none⟩) BO (by decide) _).trans (KeepW.alloc _ _)
 replace BO:=(BO.set_ 1 (.slice Av (nw 2) cv)).alloc (.cells #[.slice Av (nw 2) cv,.int .i64 0,.int .i64 0] 141)
 rw [← hq] at BO
 have hbb:Below w.heap.size u5 u6:=by rw [hq];exact ((Below.refl w.heap.size u5).setCell (p:=⟨go,1,none⟩) hwo _).alloc (by simpa using b4.size) _
 replace b4:=b4.trans hbb
 rw [← hq];clear hq
 replace s7:=hbut.on s7 (by simp;omega)
 replace d0:=hbut.on d0 (by simp;omega)
 replace d1:=hbut.on d1 (by simp;omega)
 replace d2:=hbut.on d2 (by simp;omega)
 replace d3:=hbut.on d3 (by simp;omega)
 replace d4:=hbut.on d4 (by simp;omega)
 replace d5:=hbut.on d5 (by simp;omega)
 replace hs4:=hs4.keep hkw
 clear hbut hkw hbb o0 f0
 rw [rounds_succ]
 have HS:=hideC (SortC.sort_sets go _ [.slice none 0 0,.slice Av (nw 2) cv] [0,2] 2 u6 BO (fun k u h=>by rw [show (((zeros (.slice none 0 0) 2).setIfInBounds 0 (.slice none 0 0)).setIfInBounds 1 (.slice Av (nw 2) cv))=[.slice none 0 0,.slice Av (nw 2) cv].toArray from rfl,List.getElem?_toArray];exact h) (((Sets.nil _).snoc (IsSet.empty _)).snoc hs4) (hT.below b4) (by simp) (Nat.ne_of_gt (Nat.lt_of_lt_of_le (cell_lt (hT 0 (by decide))) hwo)))
 go_wp2_with fail
 refine HS.out.mono ?_
 rintro e u7 ⟨rfl,_,_,_,_,_,_,_,hb,_⟩
 go_wp2_with fail
 go_ret2
 exact ⟨⟨_,_,rfl⟩,b4.trans (hb.mono hwo)⟩
end Go.Proofs.YtafpmkdlciioaaaGreatDoor
