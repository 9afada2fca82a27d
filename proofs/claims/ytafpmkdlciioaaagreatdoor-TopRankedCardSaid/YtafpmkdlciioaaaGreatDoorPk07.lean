import Derived.Test.YtafpmkdlciioaaaGreatDoorPk05
import Derived.Test.YtafpmkdlciioaaaGreatDoorPk04
import Derived.Deep.CutBlock
import Derived.Laws.AppendOwnNone
import Derived.Test.YtafpmkdlciioaaaGreatDoorPk06
set_option maxHeartbeats 8000000
set_option maxRecDepth 100000
namespace Go.Proofs.YtafpmkdlciioaaaGreatDoor
open Go.RowKit
theorem before_ref (a b:Nat) (ha:a < 2 ^ 64) (hb:b < 2 ^ 64) (w:World) :
  Calls Tryz.prog 180 #[.int .u64 a,.int .u64 b] w fun e w'=>e=.returned (.bool (lecR a b))∧Below w.heap.size w w':=by
 go_enter Tryz.func180,Tryz.ntmps180
 go_wp2_with fail
 refine wp_loopF (β:=Nat) (fun k f=>#[.int .u64 (a:Int),.int .u64 (b:Int),f 2,f 3,.bool false,.int .i64 (k:Int),f 6,f 7,f 8,f 9,f 10,f 11,f 12,f 13,f 14,f 15,f 16,f 17,f 18,f 19,f 20,f 21,f 22,f 23])
  (fun k ds wr=>k≤64∧ds=[]∧Below w.heap.size w wr∧∀ x,x < k→a.testBit x=b.testBit x) (fun k=>64-k) 0 rfl ⟨Nat.zero_le _,rfl,Below.refl _ _,fun x h=>by omega⟩ ?_
 rintro k f ds wr ⟨hk,rfl,hbw,hN⟩
 dsimp only at hk hN ⊢
 have HN:=Lib.hid hN;clear hN
 have ea:=tmod_form a k
 have eb:=tmod_form b k
 by_cases hlt:k < 64
 ·by_cases h1:a.testBit k=true <;> by_cases h2:b.testBit k=true
  ·rw [if_pos h1] at ea
   rw [if_pos h2] at eb
   have H12:=Lib.hid (h1.trans h2.symm)
   clear h1 h2
   go_wp2_with fail
   refine wp_spine (fun W=>Below wr.heap.size wr W) [0,1,2,3,4,5,6,7,8] [] (by kernel_rfl) (by kernel_rfl) ?_
   iterate 9 (refine wpE_op (v:=?_) rfl rfl (fun W hW=>?_) ?_;rotate_left;(go_simp;first | done | with_reducible rfl);simp only [pt1,pt3,pt4,pt5])
   refine wpE_nil ⟨fun _=>(Below.refl _ _).drew,wpSp_nil ?_⟩
   go_wp2_with fail
   exact ⟨k+1,rfl,⟨by omega,by first | rfl | trivial,hbw.drew,fun x hx=>by
    by_cases e:x=k
    ·subst e;exact H12.out
    ·exact HN.out x (by omega)⟩,by omega⟩
  ·rw [if_pos h1] at ea
   rw [if_neg h2] at eb
   have hl:lecR a b=false:=lecR_asymm _ _ (lecR_at k b a (fun j hj=>(HN.out j hj).symm) (by simpa using h2) h1)
   have HL:=Lib.hid hl
   clear h1 h2 hl
   go_wp2_with fail
   refine wp_spine (fun W=>Below wr.heap.size wr W) [0,1,2,3,4,5,6,7,8] [] (by kernel_rfl) (by kernel_rfl) ?_
   iterate 9 (refine wpE_op (v:=?_) rfl rfl (fun W hW=>?_) ?_;rotate_left;(go_simp;first | done | with_reducible rfl);simp only [pt1,pt3,pt4,pt5])
   refine wpE_nil ⟨fun _=>(Below.refl _ _).drew,wpSp_nil ?_⟩
   go_wp2_with fail
   go_ret
   exact ⟨by rw [HL.out];rfl,hbw.drew⟩
  ·rw [if_neg h1] at ea
   rw [if_pos h2] at eb
   have hl:lecR a b=true:=lecR_at k a b HN.out (by simpa using h1) h2
   have HL:=Lib.hid hl
   clear h1 h2 hl
   go_wp2_with fail
   refine wp_spine (fun W=>Below wr.heap.size wr W) [0,1,2,3,4,5,6,7,8] [] (by kernel_rfl) (by kernel_rfl) ?_
   iterate 9 (refine wpE_op (v:=?_) rfl rfl (fun W hW=>?_) ?_;rotate_left;(go_simp;first | done | with_reducible rfl);simp only [pt1,pt3,pt4,pt5])
   refine wpE_nil ⟨fun _=>(Below.refl _ _).drew,wpSp_nil ?_⟩
   go_wp2_with fail
   go_ret
   exact ⟨by rw [HL.out];rfl,hbw.drew⟩
  ·rw [if_neg h1] at ea
   rw [if_neg h2] at eb
   have H12:=Lib.hid (show a.testBit k=b.testBit k by simp_all)
   clear h1 h2
   go_wp2_with fail
   refine wp_spine (fun W=>Below wr.heap.size wr W) [0,1,2,3,4,5,6,7,8] [] (by kernel_rfl) (by kernel_rfl) ?_
   iterate 9 (refine wpE_op (v:=?_) rfl rfl (fun W hW=>?_) ?_;rotate_left;(go_simp;first | done | with_reducible rfl);simp only [pt1,pt3,pt4,pt5])
   refine wpE_nil ⟨fun _=>(Below.refl _ _).drew,wpSp_nil ?_⟩
   go_wp2_with fail
   exact ⟨k+1,rfl,⟨by omega,by first | rfl | trivial,hbw.drew,fun x hx=>by
    by_cases e:x=k
    ·subst e;exact H12.out
    ·exact HN.out x (by omega)⟩,by omega⟩
 ·obtain rfl:k=64:=by omega
  have he:a=b:=Nat.eq_of_testBit_eq fun i=>by
   by_cases hi:i < 64
   ·exact HN.out i hi
   ·have p:2 ^ 64≤2 ^ i:=Nat.pow_le_pow_right (by omega) (by omega)
    rw [Nat.testBit_lt_two_pow (Nat.lt_of_lt_of_le ha p),Nat.testBit_lt_two_pow (Nat.lt_of_lt_of_le hb p)]
  have HL:=Lib.hid (show lecR a b=false by rw [he,lecR_irrefl])
  clear ea eb he
  go_wp2_with fail
  go_ret
  exact ⟨by rw [HL.out];rfl,hbw⟩
abbrev u64L (Ls:List Nat):List Value:=Ls.map fun x:Nat=>Value.int .u64 (x:Int)
theorem own_low {w:World} {base b0:Nat} {e:TypeId} {size:Nat} {v:Value} {n:Nat} {xs:List Value} (h:w.ownsRow base e size v n xs) (hb:b0≤base):w.ownsRow b0 e size v n xs :=
 ⟨h.1,h.2.imp id fun ⟨g,cap,cur,hv,hg,r⟩=>⟨g,cap,cur,hv,Nat.le_trans hb hg,r⟩⟩
theorem own_blk0 {w:World} {base g:Nat} {t:TypeId} {size:Nat} (hB:Blk w g t #[]) (hg:base≤g):w.ownsRow base t size (.slice (some ⟨g,0,none⟩) 0 0) 0 [] :=
 ⟨by simp,.inr ⟨g,0,#[],rfl,hg,hB,Nat.le_refl _,by decide,by simp,by simp⟩⟩
theorem addr_add (g o j:Nat):(⟨g,o,none⟩:Addr).add j=⟨g,o+j,none⟩:=by unfold Addr.add;split <;> simp_all
theorem news_take {w:World} {g off:Nat} {L:List Value} (hc:∀ (k:Nat) u,L[k]?=some u→w.cell? ⟨g,off+k,none⟩=some u) (i:Nat):∀ (j:Nat) u,(L.take i)[j]?=some u→w.cell? ((⟨g,off,none⟩:Addr).add j)=some u:=fun j u hu=>by
 rw [addr_add]
 rw [List.getElem?_take] at hu
 split at hu
 ·exact hc j u hu
 ·cases hu
theorem news_drop {w:World} {g off:Nat} {L:List Value} (hc:∀ (k:Nat) u,L[k]?=some u→w.cell? ⟨g,off+k,none⟩=some u) (i:Nat):∀ (j:Nat) u,(L.drop i)[j]?=some u→w.cell? ((⟨g,off+i,none⟩:Addr).add j)=some u:=fun j u hu=>by
 rw [addr_add,Nat.add_assoc]
 rw [List.getElem?_drop] at hu
 exact hc _ u hu
theorem u64L_one (L:List Nat):∀ u∈u64L L,u.oneCell'=true:=by
 intro u hu
 unfold u64L at hu
 obtain ⟨_,_,rfl⟩:=List.mem_map.1 hu
 rfl
theorem own_ins {w:World} {base b0:Nat} {e:TypeId} {v:Value} {n:Nat} {xs:List Value} {K:List Nat} (h:w.ownsRow base e 1 v n xs) (hx:xs=u64L K) (hb:b0≤base):w.ownsRow b0 e 1 v K.length (u64L K):=by
 subst hx
 have:n=K.length:=by have:=h.1;simp at this;omega
 rw [← this]
 exact own_low h hb
theorem u64L_len (L:List Nat):(u64L L).length=L.length:=by simp [u64L]
def preL (s:Nat) (L:List Nat) (i:Nat):Prop:=∀ (j:Nat) x,j < i→L[j]?=some x→lecR x s=true
theorem allTo_no {C:Nat} {Ns:List Nat} {n:Nat} (h:oneS C Ns n=false):allTo C Ns (n+1)=allTo C Ns n:=by rw [allTo,if_neg (by rw [h];simp)]
theorem allTo_yes {C:Nat} {Ns:List Nat} {n i:Nat} (h0:n≠0) (h:oneS C Ns n=true) (hi:i≤(allTo C Ns n).length) (h1:preL n (allTo C Ns n) i) (h2:∀ x,(allTo C Ns n)[i]?=some x→lecR x n=false):allTo C Ns (n+1)=(allTo C Ns n).take i ++ [n] ++ (allTo C Ns n).drop i:=by
 rw [allTo,if_pos ⟨h0,h⟩,insL_at n _ i hi h1 h2];simp
namespace Mix2
theorem all47_any (C:Nat) (A:Option Addr) (c:Nat) (M:List (List Bool)) (w:World) (h:IsRef w C A M) (hC:C≤12) (hR:M.length≤60) :
  Calls Tryz.prog 137 #[refV C A M.length c] w fun e w'=>∃ v,e=.returned v∧w'.ownsRow w.heap.size 146 1 v (allL C (nsOf C M)).length (u64L (allL C (nsOf C M)))∧Below w.heap.size w w':=by
 obtain ⟨i0,hi0,hz0,hz1,hz2⟩:=info_parts info_u64
 obtain ⟨N,hN⟩:∃ N,N=nsOf C M:=⟨_,rfl⟩
 have HCL:=Lib.hid (fun W s (hb:Below w.heap.size w W)=>closer_any C A c M s W (h.below hb) (by omega) hR)
 have HHV:=Lib.hid (fun W s (hb:Below w.heap.size w W)=>havr_any C A c M s W (h.below hb) (by omega) hR)
 rw [← hN] at HCL HHV ⊢
 obtain ⟨E,hE⟩:∃ E:Nat,E=2 ^ C:=⟨_,rfl⟩
 have hE1:1≤E:=by rw [hE];exact Nat.one_le_two_pow
 have hE2:E≤4096:=by rw [hE];exact Nat.le_trans (Nat.pow_le_pow_right (by omega) hC) (by decide)
 have hEI:=two_form (n:=C) (by omega)
 rw [← hE] at hEI
 have hAL:allL C N=allTo C N E:=by rw [allL,hE]
 rw [hAL]
 clear hE hAL hN
 go_enter Tryz.func137,Tryz.ntmps137
 go_wp2_with fail
 refine abs1 fun W0 hX0 hb0 hz=>?_
 obtain ⟨X,hXe⟩:∃ g,g=w.heap.size:=⟨_,rfl⟩
 have hXw:w.heap.size≤X:=by omega
 rw [← hXe] at hX0 ⊢
 clear hXe hz
 have h1:allTo C N 1=[]:=by simp [allTo]
 refine wp_loopF (β:=Nat×Value) (fun x f=>#[f 0,.pointer (some ⟨X,0,none⟩),.slice none 0 0,x.2,.int .u64 (x.1:Int),f 5,f 6,f 7,f 8,f 9,f 10,f 11,f 12,f 13,f 14,f 15,f 16,f 17,f 18,f 19,f 20,f 21,f 22,f 23,f 24,f 25,f 26,f 27,f 28,f 29,f 30,f 31,f 32,f 33,f 34,f 35,f 36,f 37,f 38,f 39,f 40,f 41,f 42,f 43,f 44,f 45,f 46,f 47,f 48,f 49,f 50])
  (fun x ds W=>1≤x.1∧x.1≤E∧ds=[]∧Below W0.heap.size W0 W∧W.ownsRow W0.heap.size 146 1 x.2 (allTo C N x.1).length (u64L (allTo C N x.1))) (fun x=>E-x.1) (1,.slice none 0 0) rfl
  ⟨Nat.le_refl _,hE1,rfl,Below.refl _ _,by rw [h1];exact World.ownsRow_nil _ _ _ _⟩ ?_
 clear h1
 rintro ⟨s,v⟩ f ds W ⟨hs1,hsE,rfl,hbW,hown⟩
 dsimp only at hs1 hsE hown ⊢
 have bW:=hb0.trans (hbW.mono hb0.size)
 have hXW:=hX0.below hbW hX0.lt
 have x0:=hXW.cell 0
 have x1:=hXW.cell 1
 have hinc:IntKind.u64.wrap ((s:Int)+1)=((s+1:Nat):Int):=u64_wrap_nat (s+1) (by omega)
 by_cases hlt:s < E
 ·have HC1:=hideC (HCL.out W s bW)
  obtain ⟨q,hq⟩:∃ q,q=cloN C N s:=⟨_,rfl⟩
  rw [← hq] at HC1
  go_wp2_with fail
  refine HC1.out.mono ?_
  rintro e W1 ⟨rfl,hb1⟩
  have bW1:=bW.trans (hb1.mono bW.size)
  have hbW1:=hbW.trans (hb1.mono hbW.size)
  have hown1:=own_below hown hb1
  have hXW1:=hXW.below hb1 hXW.lt
  clear HC1 x0 x1 hown hXW hbW bW hb1
  have x0:=hXW1.cell 0
  have x1:=hXW1.cell 1
  by_cases hqs:q=s
  ·subst hqs
   have HQ:=Lib.hid hq
   clear hq
   have HC2:=hideC (HHV.out W1 q bW1)
   obtain ⟨r,hr⟩:∃ r,r=havN C N q:=⟨_,rfl⟩
   rw [← hr] at HC2
   have HR:=Lib.hid hr
   clear hr
   go_wp2_with fail
   refine HC2.out.mono ?_
   rintro e W2 ⟨rfl,hb2⟩
   have bW2:=bW1.trans (hb2.mono bW1.size)
   have hbW2:=hbW1.trans (hb2.mono hbW1.size)
   have hown:=own_below hown1 hb2
   clear HC2 x0 x1 hown1 hXW1 hbW1 bW1 hb2
   by_cases hr0:r=0
   ·have hno:oneS C N q=false:=by unfold oneS;rw [← HR.out,decide_eq_true hr0];simp
    subst hr0
    have HNO:=Lib.hid (allTo_no hno)
    clear hno
    go_wp2_with fail
    exact ⟨(q+1,v),by first | rfl | (show _=_;rw [← hinc];rfl),⟨by show 1≤q+1;omega,by show q+1≤E;omega,by first | rfl | trivial,hbW2,by rw [HNO.out];exact hown⟩,by show E-(q+1) < E-q;omega⟩
   ·have hyes:oneS C N q=true:=by unfold oneS;rw [← HR.out,← HQ.out,decide_eq_true rfl,decide_eq_false hr0];rfl
    have hall:=fun i=>allTo_yes (C:=C) (Ns:=N) (n:=q) (i:=i) (by omega) hyes
    have hlen:=allTo_len C N q
    have hmem:=fun x=>(mem_allTo (C:=C) (Ns:=N) (s:=x) q).1
    obtain ⟨L,hL⟩:∃ L,L=allTo C N q:=⟨_,rfl⟩
    rw [← hL] at hall hlen hmem hown
    have hrne:((r:Int) == 0)=false:=by rw [beq_eq_false_iff_ne];omega
    have HALL:=Lib.hid hall
    have HMEM:=Lib.hid (fun x hx=>(hmem x hx).1)
    clear hL hyes hall hmem
    obtain ⟨A1,cap1,rfl,hcap,hcm,hrow,-⟩:=row_of_own hown
    go_upto_block 2 with fail
    obtain ⟨W3,hW3⟩:∃ V,V=W2:=⟨_,rfl⟩
    subst hW3
    refine wp_frame (fun g=>#[g 0,.pointer (some ⟨X,0,none⟩),.slice none 0 0,.slice A1 L.length cap1,.int .u64 (q:Int),.int .i64 0,g 6,g 7,g 8,g 9,g 10,g 11,g 12,g 13,g 14,g 15,g 16,g 17,g 18,g 19,g 20,g 21,g 22,g 23,g 24,g 25,g 26,g 27,g 28,g 29,g 30,g 31,g 32,g 33,g 34,g 35,g 36,g 37,g 38,g 39,g 40,g 41,g 42,g 43,g 44,g 45,g 46,g 47,g 48,g 49,g 50]) rfl fun g=>?_
    dsimp only
    go_cut [5] (fun s5 wx=>∃ i:Nat,s5=.int .i64 (i:Int)∧i≤L.length∧preL q L i∧(∀ x,L[i]?=some x→lecR x q=false)∧Below W3.heap.size W3 wx)
    case first =>
     go_wp2_with fail
     refine wp_loopF (β:=Nat) (fun i f=>#[g 0,.pointer (some ⟨X,0,none⟩),.slice none 0 0,.slice A1 L.length cap1,.int .u64 (q:Int),.int .i64 (i:Int),g 6,g 7,g 8,g 9,g 10,g 11,g 12,g 13,g 14,g 15,g 16,g 17,g 18,g 19,g 20,g 21,g 22,g 23,f 24,f 25,f 26,f 27,f 28,f 29,f 30,f 31,f 32,f 33,f 34,f 35,f 36,f 37,g 38,g 39,g 40,g 41,g 42,g 43,g 44,g 45,g 46,g 47,g 48,g 49,g 50])
      (fun i ds V=>i≤L.length∧ds=[]∧Below W3.heap.size W3 V∧preL q L i) (fun i=>L.length-i) 0 rfl ⟨Nat.zero_le _,rfl,Below.refl _ _,fun j x hj=>by omega⟩ ?_
     rintro i f ds V ⟨hi,rfl,hbV,hpre⟩
     dsimp only at hi ⊢
     have HP:=Lib.hid hpre
     clear hpre
     by_cases hlt2:i < L.length
     ·obtain ⟨t,ht⟩:∃ t,L[i]?=some t:=⟨_,List.getElem?_eq_getElem hlt2⟩
      have htq:=HMEM.out t (List.mem_of_getElem? ht)
      obtain ⟨g1,o1,rfl,hg1,hc1⟩:=hrow (by rw [List.length_map];omega)
      have d1:=onB hbV (hc1 i (.int .u64 (t:Int)) (by rw [List.getElem?_map,ht];rfl))
      have hbf:=before_ref t q (by omega) (by omega) V
      obtain ⟨lt,hlt3⟩:∃ b,b=lecR t q:=⟨_,rfl⟩
      rw [← hlt3] at hbf
      have HBF:=hideC hbf
      have HT:=Lib.hid ht
      clear hbf ht hc1
      cases lt with
      | true =>
       have hn:preL q L (i+1):=fun j x hj hx=>by
        by_cases e:j=i
        ·subst e;rw [HT.out] at hx;cases hx;exact hlt3.symm
        ·exact HP.out j x (by omega) hx
       have HN:=Lib.hid hn
       clear hn hlt3
       go_wp2_with fail
       refine HBF.out.mono ?_
       rintro e V2 ⟨rfl,hb2⟩
       go_wp2_with fail
       exact ⟨i+1,rfl,⟨by omega,by first | rfl | trivial,hbV.trans (hb2.mono hbV.size),HN.out⟩,by omega⟩
      | false =>
       have HN:=Lib.hid (fun x (hx:L[i]?=some x)=>(by rw [HT.out] at hx;cases hx;exact hlt3.symm:lecR x q=false))
       clear hlt3
       go_wp2_with fail
       refine HBF.out.mono ?_
       rintro e V2 ⟨rfl,hb2⟩
       go_wp2_with fail
       go_meet
       exact ⟨i,rfl,by omega,HP.out,HN.out,hbV.trans (hb2.mono hbV.size)⟩
     ·obtain rfl:i=L.length:=by omega
      go_wp2_with fail
      go_meet
      exact ⟨L.length,rfl,by omega,HP.out,(fun x hx=>by rw [List.getElem?_eq_none (Nat.le_refl _)] at hx;cases hx),hbV⟩
    case rest =>
     obtain ⟨i,rfl,hi,hpre,hstop,hbc⟩:=hcut
     have HFI:=Lib.hid (HALL.out i hi hpre hstop)
     replace hbW2:=hbW2.trans (hbc.mono hbW2.size)
     replace bW2:=bW2.trans (hbc.mono bW2.size)
     replace hown:=own_below hown hbc
     clear hpre hstop hrow hbc
     go_wp2_with fail
     have hdw:Below wc.heap.size wc wc.drew:=(Below.refl _ _).drew
     refine wp_mix (fun V=>Below wc.drew.heap.size wc.drew V) 13 (by kernel_rfl) (by kernel_rfl) (Below.refl _ _) ?_
     obtain ⟨wz,hwz⟩:∃ V,V=wc.drew:=⟨_,rfl⟩
     rw [← hwz] at hdw ⊢
     have rz:=own_below hown hdw
     clear hwz hown
     obtain ⟨sz,hsz⟩:∃ n,n=wz.heap.size:=⟨_,rfl⟩
     have hr:=Below.refl sz wz
     have hszle:sz≤wz.heap.size:=by omega
     have hszc:wc.heap.size≤sz:=by rw [hsz];exact hdw.size
     rw [← hsz]
     have HSZ:=Lib.hid hsz
     clear hsz
     rcases id rz.2 with ⟨hv,hlen0⟩ | ⟨g0',cap0,cur,hv,hgb,hB,-,-,-,-⟩
     ·injection hv with hv1 hv2 hv3
      subst hv1;subst hv3
      have hL0:L=[]:=List.eq_nil_of_length_eq_zero hlen0
      subst hL0
      obtain rfl:i=0:=by simpa using hi
      clear hv2 hlen0 hi
      (refine m_q 1 (v:=?_) (by kernel_rfl) rfl rfl (fun W hW=>?_) ?_;rotate_left;(go_simp;first | done | with_reducible rfl);simp only [pt1,pt3,pt4,pt5]);(refine m_q 2 (v:=?_) (by kernel_rfl) rfl rfl (fun W hW=>?_) ?_;rotate_left;(go_simp;first | done | with_reducible rfl);simp only [pt1,pt3,pt4,pt5]);(refine m_q 3 (v:=?_) (by kernel_rfl) rfl rfl (fun W hW=>?_) ?_;rotate_left;(go_simp;first | done | with_reducible rfl);simp only [pt1,pt3,pt4,pt5]);(refine m_q 5 (v:=?_) (by kernel_rfl) rfl rfl (fun W hW=>?_) ?_;rotate_left;(go_simp;first | done | with_reducible rfl);simp only [pt1,pt3,pt4,pt5]);(refine m_q 8 (v:=?_) (by kernel_rfl) rfl rfl (fun W hW=>?_) ?_;rotate_left;(go_simp;first | done | with_reducible rfl);simp only [pt1,pt3,pt4,pt5]);(refine m_q 9 (v:=?_) (by kernel_rfl) rfl rfl (fun W hW=>?_) ?_;rotate_left;(go_simp;first | done | with_reducible rfl);simp only [pt1,pt3,pt4,pt5]);(refine m_q 10 (v:=?_) (by kernel_rfl) rfl rfl (fun W hW=>?_) ?_;rotate_left;(go_simp;first | done | with_reducible rfl);simp only [pt1,pt3,pt4,pt5])
      refine m_join (β:=Value×Nat) #[true,true,true,true,true,true,true,false,true,true,true,false,false] 3
       (fun x f=>#[f 0,.pointer (some ⟨X,0,none⟩),.slice none 0 0,.slice none 0 0,.int .u64 (q:Int),f 5,f 6,f 7,f 8,f 9,f 10,f 11,f 12,f 13,f 14,f 15,f 16,f 17,f 18,f 19,f 20,f 21,f 22,f 23,f 24,f 25,f 26,f 27,f 28,f 29,f 30,f 31,f 32,f 33,f 34,f 35,f 36,f 37,f 38,f 39,f 40,f 41,x.1,f 43,.slice (some ⟨x.2,0,none⟩) 1 1,f 45,f 46,f 47,.slice none 0 0,f 49,f 50])
       (fun x ds V=>ds=[]∧Below sz wz V∧V.ownsRow sz 146 1 x.1 (0) ([])∧Blk V x.2 146 #[.int .u64 (q:Int)]∧sz≤x.2) ?lf1 ?tr1
      case tr1 =>
       intro HL
       refine m_s2 0 6 (by kernel_rfl) rfl rfl ?_ ?_
       ·go_wp2_with fail
        have sz_0:=Nat.le_trans hszle hr.size
        refine absN fun V0 B0 hb hz=>?_
        replace hr:=hr.trans (hb.mono sz_0)
        obtain ⟨g0,hg0⟩:∃ g,g=wz.heap.size:=⟨_,rfl⟩
        rw [← hg0] at B0 sz_0 ⊢
        clear hb hz hg0
        have own0:=own_blk0 (base:=sz) (size:=1) B0 sz_0
        have l0:=B0.lt
        refine m_keep hr ?_
        refine m_s2 4 6 (by kernel_rfl) rfl rfl ?_ ?_
        ·go_wp2_with (at_builtin;refine wpList_append_own_none rfl _ _ 56 rfl sz 146 i0 1 Tryz.underlying56 hi0 _ _ _ rfl own0 rfl ?_)
         refine m_keep hr ?_
         refine m_s1 6 (by kernel_rfl) rfl ?_
         go_wp2_with fail
         have sz_6:=Nat.le_trans hszle hr.size
         refine absN fun V6 B6 hb hz=>?_
         replace hr:=hr.trans (hb.mono sz_6)
         have lo:=l0
         replace own0:=own_below own0 hb
         obtain ⟨g6,hg6⟩:∃ g,g=V0.heap.size:=⟨_,rfl⟩
         rw [← hg6] at B6 sz_6 ⊢
         have n60:g0≠g6:=by omega
         clear hb hz hg6
         refine m_keep hr ?_
         exact HL (.slice (some ⟨g0,0,none⟩) 0 0,g6) _ _ _ (by kernel_rfl) rfl ⟨by first | rfl | trivial,hr,own0,B6,sz_6⟩
        ·go_wp2_with fail
         have sz_6:=Nat.le_trans hszle hr.size
         refine absN fun V6 B6 hb hz=>?_
         replace hr:=hr.trans (hb.mono sz_6)
         have lo:=l0
         replace own0:=own_below own0 hb
         obtain ⟨g6,hg6⟩:∃ g,g=V0.heap.size:=⟨_,rfl⟩
         rw [← hg6] at B6 sz_6 ⊢
         have n60:g0≠g6:=by omega
         clear hb hz hg6
         refine m_keep hr ?_
         refine m_s1 4 (by kernel_rfl) rfl ?_
         go_wp2_with (at_builtin;refine wpList_append_own_none rfl _ _ 56 rfl sz 146 i0 1 Tryz.underlying56 hi0 _ _ _ rfl own0 rfl ?_)
         refine m_keep hr ?_
         exact HL (.slice (some ⟨g0,0,none⟩) 0 0,g6) _ _ _ (by kernel_rfl) rfl ⟨by first | rfl | trivial,hr,own0,B6,sz_6⟩
       ·go_wp2_with fail
        have sz_6:=Nat.le_trans hszle hr.size
        refine absN fun V6 B6 hb hz=>?_
        replace hr:=hr.trans (hb.mono sz_6)
        obtain ⟨g6,hg6⟩:∃ g,g=wz.heap.size:=⟨_,rfl⟩
        rw [← hg6] at B6 sz_6 ⊢
        clear hb hz hg6
        refine m_keep hr ?_
        refine m_s1 0 (by kernel_rfl) rfl ?_
        go_wp2_with fail
        have sz_0:=Nat.le_trans hszle hr.size
        refine absN fun V0 B0 hb hz=>?_
        replace hr:=hr.trans (hb.mono sz_0)
        have n6:g6 < V6.heap.size:=B6.lt
        replace B6:=B6.below hb B6.lt
        obtain ⟨g0,hg0⟩:∃ g,g=V6.heap.size:=⟨_,rfl⟩
        rw [← hg0] at B0 sz_0 ⊢
        have n60:g0≠g6:=by omega
        clear hb hz hg0
        have own0:=own_blk0 (base:=sz) (size:=1) B0 sz_0
        have l0:=B0.lt
        refine m_keep hr ?_
        refine m_s1 4 (by kernel_rfl) rfl ?_
        go_wp2_with (at_builtin;refine wpList_append_own_none rfl _ _ 56 rfl sz 146 i0 1 Tryz.underlying56 hi0 _ _ _ rfl own0 rfl ?_)
        refine m_keep hr ?_
        exact HL (.slice (some ⟨g0,0,none⟩) 0 0,g6) _ _ _ (by kernel_rfl) rfl ⟨by first | rfl | trivial,hr,own0,B6,sz_6⟩
      clear hr
      rintro ⟨v4,g6⟩ f ds V ⟨rfl,hr,hown4,B6,sz_6⟩
      dsimp only at hr hown4 B6 sz_6 ⊢
      have HS6:=hideC (World.news_of_block B6)
      have szv:=Nat.le_trans hszle hr.size
      refine m_s1 7 (by kernel_rfl) rfl ?_
      go_wp2_with (at_builtin;refine wpList_append_own _ rfl _ _ 56 rfl sz 146 i0 (.int .u64 0) 1 8 Tryz.underlying56 hi0 hz0 hz1 hz2 rfl (by decide) _ _ _ rfl hown4 ⟨g6,0,none⟩ (1) (1) ([.int .u64 (q:Int)]) rfl (rfl) HS6.out (by intro u hu;simp at hu;subst hu;rfl) (by unfold maxLen;omega) (by omega) (by first | omega | (simp;done) | (simp;omega)) ?_;intro v5 W5 hown5 hgrow5 _)
      replace hr:=hr.grown hgrow5 (by omega) (fun q hq=>(hown4.lt q hq).1)
      refine m_keep hr ?_
      refine m_s1 11 (by kernel_rfl) rfl ?_
      go_wp2_with (at_builtin;refine wpList_append_own_none rfl _ _ 56 rfl sz 146 i0 1 Tryz.underlying56 hi0 _ _ _ rfl hown5 rfl ?_)
      refine m_keep hr ?_
      refine m_s1 12 (by kernel_rfl) rfl ?_
      go_wp2_with fail
      refine m_keep hr ?_
      refine m_end (by kernel_rfl) ?_
      go_wp2_with fail
      exact ⟨(q+1,v5),by first | rfl | (show _=_;rw [← hinc];rfl),⟨by show 1≤q+1;omega,by show q+1≤E;omega,by first | rfl | trivial,hbW2.trans ((hdw.trans (hr.mono hszc)).mono hbW2.size),by rw [HFI.out];exact own_ins hown5 (by simp) (Nat.le_trans hbW2.size hszc)⟩,by show E-(q+1) < E-q;omega⟩
     ·injection hv with hv1 hv2 hv3
      subst hv1
      clear hv2 hv3
      obtain ⟨gq,hgq⟩:∃ x,x=g0':=⟨_,rfl⟩
      subst hgq
      obtain ⟨cap,hcap'⟩:∃ x,x=cap1:=⟨_,rfl⟩
      subst hcap'
      have hcell:∀ V,Below sz wz V→∀ (k:Nat) u,(u64L L)[k]?=some u→V.cell? ⟨gq,0+k,none⟩=some u:=by
       obtain ⟨_,_,e9,_,_,hrw,_⟩:=row_of_own rz
       intro V hV k u hu
       obtain ⟨g9,o9,e8,hg9,hc9⟩:=(hrw.below (by rw [← HSZ.out];exact hV)) (by have:=(List.getElem?_eq_some_iff.1 hu).1;omega)
       cases e9;cases e8
       exact hc9 k u hu
      clear hgb hB
      have hic:i≤cap:=by omega
      have e13:(i:Int)≤(L.length:Int):=by omega
      have e14:(0:Int)≤(i:Int):=by omega
      have e15:(i:Int)≤(cap:Int):=by omega
      by_cases hci:i=cap
      ·subst hci
       (refine m_q 1 (v:=?_) (by kernel_rfl) rfl rfl (fun W hW=>?_) ?_;rotate_left;(go_simp;first | done | with_reducible rfl);simp only [pt1,pt3,pt4,pt5]);(refine m_q 2 (v:=?_) (by kernel_rfl) rfl rfl (fun W hW=>?_) ?_;rotate_left;(go_simp;first | done | with_reducible rfl);simp only [pt1,pt3,pt4,pt5]);(refine m_q 3 (v:=?_) (by kernel_rfl) rfl rfl (fun W hW=>?_) ?_;rotate_left;(go_simp;first | done | with_reducible rfl);simp only [pt1,pt3,pt4,pt5]);(refine m_q 5 (v:=?_) (by kernel_rfl) rfl rfl (fun W hW=>?_) ?_;rotate_left;(go_simp;first | done | with_reducible rfl);simp only [pt1,pt3,pt4,pt5]);(refine m_q 8 (v:=?_) (by kernel_rfl) rfl rfl (fun W hW=>?_) ?_;rotate_left;(go_simp;first | done | with_reducible rfl);simp only [pt1,pt3,pt4,pt5]);(refine m_q 9 (v:=?_) (by kernel_rfl) rfl rfl (fun W hW=>?_) ?_;rotate_left;(go_simp;first | done | with_reducible rfl);simp only [pt1,pt3,pt4,pt5]);(refine m_q 10 (v:=?_) (by kernel_rfl) rfl rfl (fun W hW=>?_) ?_;rotate_left;(go_simp;first | done | with_reducible rfl);simp only [pt1,pt3,pt4,pt5])
       refine m_join (β:=Value×Nat) #[true,true,true,true,true,true,true,false,true,true,true,false,false] 3
        (fun x f=>#[f 0,.pointer (some ⟨X,0,none⟩),.slice none 0 0,.slice (some ⟨gq,0,none⟩) L.length i,.int .u64 (q:Int),f 5,f 6,f 7,f 8,f 9,f 10,f 11,f 12,f 13,f 14,f 15,f 16,f 17,f 18,f 19,f 20,f 21,f 22,f 23,f 24,f 25,f 26,f 27,f 28,f 29,f 30,f 31,f 32,f 33,f 34,f 35,f 36,f 37,f 38,f 39,f 40,f 41,x.1,f 43,.slice (some ⟨x.2,0,none⟩) 1 1,f 45,f 46,f 47,.slice (some ⟨gq,0,none⟩) 0 0,f 49,f 50])
        (fun x ds V=>ds=[]∧Below sz wz V∧V.ownsRow sz 146 1 x.1 (i) ((u64L L).take i)∧Blk V x.2 146 #[.int .u64 (q:Int)]∧sz≤x.2) ?lf2 ?tr2
       case tr2 =>
        intro HL
        refine m_s2 0 6 (by kernel_rfl) rfl rfl ?_ ?_
        ·go_wp2_with fail
         have sz_0:=Nat.le_trans hszle hr.size
         refine absN fun V0 B0 hb hz=>?_
         replace hr:=hr.trans (hb.mono sz_0)
         obtain ⟨g0,hg0⟩:∃ g,g=wz.heap.size:=⟨_,rfl⟩
         rw [← hg0] at B0 sz_0 ⊢
         clear hb hz hg0
         have own0:=own_blk0 (base:=sz) (size:=1) B0 sz_0
         have l0:=B0.lt
         refine m_keep hr ?_
         refine m_s2 4 6 (by kernel_rfl) rfl rfl ?_ ?_
         ·have HS1:=hideC (news_take (hcell V0 hr) i)
          have sz1:=Nat.le_trans hszle hr.size
          go_wp2_with (at_builtin;refine wpList_append_own _ rfl _ _ 56 rfl sz 146 i0 (.int .u64 0) 1 8 Tryz.underlying56 hi0 hz0 hz1 hz2 rfl (by decide) _ _ _ rfl own0 ⟨gq,0,none⟩ (i) (i) ((u64L L).take i) rfl (by rw [List.length_take,u64L_len];omega) HS1.out (fun u hu=>u64L_one L u (List.mem_of_mem_take hu)) (by unfold maxLen;omega) (by omega) (by first | omega | (simp;done) | (simp;omega)) ?_;intro v1 V1 hown1 hgrow1 _)
          rw [List.nil_append,Nat.zero_add] at hown1
          replace hr:=hr.grown hgrow1 (by omega) (fun q hq=>(own0.lt q hq).1)
          refine m_keep hr ?_
          refine m_s1 6 (by kernel_rfl) rfl ?_
          have lo1:=fun q hq=>(hown1.lt q hq).2
          go_wp2_with fail
          have sz_6:=Nat.le_trans hszle hr.size
          refine absN fun V6 B6 hb hz=>?_
          replace hr:=hr.trans (hb.mono sz_6)
          have lo:=lo1
          replace hown1:=own_below hown1 hb
          obtain ⟨g6,hg6⟩:∃ g,g=V1.heap.size:=⟨_,rfl⟩
          rw [← hg6] at B6 sz_6 ⊢
          clear hb hz hg6
          refine m_keep hr ?_
          exact HL (v1,g6) _ _ _ (by kernel_rfl) rfl ⟨by first | rfl | trivial,hr,hown1,B6,sz_6⟩
         ·go_wp2_with fail
          have sz_6:=Nat.le_trans hszle hr.size
          refine absN fun V6 B6 hb hz=>?_
          replace hr:=hr.trans (hb.mono sz_6)
          have lo:=l0
          replace own0:=own_below own0 hb
          obtain ⟨g6,hg6⟩:∃ g,g=V0.heap.size:=⟨_,rfl⟩
          rw [← hg6] at B6 sz_6 ⊢
          have n60:g0≠g6:=by omega
          clear hb hz hg6
          refine m_keep hr ?_
          refine m_s1 4 (by kernel_rfl) rfl ?_
          have l6:=B6.lt
          have HS1:=hideC (news_take (hcell V6 hr) i)
          have sz1:=Nat.le_trans hszle hr.size
          go_wp2_with (at_builtin;refine wpList_append_own _ rfl _ _ 56 rfl sz 146 i0 (.int .u64 0) 1 8 Tryz.underlying56 hi0 hz0 hz1 hz2 rfl (by decide) _ _ _ rfl own0 ⟨gq,0,none⟩ (i) (i) ((u64L L).take i) rfl (by rw [List.length_take,u64L_len];omega) HS1.out (fun u hu=>u64L_one L u (List.mem_of_mem_take hu)) (by unfold maxLen;omega) (by omega) (by first | omega | (simp;done) | (simp;omega)) ?_;intro v1 V1 hown1 hgrow1 _)
          rw [List.nil_append,Nat.zero_add] at hown1
          replace B6:Blk V1 g6 146 #[.int .u64 (q:Int)]:=(hgrow1.block g6 B6.lt (by intro e;injection e with e;exact n60 e.symm)).trans B6
          replace hr:=hr.grown hgrow1 (by omega) (fun q hq=>(own0.lt q hq).1)
          refine m_keep hr ?_
          exact HL (v1,g6) _ _ _ (by kernel_rfl) rfl ⟨by first | rfl | trivial,hr,hown1,B6,sz_6⟩
        ·go_wp2_with fail
         have sz_6:=Nat.le_trans hszle hr.size
         refine absN fun V6 B6 hb hz=>?_
         replace hr:=hr.trans (hb.mono sz_6)
         obtain ⟨g6,hg6⟩:∃ g,g=wz.heap.size:=⟨_,rfl⟩
         rw [← hg6] at B6 sz_6 ⊢
         clear hb hz hg6
         refine m_keep hr ?_
         refine m_s1 0 (by kernel_rfl) rfl ?_
         go_wp2_with fail
         have sz_0:=Nat.le_trans hszle hr.size
         refine absN fun V0 B0 hb hz=>?_
         replace hr:=hr.trans (hb.mono sz_0)
         have n6:g6 < V6.heap.size:=B6.lt
         replace B6:=B6.below hb B6.lt
         obtain ⟨g0,hg0⟩:∃ g,g=V6.heap.size:=⟨_,rfl⟩
         rw [← hg0] at B0 sz_0 ⊢
         have n60:g0≠g6:=by omega
         clear hb hz hg0
         have own0:=own_blk0 (base:=sz) (size:=1) B0 sz_0
         have l0:=B0.lt
         refine m_keep hr ?_
         refine m_s1 4 (by kernel_rfl) rfl ?_
         have HS1:=hideC (news_take (hcell V0 hr) i)
         have sz1:=Nat.le_trans hszle hr.size
         go_wp2_with (at_builtin;refine wpList_append_own _ rfl _ _ 56 rfl sz 146 i0 (.int .u64 0) 1 8 Tryz.underlying56 hi0 hz0 hz1 hz2 rfl (by decide) _ _ _ rfl own0 ⟨gq,0,none⟩ (i) (i) ((u64L L).take i) rfl (by rw [List.length_take,u64L_len];omega) HS1.out (fun u hu=>u64L_one L u (List.mem_of_mem_take hu)) (by unfold maxLen;omega) (by omega) (by first | omega | (simp;done) | (simp;omega)) ?_;intro v1 V1 hown1 hgrow1 _)
         rw [List.nil_append,Nat.zero_add] at hown1
         replace B6:Blk V1 g6 146 #[.int .u64 (q:Int)]:=(hgrow1.block g6 B6.lt (by intro e;injection e with e;exact n60 e.symm)).trans B6
         replace hr:=hr.grown hgrow1 (by omega) (fun q hq=>(own0.lt q hq).1)
         refine m_keep hr ?_
         exact HL (v1,g6) _ _ _ (by kernel_rfl) rfl ⟨by first | rfl | trivial,hr,hown1,B6,sz_6⟩
       clear hr
       rintro ⟨v4,g6⟩ f ds V ⟨rfl,hr,hown4,B6,sz_6⟩
       dsimp only at hr hown4 B6 sz_6 ⊢
       have HS6:=hideC (World.news_of_block B6)
       have szv:=Nat.le_trans hszle hr.size
       refine m_s1 7 (by kernel_rfl) rfl ?_
       go_wp2_with (at_builtin;refine wpList_append_own _ rfl _ _ 56 rfl sz 146 i0 (.int .u64 0) 1 8 Tryz.underlying56 hi0 hz0 hz1 hz2 rfl (by decide) _ _ _ rfl hown4 ⟨g6,0,none⟩ (1) (1) ([.int .u64 (q:Int)]) rfl (rfl) HS6.out (by intro u hu;simp at hu;subst hu;rfl) (by unfold maxLen;omega) (by omega) (by first | omega | (simp;done) | (simp;omega)) ?_;intro v5 W5 hown5 hgrow5 _)
       replace hr:=hr.grown hgrow5 (by omega) (fun q hq=>(hown4.lt q hq).1)
       refine m_keep hr ?_
       refine m_s1 11 (by kernel_rfl) rfl ?_
       have HS2:=hideC (news_drop (hcell W5 hr) i)
       have sz5:=Nat.le_trans hszle hr.size
       rw [Nat.zero_add] at HS2
       go_wp2_with (at_builtin;refine wpList_append_own _ rfl _ _ 56 rfl sz 146 i0 (.int .u64 0) 1 8 Tryz.underlying56 hi0 hz0 hz1 hz2 rfl (by decide) _ _ _ rfl hown5 ⟨gq,0,none⟩ (0) (0) ([]) rfl (rfl) (fun j u hu=>by simp at hu) (by simp) (by unfold maxLen;omega) (by omega) (by first | omega | (simp;done) | (simp;omega)) ?_;intro v6 W6 hown6 hgrow6 _)
       replace hr:=hr.grown hgrow6 (by omega) (fun q hq=>(hown5.lt q hq).1)
       refine m_keep hr ?_
       refine m_s1 12 (by kernel_rfl) rfl ?_
       go_wp2_with fail
       refine m_keep hr ?_
       refine m_end (by kernel_rfl) ?_
       go_wp2_with fail
       exact ⟨(q+1,v6),by first | rfl | (show _=_;rw [← hinc];rfl),⟨by show 1≤q+1;omega,by show q+1≤E;omega,by first | rfl | trivial,hbW2.trans ((hdw.trans (hr.mono hszc)).mono hbW2.size),by rw [HFI.out];exact own_ins hown6 (by rw [show L.drop i=[] from List.drop_eq_nil_of_le (by omega)];simp [List.map_take]) (Nat.le_trans hbW2.size hszc)⟩,by show E-(q+1) < E-q;omega⟩
      ·(refine m_q 1 (v:=?_) (by kernel_rfl) rfl rfl (fun W hW=>?_) ?_;rotate_left;(go_simp;first | done | with_reducible rfl);simp only [pt1,pt3,pt4,pt5]);(refine m_q 2 (v:=?_) (by kernel_rfl) rfl rfl (fun W hW=>?_) ?_;rotate_left;(go_simp;first | done | with_reducible rfl);simp only [pt1,pt3,pt4,pt5]);(refine m_q 3 (v:=?_) (by kernel_rfl) rfl rfl (fun W hW=>?_) ?_;rotate_left;(go_simp;first | done | with_reducible rfl);simp only [pt1,pt3,pt4,pt5]);(refine m_q 5 (v:=?_) (by kernel_rfl) rfl rfl (fun W hW=>?_) ?_;rotate_left;(go_simp;first | done | with_reducible rfl);simp only [pt1,pt3,pt4,pt5]);(refine m_q 8 (v:=?_) (by kernel_rfl) rfl rfl (fun W hW=>?_) ?_;rotate_left;(go_simp;first | done | with_reducible rfl);simp only [pt1,pt3,pt4,pt5]);(refine m_q 9 (v:=?_) (by kernel_rfl) rfl rfl (fun W hW=>?_) ?_;rotate_left;(go_simp;first | done | with_reducible rfl);simp only [pt1,pt3,pt4,pt5]);(refine m_q 10 (v:=?_) (by kernel_rfl) rfl rfl (fun W hW=>?_) ?_;rotate_left;(go_simp;first | done | with_reducible rfl);simp only [pt1,pt3,pt4,pt5])
       refine m_join (β:=Value×Nat) #[true,true,true,true,true,true,true,false,true,true,true,false,false] 3
        (fun x f=>#[f 0,.pointer (some ⟨X,0,none⟩),.slice none 0 0,.slice (some ⟨gq,0,none⟩) L.length cap,.int .u64 (q:Int),f 5,f 6,f 7,f 8,f 9,f 10,f 11,f 12,f 13,f 14,f 15,f 16,f 17,f 18,f 19,f 20,f 21,f 22,f 23,f 24,f 25,f 26,f 27,f 28,f 29,f 30,f 31,f 32,f 33,f 34,f 35,f 36,f 37,f 38,f 39,f 40,f 41,x.1,f 43,.slice (some ⟨x.2,0,none⟩) 1 1,f 45,f 46,f 47,.slice (some ⟨gq,i,none⟩) (L.length-i) (cap-i),f 49,f 50])
        (fun x ds V=>ds=[]∧Below sz wz V∧V.ownsRow sz 146 1 x.1 (i) ((u64L L).take i)∧Blk V x.2 146 #[.int .u64 (q:Int)]∧sz≤x.2) ?lf3 ?tr3
       case tr3 =>
        intro HL
        refine m_s2 0 6 (by kernel_rfl) rfl rfl ?_ ?_
        ·go_wp2_with fail
         have sz_0:=Nat.le_trans hszle hr.size
         refine absN fun V0 B0 hb hz=>?_
         replace hr:=hr.trans (hb.mono sz_0)
         obtain ⟨g0,hg0⟩:∃ g,g=wz.heap.size:=⟨_,rfl⟩
         rw [← hg0] at B0 sz_0 ⊢
         clear hb hz hg0
         have own0:=own_blk0 (base:=sz) (size:=1) B0 sz_0
         have l0:=B0.lt
         refine m_keep hr ?_
         refine m_s2 4 6 (by kernel_rfl) rfl rfl ?_ ?_
         ·have HS1:=hideC (news_take (hcell V0 hr) i)
          have sz1:=Nat.le_trans hszle hr.size
          go_wp2_with (at_builtin;refine wpList_append_own _ rfl _ _ 56 rfl sz 146 i0 (.int .u64 0) 1 8 Tryz.underlying56 hi0 hz0 hz1 hz2 rfl (by decide) _ _ _ rfl own0 ⟨gq,0,none⟩ (i) (cap) ((u64L L).take i) rfl (by rw [List.length_take,u64L_len];omega) HS1.out (fun u hu=>u64L_one L u (List.mem_of_mem_take hu)) (by unfold maxLen;omega) (by omega) (by first | omega | (simp;done) | (simp;omega)) ?_;intro v1 V1 hown1 hgrow1 _)
          rw [List.nil_append,Nat.zero_add] at hown1
          replace hr:=hr.grown hgrow1 (by omega) (fun q hq=>(own0.lt q hq).1)
          refine m_keep hr ?_
          refine m_s1 6 (by kernel_rfl) rfl ?_
          have lo1:=fun q hq=>(hown1.lt q hq).2
          go_wp2_with fail
          have sz_6:=Nat.le_trans hszle hr.size
          refine absN fun V6 B6 hb hz=>?_
          replace hr:=hr.trans (hb.mono sz_6)
          have lo:=lo1
          replace hown1:=own_below hown1 hb
          obtain ⟨g6,hg6⟩:∃ g,g=V1.heap.size:=⟨_,rfl⟩
          rw [← hg6] at B6 sz_6 ⊢
          clear hb hz hg6
          refine m_keep hr ?_
          exact HL (v1,g6) _ _ _ (by kernel_rfl) rfl ⟨by first | rfl | trivial,hr,hown1,B6,sz_6⟩
         ·go_wp2_with fail
          have sz_6:=Nat.le_trans hszle hr.size
          refine absN fun V6 B6 hb hz=>?_
          replace hr:=hr.trans (hb.mono sz_6)
          have lo:=l0
          replace own0:=own_below own0 hb
          obtain ⟨g6,hg6⟩:∃ g,g=V0.heap.size:=⟨_,rfl⟩
          rw [← hg6] at B6 sz_6 ⊢
          have n60:g0≠g6:=by omega
          clear hb hz hg6
          refine m_keep hr ?_
          refine m_s1 4 (by kernel_rfl) rfl ?_
          have l6:=B6.lt
          have HS1:=hideC (news_take (hcell V6 hr) i)
          have sz1:=Nat.le_trans hszle hr.size
          go_wp2_with (at_builtin;refine wpList_append_own _ rfl _ _ 56 rfl sz 146 i0 (.int .u64 0) 1 8 Tryz.underlying56 hi0 hz0 hz1 hz2 rfl (by decide) _ _ _ rfl own0 ⟨gq,0,none⟩ (i) (cap) ((u64L L).take i) rfl (by rw [List.length_take,u64L_len];omega) HS1.out (fun u hu=>u64L_one L u (List.mem_of_mem_take hu)) (by unfold maxLen;omega) (by omega) (by first | omega | (simp;done) | (simp;omega)) ?_;intro v1 V1 hown1 hgrow1 _)
          rw [List.nil_append,Nat.zero_add] at hown1
          replace B6:Blk V1 g6 146 #[.int .u64 (q:Int)]:=(hgrow1.block g6 B6.lt (by intro e;injection e with e;exact n60 e.symm)).trans B6
          replace hr:=hr.grown hgrow1 (by omega) (fun q hq=>(own0.lt q hq).1)
          refine m_keep hr ?_
          exact HL (v1,g6) _ _ _ (by kernel_rfl) rfl ⟨by first | rfl | trivial,hr,hown1,B6,sz_6⟩
        ·go_wp2_with fail
         have sz_6:=Nat.le_trans hszle hr.size
         refine absN fun V6 B6 hb hz=>?_
         replace hr:=hr.trans (hb.mono sz_6)
         obtain ⟨g6,hg6⟩:∃ g,g=wz.heap.size:=⟨_,rfl⟩
         rw [← hg6] at B6 sz_6 ⊢
         clear hb hz hg6
         refine m_keep hr ?_
         refine m_s1 0 (by kernel_rfl) rfl ?_
         go_wp2_with fail
         have sz_0:=Nat.le_trans hszle hr.size
         refine absN fun V0 B0 hb hz=>?_
         replace hr:=hr.trans (hb.mono sz_0)
         have n6:g6 < V6.heap.size:=B6.lt
         replace B6:=B6.below hb B6.lt
         obtain ⟨g0,hg0⟩:∃ g,g=V6.heap.size:=⟨_,rfl⟩
         rw [← hg0] at B0 sz_0 ⊢
         have n60:g0≠g6:=by omega
         clear hb hz hg0
         have own0:=own_blk0 (base:=sz) (size:=1) B0 sz_0
         have l0:=B0.lt
         refine m_keep hr ?_
         refine m_s1 4 (by kernel_rfl) rfl ?_
         have HS1:=hideC (news_take (hcell V0 hr) i)
         have sz1:=Nat.le_trans hszle hr.size
         go_wp2_with (at_builtin;refine wpList_append_own _ rfl _ _ 56 rfl sz 146 i0 (.int .u64 0) 1 8 Tryz.underlying56 hi0 hz0 hz1 hz2 rfl (by decide) _ _ _ rfl own0 ⟨gq,0,none⟩ (i) (cap) ((u64L L).take i) rfl (by rw [List.length_take,u64L_len];omega) HS1.out (fun u hu=>u64L_one L u (List.mem_of_mem_take hu)) (by unfold maxLen;omega) (by omega) (by first | omega | (simp;done) | (simp;omega)) ?_;intro v1 V1 hown1 hgrow1 _)
         rw [List.nil_append,Nat.zero_add] at hown1
         replace B6:Blk V1 g6 146 #[.int .u64 (q:Int)]:=(hgrow1.block g6 B6.lt (by intro e;injection e with e;exact n60 e.symm)).trans B6
         replace hr:=hr.grown hgrow1 (by omega) (fun q hq=>(own0.lt q hq).1)
         refine m_keep hr ?_
         exact HL (v1,g6) _ _ _ (by kernel_rfl) rfl ⟨by first | rfl | trivial,hr,hown1,B6,sz_6⟩
       clear hr
       rintro ⟨v4,g6⟩ f ds V ⟨rfl,hr,hown4,B6,sz_6⟩
       dsimp only at hr hown4 B6 sz_6 ⊢
       have HS6:=hideC (World.news_of_block B6)
       have szv:=Nat.le_trans hszle hr.size
       refine m_s1 7 (by kernel_rfl) rfl ?_
       go_wp2_with (at_builtin;refine wpList_append_own _ rfl _ _ 56 rfl sz 146 i0 (.int .u64 0) 1 8 Tryz.underlying56 hi0 hz0 hz1 hz2 rfl (by decide) _ _ _ rfl hown4 ⟨g6,0,none⟩ (1) (1) ([.int .u64 (q:Int)]) rfl (rfl) HS6.out (by intro u hu;simp at hu;subst hu;rfl) (by unfold maxLen;omega) (by omega) (by first | omega | (simp;done) | (simp;omega)) ?_;intro v5 W5 hown5 hgrow5 _)
       replace hr:=hr.grown hgrow5 (by omega) (fun q hq=>(hown4.lt q hq).1)
       refine m_keep hr ?_
       refine m_s1 11 (by kernel_rfl) rfl ?_
       have HS2:=hideC (news_drop (hcell W5 hr) i)
       have sz5:=Nat.le_trans hszle hr.size
       rw [Nat.zero_add] at HS2
       go_wp2_with (at_builtin;refine wpList_append_own _ rfl _ _ 56 rfl sz 146 i0 (.int .u64 0) 1 8 Tryz.underlying56 hi0 hz0 hz1 hz2 rfl (by decide) _ _ _ rfl hown5 ⟨gq,i,none⟩ (L.length-i) (cap-i) ((u64L L).drop i) rfl (by rw [List.length_drop,u64L_len];omega) HS2.out (fun u hu=>u64L_one L u (List.mem_of_mem_drop hu)) (by unfold maxLen;omega) (by omega) (by first | omega | (simp;done) | (simp;omega)) ?_;intro v6 W6 hown6 hgrow6 _)
       replace hr:=hr.grown hgrow6 (by omega) (fun q hq=>(hown5.lt q hq).1)
       refine m_keep hr ?_
       refine m_s1 12 (by kernel_rfl) rfl ?_
       go_wp2_with fail
       refine m_keep hr ?_
       refine m_end (by kernel_rfl) ?_
       go_wp2_with fail
       exact ⟨(q+1,v6),by first | rfl | (show _=_;rw [← hinc];rfl),⟨by show 1≤q+1;omega,by show q+1≤E;omega,by first | rfl | trivial,hbW2.trans ((hdw.trans (hr.mono hszc)).mono hbW2.size),by rw [HFI.out];exact own_ins hown6 (by simp [List.map_take,List.map_drop]) (Nat.le_trans hbW2.size hszc)⟩,by show E-(q+1) < E-q;omega⟩
  ·have hno:oneS C N s=false:=by unfold oneS;rw [← hq,decide_eq_false hqs];rfl
   have HNO:=Lib.hid (allTo_no hno)
   have hne:((q:Int) != (s:Int))=true:=by rw [bne_iff_ne];omega
   clear hno hq
   go_wp2_with fail
   exact ⟨(s+1,v),by first | rfl | (show _=_;rw [← hinc];rfl),⟨by show 1≤s+1;omega,by show s+1≤E;omega,by first | rfl | trivial,hbW1,by rw [HNO.out];exact hown1⟩,by show E-(s+1) < E-s;omega⟩
 ·obtain rfl:s=E:=by omega
  go_wp2_with fail
  go_ret
  exact ⟨v,rfl,own_low hown hb0.size,bW⟩
end Mix2
theorem in_ref (C:Nat) (A:Option Addr) (c:Nat) (M:List (List Bool)) (s i j:Nat) (w:World) (h:IsRef w C A M) (hC:C≤12) (hR:M.length≤60) (hi:i < M.length) (hj:j < C) :
  Calls Tryz.prog 138 #[refV C A M.length c,.int .u64 s,.int .i64 i,.int .i64 j] w fun e w'=>e=.returned (.bool (inS C (nsOf C M) s (i,j)))∧Below w.heap.size w w':=by
 have HHV:=Lib.hid (fun W (hb:Below w.heap.size w W)=>havr_any C A c M s W (h.below hb) (by omega) hR)
 have es:=tmod_form s j
 have hin:inS C (nsOf C M) s (i,j)=(s.testBit j&&(havN C (nsOf C M) s).testBit i):=rfl
 obtain ⟨r,hr⟩:∃ r,r=havN C (nsOf C M) s:=⟨_,rfl⟩
 rw [← hr] at HHV hin
 have er:=tmod_form r i
 clear hr
 have HIN:=Lib.hid hin
 clear hin
 go_enter Tryz.func138,Tryz.ntmps138
 by_cases hs:s.testBit j=true
 ·rw [if_pos hs] at es
  rw [hs,Bool.true_and] at HIN
  clear hs
  by_cases hri:r.testBit i=true
  ·rw [if_pos hri] at er
   rw [hri] at HIN
   clear hri
   go_wp2_with fail
   refine absC1 fun W0 hX hb0 hz=>?_
   refine (HHV.out W0 hb0).mono ?_
   rintro e w1 ⟨rfl,hb1⟩
   go_wp2_with fail
   go_ret
   exact ⟨by rw [HIN.out];rfl,hb0.trans (hb1.mono hb0.size)⟩
  ·rw [if_neg hri] at er
   rw [Bool.not_eq_true] at hri
   rw [hri] at HIN
   clear hri
   go_wp2_with fail
   refine absC1 fun W0 hX hb0 hz=>?_
   refine (HHV.out W0 hb0).mono ?_
   rintro e w1 ⟨rfl,hb1⟩
   go_wp2_with fail
   go_ret
   exact ⟨by rw [HIN.out];rfl,hb0.trans (hb1.mono hb0.size)⟩
 ·rw [if_neg hs] at es
  rw [Bool.not_eq_true] at hs
  rw [hs,Bool.false_and] at HIN
  clear hs er
  go_wp2_with fail
  go_ret
  exact ⟨by rw [HIN.out];rfl,(Below.refl _ _).alloc (Nat.le_refl _) _⟩
def conR (C:Nat) (M:List (List Bool)) (i j:Int):List Nat:=if hasR C M i j=true then conL C (nsOf C M) i.toNat j.toNat else []
def conTo (C:Nat) (M:List (List Bool)) (i j:Int) (k:Nat):List Nat:=((allL C (nsOf C M)).take k).filter fun s=>hasR C M i j&&inS C (nsOf C M) s (i.toNat,j.toNat)
theorem conTo_all (C:Nat) (M:List (List Bool)) (i j:Int):conTo C M i j (allL C (nsOf C M)).length=conR C M i j:=by
 unfold conTo conR
 rw [List.take_length]
 split
 ·next h =>
  rw [← allL_con]
  refine List.filter_congr fun s _=>?_
  rw [h,Bool.true_and]
 ·next h =>
  rw [Bool.not_eq_true] at h
  rw [List.filter_eq_nil_iff]
  intro s _
  rw [h];simp
theorem hasR_parts {C:Nat} {M:List (List Bool)} {i j:Int} (h:hasR C M i j=true):∃ a b:Nat,i=a∧j=b∧a < M.length∧b < C:=by
 unfold hasR insideB at h
 rw [Bool.and_eq_true,decide_eq_true_eq] at h
 exact ⟨i.toNat,j.toNat,by omega,by omega,by omega,by omega⟩
theorem filter_take_yes {α:Type} {p:α→Bool} {l:List α} {k:Nat} {x:α} (hx:l[k]?=some x) (h:p x=true):(l.take (k+1)).filter p=(l.take k).filter p ++ [x]:=by
 rw [List.take_add_one,hx,List.filter_append];simp [h]
theorem filter_take_no {α:Type} {p:α→Bool} {l:List α} {k:Nat} {x:α} (hx:l[k]?=some x) (h:p x=false):(l.take (k+1)).filter p=(l.take k).filter p:=by
 rw [List.take_add_one,hx,List.filter_append];simp [h]
theorem concr_any (C:Nat) (A:Option Addr) (c:Nat) (M:List (List Bool)) (i j:Int) (w:World) (h:IsRef w C A M) (hC:C≤12) (hR:M.length≤60) :
  Calls Tryz.prog 97 #[refV C A M.length c,.int .i64 i,.int .i64 j] w fun e w'=>∃ v,e=.returned v∧w'.ownsRow w.heap.size 146 1 v (conR C M i j).length (u64L (conR C M i j))∧Below w.heap.size w w':=by
 obtain ⟨i0,hi0,hz0,hz1,hz2⟩:=info_parts info_u64
 have hend:=conTo_all C M i j
 have hyes:∀ k s,(allL C (nsOf C M))[k]?=some s→(hasR C M i j&&inS C (nsOf C M) s (i.toNat,j.toNat))=true→conTo C M i j (k+1)=conTo C M i j k ++ [s]:=fun k s hs h1=>filter_take_yes (p:=fun s=>hasR C M i j&&inS C (nsOf C M) s (i.toNat,j.toNat)) hs h1
 have hno:∀ k s,(allL C (nsOf C M))[k]?=some s→(hasR C M i j&&inS C (nsOf C M) s (i.toNat,j.toNat))=false→conTo C M i j (k+1)=conTo C M i j k:=fun k s hs h1=>filter_take_no (p:=fun s=>hasR C M i j&&inS C (nsOf C M) s (i.toNat,j.toNat)) hs h1
 have hle:∀ k,(conTo C M i j k).length≤k:=fun k=>Nat.le_trans (List.length_filter_le _ _) (by rw [List.length_take];omega)
 have h0:conTo C M i j 0=[]:=by simp [conTo]
 have hlen:(allL C (nsOf C M)).length≤4096:=Nat.le_trans (allTo_len C (nsOf C M) (2 ^ C)) (Nat.le_trans (Nat.pow_le_pow_right (by omega) hC) (by decide))
 have hin:=fun s W a b (hb:Below w.heap.size w W) (ha:a < M.length) (hb':b < C)=>in_ref C A c M s a b W (h.below hb) hC hR ha hb'
 have hhas:=fun W (hb:Below w.heap.size w W)=>hasr_any C A c M i j W (h.below hb)
 generalize conTo C M i j=T at hend hyes hno hle h0
 generalize conR C M i j=Z at hend ⊢
 obtain ⟨L,hL⟩:∃ L,L=allL C (nsOf C M):=⟨_,rfl⟩
 rw [← hL] at hend hyes hno hlen
 have hcall:=fun W (hb:Below w.heap.size w W)=>Mix2.all47_any C A c M W (h.below hb) hC hR
 rw [← hL] at hcall
 have HCALL:=Lib.hid hcall;have HHAS:=Lib.hid hhas;have HIN:=Lib.hid hin;have HYES:=Lib.hid hyes;have HNO:=Lib.hid hno;have HEND:=Lib.hid hend;have HLE:=Lib.hid hle;have H0:=Lib.hid h0
 clear hcall hhas hin hyes hno hend hle h0 hL
 go_enter Tryz.func97,Tryz.ntmps97
 go_wp2_with fail
 refine absC1 fun W0 hX0 hb0 hz=>?_
 obtain ⟨X,hXe⟩:∃ g,g=w.heap.size:=⟨_,rfl⟩
 rw [← hXe] at hX0 ⊢
 have HXE:=Lib.hid hXe
 clear hXe hz
 have x0:=hX0.cell 0
 have x1:=hX0.cell 1
 refine (HCALL.out W0 hb0).mono ?_
 rintro e w1 ⟨v1,rfl,hown1,hb1⟩
 obtain ⟨A1,c1,rfl,hlc,-,hrow,-⟩:=row_of_own hown1
 have b1:=hb0.trans (hb1.mono hb0.size)
 have hX1:=hX0.below hb1 hX0.lt
 clear x0 x1 hX0 hown1 hb1
 go_wp2_with fail
 refine wp_loopF (β:=Nat×Value) (fun x f=>#[f 0,.int .i64 i,.int .i64 j,.pointer (some ⟨X,0,none⟩),f 4,f 5,.slice none 0 0,x.2,f 8,f 9,f 10,.slice A1 L.length c1,.int .i64 (L.length:Int),.int .i64 (x.1:Int),f 14,f 15,f 16,f 17,f 18,f 19,f 20,f 21,f 22,f 23,f 24,f 25,f 26,f 27,f 28,f 29,f 30,f 31,f 32,f 33])
  (fun x ds W=>x.1≤L.length∧ds=[]∧Below w1.heap.size w1 W∧W.ownsRow w1.heap.size 146 1 x.2 (T x.1).length (u64L (T x.1))) (fun x=>L.length-x.1) (0,.slice none 0 0) rfl
  ⟨Nat.zero_le _,rfl,Below.refl _ _,by dsimp only;rw [H0.out];exact World.ownsRow_nil _ _ _ _⟩ ?_
 rintro ⟨k,v⟩ f ds W ⟨hk,rfl,hbW,hown⟩
 dsimp only at hk hown ⊢
 by_cases hlt:k < L.length
 ·obtain ⟨s,hs⟩:∃ s,L[k]?=some s:=⟨_,List.getElem?_eq_getElem hlt⟩
  obtain ⟨g1,o1,rfl,hg1,hc1⟩:=hrow (by rw [List.length_map];omega)
  have d1:=onB hbW (hc1 k (.int .u64 (s:Int)) (by rw [List.getElem?_map,hs];rfl))
  have bW:=b1.trans (hbW.mono b1.size)
  have hXW:=hX1.below hbW hX1.lt
  have x0:=hXW.cell 0
  have x1:=hXW.cell 1
  have hh:=HHAS.out W bW
  have HS:=Lib.hid hs
  have hle:=HLE.out k
  clear hs hc1
  cases hm:hasR C M i j with
  | false =>
   rw [hm] at hh
   have HN:=Lib.hid (HNO.out k s HS.out (by rw [hm];rfl))
   have HH:=hideC hh
   clear hm hh
   go_wp2_with fail
   refine HH.out.mono ?_
   rintro e w2 ⟨rfl,hb2⟩
   go_wp2_with fail
   exact ⟨(k+1,v),rfl,⟨by show k+1≤L.length;omega,by first | rfl | trivial,hbW.trans (hb2.mono hbW.size),by dsimp only;rw [HN.out];exact own_below hown hb2⟩,by show L.length-(k+1) < L.length-k;omega⟩
  | true =>
   obtain ⟨a,b,rfl,rfl,ha,hb⟩:=hasR_parts hm
   rw [hm] at hh
   have HIN':=Lib.hid (fun W' hb'=>HIN.out s W' a b hb' ha hb)
   have hy:=HYES.out k s HS.out
   have hn:=HNO.out k s HS.out
   rw [hm,Bool.true_and,Int.toNat_natCast,Int.toNat_natCast] at hy hn
   generalize inS C (nsOf C M) s (a,b)=t at HIN' hy hn
   have HH:=hideC hh
   have HY:=Lib.hid hy;have HN:=Lib.hid hn
   clear hm hh hy hn
   go_wp2_with fail
   refine HH.out.mono ?_
   rintro e w2 ⟨rfl,hb2⟩
   have bW2:=bW.trans (hb2.mono bW.size)
   have hbW2:=hbW.trans (hb2.mono hbW.size)
   have hX2:=hXW.below hb2 hXW.lt
   have hown2:=own_below hown hb2
   clear x0 x1 HH hown hbW hXW
   have x0:=hX2.cell 0
   have x1:=hX2.cell 1
   have HC2:=hideC (HIN'.out w2 bW2)
   go_wp2_with fail
   refine HC2.out.mono ?_
   rintro e w3 ⟨rfl,hb3⟩
   have hbW3:=hbW2.trans (hb3.mono hbW2.size)
   have hown3:=own_below hown2 hb3
   clear HC2 x0 x1 hown2 HIN'
   cases t with
   | false =>
    have HN2:=Lib.hid (HN.out rfl)
    go_wp2_with fail
    exact ⟨(k+1,v),rfl,⟨by show k+1≤L.length;omega,by first | rfl | trivial,hbW3,by dsimp only;rw [HN2.out];exact hown3⟩,by show L.length-(k+1) < L.length-k;omega⟩
   | true =>
    have HN2:=Lib.hid (HY.out rfl)
    have hsz:=hbW3.size
    have hlocs:=own_below hown3 ((Below.refl w3.heap.size w3).alloc (Nat.le_refl _) (.cells #[.int .u64 (s:Int)] 146))
    go_wp2_with (at_builtin;refine wpList_append_own _ rfl _ _ 56 rfl (w1.heap.size) 146 i0 (.int .u64 0) 1 8 Tryz.underlying56 hi0 hz0 hz1 hz2 rfl (by decide) _ _ _ rfl (hlocs) ⟨w3.heap.size,0,none⟩ 1 1 [.int .u64 (s:Int)] rfl rfl (cell_one_new _ _ _) (by simp [Value.oneCell']) (by unfold maxLen;omega) (by omega) (by simp;omega) ?_;intro v' w3 hown' hgrow _)
    have hbw:=(hbW3.alloc hbW3.size (.cells #[.int .u64 (s:Int)] 146)).grown hgrow (by simp;omega) (fun p hp=>(hlocs.lt p hp).1)
    exact ⟨(k+1,v'),rfl,⟨by show k+1≤L.length;omega,by first | rfl | trivial,hbw,by dsimp only;rw [HN2.out];exact own_ins hown' (by simp) (Nat.le_refl _)⟩,by show L.length-(k+1) < L.length-k;omega⟩
 ·obtain rfl:k=L.length:=by omega
  rw [HEND.out] at hown
  go_wp2_with fail
  go_ret
  exact ⟨v,rfl,own_low hown b1.size,b1.trans (hbW.mono b1.size)⟩
theorem info_pair:(Tryz.prog.info? 117).map (fun i=>(i.zero,i.size,i.bytes))=some (some (.agg #[.int .i64 0,.int .i64 0]),2,16):=by kernel_rfl
def cz (o:List (Nat×Nat)):List (Int×Int):=o.map fun c=>((c.1:Int),(c.2:Int))
theorem cz_len (o:List (Nat×Nat)):(cz o).length=o.length:=by simp [cz]
theorem cz_get {o:List (Nat×Nat)} {k:Nat} {c:Nat×Nat} (h:o[k]?=some c):(cz o)[k]?=some ((c.1:Int),(c.2:Int)):=by unfold cz;rw [List.getElem?_map,h];rfl
theorem cellsP_snoc (l:List (Int×Int)) (c:Int×Int):cellsP (l ++ [c])=cellsP l ++ [.int .i64 c.1,.int .i64 c.2]:=by rw [cellsP_app];rfl
def OwnP (w:World) (base:Nat) (v:Value) (l:List (Int×Int)):Prop:=w.ownsRow base 117 2 v l.length (cellsP l)
theorem OwnP.nil (w:World) (base:Nat):OwnP w base (.slice none 0 0) []:=World.ownsRow_nil _ _ _ _
theorem OwnP.below {w w':World} {base:Nat} {v:Value} {l:List (Int×Int)} (h:OwnP w base v l) (hb:Below w.heap.size w w'):OwnP w' base v l:=own_below h hb
theorem OwnP.low {w:World} {base b0:Nat} {v:Value} {l:List (Int×Int)} (h:OwnP w base v l) (hb:b0≤base):OwnP w b0 v l:=own_low h hb
theorem OwnP.mk_ {w:World} {base n:Nat} {v:Value} {l:List (Int×Int)} {xs:List Value} (h:w.ownsRow base 117 2 v n xs) (hx:xs=cellsP l):OwnP w base v l:=by
 subst hx
 have:n=l.length:=by have:=h.1;rw [cellsP_len] at this;omega
 unfold OwnP
 rw [← this];exact h
theorem OwnP.pairs {w:World} {base:Nat} {v:Value} {l:List (Int×Int)} (h:OwnP w base v l) (hl:l.length≤1000000):IsPairs w v l:=by
 rcases id h.2 with ⟨hv,hn⟩ | ⟨g,cap,cur,hv,hg,hb,hnc,hm,hs,ht⟩
 ·have:l=[]:=List.eq_nil_of_length_eq_zero hn
  subst this
  exact ⟨none,0,hv,Row.empty _ _,Nat.le_refl _,by decide⟩
 ·refine ⟨_,cap,hv,Row.of_blk (t:=117) (cs:=cur) hb fun k u hu=>?_,hnc,hl⟩
  rw [← ht] at hu
  rw [List.getElem?_take] at hu
  split at hu
  ·simpa using hu
  ·cases hu
theorem without_ref (C:Nat) (A:Option Addr) (c:Nat) (M:List (List Bool)) (v:Value) (o:List (Nat×Nat)) (s:Nat) (w:World) (h:IsRef w C A M) (hC:C≤12) (hR:M.length≤60) (ho:IsPairs w v (cz o)) (hin:∀ d∈o,d.1 < M.length∧d.2 < C) :
  Calls Tryz.prog 98 #[refV C A M.length c,v,.int .u64 s] w fun e w'=>∃ u,e=.returned u∧OwnP w' w.heap.size u (cz (lessL C (nsOf C M) o s))∧Below w.heap.size w w':=by
 obtain ⟨i0,hi0,hz0,hz1,hz2⟩:=info_parts info_pair
 obtain ⟨B,d,rfl,hrow,hlc,hlm⟩:=ho
 have hlen:(cz o).length=o.length:=cz_len o
 rw [hlen] at hlc hlm ⊢
 have hyes:∀ (k:Nat) x,o[k]?=some x→inS C (nsOf C M) s x=false→cz (lessL C (nsOf C M) (o.take (k+1)) s)=cz (lessL C (nsOf C M) (o.take k) s) ++ [((x.1:Int),(x.2:Int))]:=fun k x hx h1=>by
  unfold lessL
  rw [filter_take_yes hx (by rw [h1];rfl)];simp [cz]
 have hno:∀ (k:Nat) x,o[k]?=some x→inS C (nsOf C M) s x=true→cz (lessL C (nsOf C M) (o.take (k+1)) s)=cz (lessL C (nsOf C M) (o.take k) s):=fun k x hx h1=>by
  unfold lessL
  rw [filter_take_no hx (by rw [h1];rfl)]
 have hend:cz (lessL C (nsOf C M) (o.take o.length) s)=cz (lessL C (nsOf C M) o s):=by rw [List.take_length]
 have h0:cz (lessL C (nsOf C M) (o.take 0) s)=[]:=by simp [cz,lessL]
 have hle:∀ k,(cz (lessL C (nsOf C M) (o.take k) s)).length≤k:=fun k=>by
  rw [cz_len];exact Nat.le_trans (lessL_len _ _ _ _) (by rw [List.length_take];omega)
 have hcall:=fun W a b (hb:Below w.heap.size w W) (ha:a < M.length) (hb':b < C)=>in_ref C A c M s a b W (h.below hb) hC hR ha hb'
 obtain ⟨T,hT⟩:∃ T:Nat→List (Int×Int),T=fun k=>cz (lessL C (nsOf C M) (o.take k) s):=⟨_,rfl⟩
 have e:∀ k,cz (lessL C (nsOf C M) (o.take k) s)=T k:=fun k=>by rw [hT]
 simp only [e] at hyes hno hend h0 hle
 generalize cz (lessL C (nsOf C M) o s)=Z at hend ⊢
 have HCALL:=Lib.hid hcall;have HYES:=Lib.hid hyes;have HNO:=Lib.hid hno;have HEND:=Lib.hid hend;have HLE:=Lib.hid hle;have H0:=Lib.hid h0;have HINN:=Lib.hid hin
 clear hcall hyes hno hend hle h0 hT e hin hlen
 go_enter Tryz.func98,Tryz.ntmps98
 go_wp2_with fail
 refine abs1 fun W0 hX0 hb0 hz=>?_
 obtain ⟨X,hXe⟩:∃ g,g=w.heap.size:=⟨_,rfl⟩
 rw [← hXe] at hX0 ⊢
 have HXE:=Lib.hid hXe
 clear hXe hz
 refine wp_loopF (β:=Nat×Value) (fun x f=>#[f 0,f 1,.int .u64 (s:Int),.pointer (some ⟨X,0,none⟩),f 4,f 5,.slice none 0 0,x.2,f 8,f 9,.slice B o.length d,.int .i64 (o.length:Int),.int .i64 (x.1:Int),f 13,f 14,f 15,f 16,f 17,f 18,f 19,f 20,f 21,f 22,f 23,f 24,f 25,f 26,f 27,f 28,f 29])
  (fun x ds W=>x.1≤o.length∧ds=[]∧Below W0.heap.size W0 W∧OwnP W W0.heap.size x.2 (T x.1)) (fun x=>o.length-x.1) (0,.slice none 0 0) rfl
  ⟨Nat.zero_le _,rfl,Below.refl _ _,by dsimp only;rw [H0.out];exact OwnP.nil _ _⟩ ?_
 rintro ⟨k,v⟩ f ds W ⟨hk,rfl,hbW,hown⟩
 dsimp only at hk hown ⊢
 have bW:=hb0.trans (hbW.mono hb0.size)
 by_cases hlt:k < o.length
 ·obtain ⟨x,hx⟩:∃ x,o[k]?=some x:=⟨_,List.getElem?_eq_getElem hlt⟩
  obtain ⟨ha,hb⟩:=HINN.out x (List.mem_of_getElem? hx)
  have hy:=HYES.out k x hx
  have hn:=HNO.out k x hx
  have hle:=HLE.out k
  obtain ⟨g1,o1,rfl,hg1,c0,c1⟩:=row_pairs (hrow.below bW) (cz_get hx)
  have HC:=Lib.hid (fun W' hb'=>HCALL.out W' x.1 x.2 hb' ha hb)
  obtain ⟨t,ht⟩:∃ t,t=inS C (nsOf C M) s x:=⟨_,rfl⟩
  have hc2:(∀ W',Below w.heap.size w W'→Calls Tryz.prog 138 #[refV C A M.length c,.int .u64 s,.int .i64 x.1,.int .i64 x.2] W' fun e w'=>e=.returned (.bool t)∧Below W'.heap.size W' w'):=by rw [ht];exact HC.out
  have HC2:=Lib.hid hc2
  clear hc2
  rw [← ht] at hy hn
  have HY:=Lib.hid hy;have HN:=Lib.hid hn
  have hXW:=hX0.below hbW hX0.lt
  have x0:=hXW.cell 0
  have x1:=hXW.cell 1
  have lX:=hXW.lt
  clear hy hn hx ht HC
  go_wp2_with fail
  refine absC1 fun W1 hP hb1 hz1=>?_
  have bW1:=bW.trans (hb1.mono bW.size)
  have hbW1:=hbW.trans (hb1.mono hbW.size)
  have hown1:=hown.below hb1
  refine (HC2.out W1 bW1).mono ?_
  rintro e w2 ⟨rfl,hb2⟩
  have hbW2:=hbW1.trans (hb2.mono hbW1.size)
  have hown2:=hown1.below hb2
  have hP2:=hP.below hb2 hP.lt
  have p0:=hP2.cell 0
  have p1:=hP2.cell 1
  have lP:=hP2.lt
  clear hz1 hb1 hb2 hown hown1 hP HC2 x0 x1 c0 c1 hXW lX
  cases t with
  | true =>
   have HN2:=Lib.hid (HN.out rfl)
   go_wp2_with fail
   exact ⟨(k+1,v),rfl,⟨by show k+1≤o.length;omega,by first | rfl | trivial,hbW2,by dsimp only;rw [HN2.out];exact hown2⟩,by show o.length-(k+1) < o.length-k;omega⟩
  | false =>
   have HN2:=Lib.hid (HY.out rfl)
   have hsz:=hbW2.size
   have hlocs:=hown2.below ((Below.refl w2.heap.size w2).alloc (Nat.le_refl _) (.cells #[.int .i64 x.1,.int .i64 x.2] 117))
   go_wp2_with (at_builtin;refine wpList_append_own _ rfl _ _ 50 rfl (W0.heap.size) 117 i0 (.agg #[.int .i64 0,.int .i64 0]) 2 16 Tryz.underlying50 hi0 hz0 hz1 hz2 rfl (by decide) _ _ _ rfl (hlocs) ⟨w2.heap.size,0,none⟩ 1 1 [.int .i64 (x.1),.int .i64 (x.2)] rfl rfl (World.news_of_block (Blk.new _ _ _)) (by simp [Value.oneCell']) (by unfold maxLen;omega) (by omega) (by simp;omega) ?_;intro v' w3 hown' hgrow _)
   have hbw:=(hbW2.alloc hbW2.size (.cells #[.int .i64 x.1,.int .i64 x.2] 117)).grown hgrow (by simp;omega) (fun p hp=>(hlocs.lt p hp).1)
   exact ⟨(k+1,v'),rfl,⟨by show k+1≤o.length;omega,by first | rfl | trivial,hbw,by dsimp only;rw [HN2.out];exact OwnP.mk_ hown' (cellsP_snoc (T k) ((x.1:Int),(x.2:Int))).symm⟩,by show o.length-(k+1) < o.length-k;omega⟩
 ·obtain rfl:k=o.length:=by omega
  rw [HEND.out] at hown
  go_wp2_with fail
  go_ret
  exact ⟨v,rfl,hown.low hb0.size,bW⟩
theorem rowr_own (C:Nat) (A:Option Addr) (c:Nat) (M:List (List Bool)) (i:Int) (w:World) (h:IsRef w C A M) :
  Calls Tryz.prog 26 #[refV C A M.length c,.int .i64 i] w fun e w'=>∃ B d,e=.returned (.slice B (rowTo C M i C).length d)∧(rowTo C M i C).length≤d∧w'.ownsRow w.heap.size 3 1 (.slice B (rowTo C M i C).length d) (rowTo C M i C).length ((rowTo C M i C).map i64)∧Below w.heap.size w w':=by
 obtain ⟨i0,hi0,hz0,hz1,hz2⟩:=info_parts info_int
 have hC:C≤4096:=h.1
 go_enter Tryz.func26,Tryz.ntmps26
 go_wp2_with fail
 refine abs1 fun W0 hX0 hbel0 hz=>?_
 have HZ:=Lib.hid hz;clear hz
 go_loopw [5,6] (fun l j wr=>∃ k:Nat,k≤C∧j=.int .i64 k∧wr.ownsRow (w.heap.size+1) 3 1 l (rowTo C M i k).length ((rowTo C M i k).map i64)∧Below (w.heap.size+1) W0 wr) (fun _ j _=>C-(intOf j).toNat)
 case atStart=>exact ⟨0,Nat.zero_le _,rfl,World.ownsRow_nil _ _ _ _,Below.refl _ _⟩
 case round =>
  obtain ⟨k,hk,rfl,hown,hbel⟩:=hrel
  have hX:=hX0.below hbel (by omega)
  have x0:=hX.cell 0
  have x1:=hX.cell 1
  have hbw:Below w.heap.size w wr:=hbel0.trans (hbel.mono (by omega))
  have hrl:=rowTo_len C M i k
  by_cases hlt:k < C
  ·have hcall:=hasr_any C A c M i k wr (h.below hbw)
   cases hh:hasR C M i k with
   | true =>
    rw [hh] at hcall
    have HC:=hideC hcall;clear hcall
    have HS:=Lib.hid (rowTo_yes hh);clear hh
    go_wp2_with fail
    refine HC.out.mono ?_
    rintro e w2 ⟨rfl,hb2⟩
    have hown2:=(own_below hown hb2).alloc (.cells #[.int .i64 (k:Int)] 3)
    have hsz:=hbel.size
    have hsz2:=hb2.size
    have hbel2:Below (w.heap.size+1) W0 w2:=hbel.trans (hb2.mono (by have:=HZ.out;omega))
    have hzz:=HZ.out
    go_wp2_with (at_builtin;refine wpList_append_own _ rfl _ _ 78 rfl (w.heap.size+1) 3 i0 (.int .i64 0) 1 8 Tryz.underlying78 hi0 hz0 hz1 hz2 rfl (by decide) _ _ _ rfl (hown2) ⟨w2.heap.size,0,none⟩ 1 1 [.int .i64 k] rfl rfl (cell_one_new _ _ _) (by simp [Value.oneCell']) (by unfold maxLen;omega) (by omega) (by simp;omega) ?_;intro v' w3 hown' hgrow _)
    exact ⟨⟨k+1,by omega,by go_num,by rw [HS.out];simpa using hown',(hbel2.alloc (by omega) _).grown hgrow (by simp;omega) (fun q hq=>(hown2.lt q hq).1)⟩,by simp [intOf];omega⟩
   | false =>
    rw [hh] at hcall
    have HC:=hideC hcall;clear hcall
    have HS:=Lib.hid (rowTo_no hh);clear hh
    go_wp2_with fail
    refine HC.out.mono ?_
    rintro e w2 ⟨rfl,hb2⟩
    go_wp2_with fail
    exact ⟨⟨k+1,by omega,by go_num,by rw [HS.out];exact own_below hown hb2,hbel.trans (hb2.mono (by have:=HZ.out;have:=hbel.size;omega))⟩,by simp [intOf];omega⟩
  ·obtain rfl:k=C:=by omega
   obtain ⟨B,d,rfl,h1,_,h2,_⟩:=row_of_own hown
   go_wp2_with fail
   go_ret
   exact ⟨B,d,rfl,h1,own_low hown (by omega),hbw⟩
def onesC (Ns:List Nat) (k:Nat):List (Nat×Nat):=(List.range k).flatMap fun i=>(mems (Ns.getD i 0)).map fun j=>(i,j)
theorem onesC_all (Ns:List Nat):onesC Ns Ns.length=cellsOf Ns:=rfl
theorem onesC_succ (Ns:List Nat) (k:Nat):onesC Ns (k+1)=onesC Ns k ++ (mems (Ns.getD k 0)).map fun j=>(k,j):=by
 unfold onesC;rw [List.range_succ,List.flatMap_append];simp
theorem rowTo_mems {C:Nat} {M:List (List Bool)} (hC:C≤4096) {i:Nat} (hi:i < M.length):rowTo C M (i:Int) C=mems ((nsOf C M).getD i 0):=by
 rw [nsOf_get hi,mems_under (n:=C) fun j hj=>by
  rw [testBit_rowN _ _ _ _ hC,hasR_nat,Bool.and_eq_true,Bool.and_eq_true,decide_eq_true_eq,decide_eq_true_eq] at hj
  exact hj.1.2]
 unfold rowTo
 refine List.filter_congr fun j _=>?_
 rw [testBit_rowN _ _ _ _ hC]
theorem ones_ref (C:Nat) (A:Option Addr) (c:Nat) (M:List (List Bool)) (w:World) (h:IsRef w C A M) (hC:C≤12) (hR:M.length≤60) :
  Calls Tryz.prog 49 #[refV C A M.length c] w fun e w'=>∃ u,e=.returned u∧OwnP w' w.heap.size u (cz (cellsOf (nsOf C M)))∧Below w.heap.size w w':=by
 obtain ⟨i0,hi0,hz0,hz1,hz2⟩:=info_parts info_pair
 have hrow:=fun W (i:Nat) (hb:Below w.heap.size w W)=>rowr_own C A c M i W (h.below hb)
 have hs:∀ k,k < M.length→cz (onesC (nsOf C M) (k+1))=cz (onesC (nsOf C M) k) ++ cz ((rowTo C M (k:Int) C).map fun j=>(k,j)):=fun k hk=>by
  rw [onesC_succ,rowTo_mems (by omega) hk];simp [cz]
 have hend:cz (onesC (nsOf C M) M.length)=cz (cellsOf (nsOf C M)):=by rw [← onesC_all,nsTo_len]
 have h0:cz (onesC (nsOf C M) 0)=[]:=by simp [cz,onesC]
 have hle:∀ k,k≤M.length→(cz (onesC (nsOf C M) k)).length≤k*C:=by
  intro k
  induction k with
  | zero=>intro _;rw [h0];simp
  | succ k ih =>
   intro hk
   have h1:=ih (by omega)
   have h2:=rowTo_len C M (k:Int) C
   rw [hs k (by omega),List.length_append,cz_len ((rowTo C M (k:Int) C).map _),List.length_map,Nat.add_mul,Nat.one_mul]
   omega
 have hCC:∀ k,k≤M.length→k*C≤720:=fun k hk=>Nat.le_trans (Nat.mul_le_mul (Nat.le_trans hk hR) hC) (by decide)
 have hrl:=fun k:Nat=>rowTo_len C M (k:Int) C
 obtain ⟨T,hT⟩:∃ T:Nat→List (Int×Int),T=fun k=>cz (onesC (nsOf C M) k):=⟨_,rfl⟩
 have e:∀ k,cz (onesC (nsOf C M) k)=T k:=fun k=>by rw [hT]
 obtain ⟨Q,hQ⟩:∃ Q:Nat→List Nat,Q=fun k:Nat=>rowTo C M (k:Int) C:=⟨_,rfl⟩
 have e2:∀ k:Nat,rowTo C M (k:Int) C=Q k:=fun k=>by rw [hQ]
 simp only [e] at hs hend h0 hle
 simp only [e2] at hs hrow hrl
 generalize cz (cellsOf (nsOf C M))=Z at hend ⊢
 have HROW:=Lib.hid hrow;have HS:=Lib.hid hs;have HEND:=Lib.hid hend;have HLE:=Lib.hid hle;have H0:=Lib.hid h0;have HCC:=Lib.hid hCC;have HRL:=Lib.hid hrl
 clear hrow hs hend hle h0 hT e hCC hQ e2 hrl
 go_enter Tryz.func49,Tryz.ntmps49
 go_wp2_with fail
 refine abs1 fun W0 hX0 hb0 hz=>?_
 obtain ⟨X,hXe⟩:∃ g,g=w.heap.size:=⟨_,rfl⟩
 rw [← hXe] at hX0 ⊢
 have HXE:=Lib.hid hXe
 clear hXe hz
 refine wp_loopF (β:=Nat×Value) (fun x f=>#[f 0,.pointer (some ⟨X,0,none⟩),.slice none 0 0,x.2,.int .i64 (x.1:Int),f 5,f 6,f 7,f 8,f 9,f 10,f 11,f 12,f 13,f 14,f 15,f 16,f 17,f 18,f 19,f 20,f 21,f 22,f 23,f 24,f 25,f 26,f 27,f 28,f 29])
  (fun x ds W=>x.1≤M.length∧ds=[]∧Below W0.heap.size W0 W∧OwnP W W0.heap.size x.2 (T x.1)) (fun x=>M.length-x.1) (0,.slice none 0 0) rfl
  ⟨Nat.zero_le _,rfl,Below.refl _ _,by dsimp only;rw [H0.out];exact OwnP.nil _ _⟩ ?_
 rintro ⟨k,v⟩ f ds W ⟨hk,rfl,hbW,hown⟩
 dsimp only at hk hown ⊢
 have bW:=hb0.trans (hbW.mono hb0.size)
 have hXW:=hX0.below hbW hX0.lt
 have x0:=hXW.cell 0
 have x1:=hXW.cell 1
 by_cases hlt:k < M.length
 ·have HR1:=hideC (HROW.out W k bW)
  go_wp2_with fail
  refine HR1.out.mono ?_
  rintro e W1 ⟨B,d,rfl,hqd,hqr,hb1⟩
  have hbW1:=hbW.trans (hb1.mono hbW.size)
  have hown1:=hown.below hb1
  have hs1:=HS.out k hlt
  have hl1:=HLE.out k (by omega)
  have hc1:=HCC.out k (by omega)
  have hq1:=HRL.out k
  obtain ⟨L,hL⟩:∃ L,L=Q k:=⟨_,rfl⟩
  obtain ⟨T0,hT0⟩:∃ L,L=T k:=⟨_,rfl⟩
  rw [← hL] at hs1 hqr hqd hq1 ⊢
  rw [← hT0] at hs1 hl1 hown1
  have HS1:=Lib.hid hs1
  clear hs1 hL hT0 hb1 hown x0 x1 hXW HR1 hbW bW
  go_wp2_with fail
  refine wp_loopF (β:=Nat×Value) (fun y f=>#[f 0,.pointer (some ⟨X,0,none⟩),.slice none 0 0,y.2,.int .i64 (k:Int),f 5,f 6,f 7,f 8,f 9,f 10,f 11,f 12,f 13,f 14,f 15,.slice B L.length d,.int .i64 (L.length:Int),.int .i64 (y.1:Int),f 19,f 20,f 21,f 22,f 23,f 24,f 25,f 26,f 27,f 28,f 29])
   (fun y ds V=>y.1≤L.length∧ds=[]∧Below W0.heap.size W0 V∧V.ownsRow W.heap.size 3 1 (.slice B L.length d) L.length (L.map i64)∧OwnP V W0.heap.size y.2 (T0 ++ cz ((L.take y.1).map fun j=>(k,j)))) (fun y=>L.length-y.1) (0,v) rfl
   ⟨Nat.zero_le _,rfl,hbW1,hqr,by simpa [cz] using hown1⟩ ?_
  clear hown1 hqr
  rintro ⟨j,v⟩ f ds V ⟨hj,rfl,hbWV,hqr,hown⟩
  dsimp only at hj hown ⊢
  by_cases hjl:j < L.length
  ·obtain ⟨x,hx⟩:∃ x,L[j]?=some x:=⟨_,List.getElem?_eq_getElem hjl⟩
   obtain ⟨_,_,e9,_,_,hqrow,_⟩:=row_of_own hqr
   cases e9
   obtain ⟨g1,o1,rfl,hg1,hcl⟩:=hqrow (by rw [List.length_map];omega)
   have d1:=hcl j (i64 x) (by rw [List.getElem?_map,hx];rfl)
   have hsn:T0 ++ cz ((L.take (j+1)).map fun j=>(k,j))=(T0 ++ cz ((L.take j).map fun j=>(k,j))) ++ [((k:Int),(x:Int))]:=by
    rw [List.take_add_one,hx];simp [cz]
   have hTl:(T0 ++ cz ((L.take j).map fun j=>(k,j))).length≤1000:=by
    rw [List.length_append,cz_len,List.length_map,List.length_take];omega
   generalize T0 ++ cz ((L.take j).map fun j=>(k,j))=T1 at hown hsn hTl
   have HSN:=Lib.hid hsn
   clear hx hcl hsn hqrow
   have hsz:=hbWV.size
   have hlocs:=hown.below ((Below.refl V.heap.size V).alloc (Nat.le_refl _) (.cells #[.int .i64 k,.int .i64 x] 117))
   go_wp2_with (at_builtin;refine wpList_append_own _ rfl _ _ 50 rfl (W0.heap.size) 117 i0 (.agg #[.int .i64 0,.int .i64 0]) 2 16 Tryz.underlying50 hi0 hz0 hz1 hz2 rfl (by decide) _ _ _ rfl (hlocs) ⟨V.heap.size,0,none⟩ 1 1 [.int .i64 (k),.int .i64 (x)] rfl rfl (World.news_of_block (Blk.new _ _ _)) (by simp [Value.oneCell']) (by unfold maxLen;omega) (by omega) (by simp;omega) ?_;intro v' w3 hown' hgrow _)
   have hq2:=own_below hqr ((Below.refl V.heap.size V).alloc (Nat.le_refl _) (.cells #[.int .i64 k,.int .i64 x] 117))
   have hq3:=own_but hq2 (But.grown hgrow) fun g hg=>by
    obtain ⟨cs,hB⟩:=own_kind hq2 g hg
    exact own_ne hlocs hB (by decide)
   have hbv:=(hbWV.alloc hbWV.size (.cells #[.int .i64 k,.int .i64 x] 117)).grown hgrow (by simp;omega) (fun p hp=>(hlocs.lt p hp).1)
   exact ⟨(j+1,v'),rfl,⟨by show j+1≤L.length;omega,by first | rfl | trivial,hbv,hq3,by dsimp only;rw [HSN.out];exact OwnP.mk_ hown' (cellsP_snoc T1 ((k:Int),(x:Int))).symm⟩,by show L.length-(j+1) < L.length-j;omega⟩
  ·obtain rfl:j=L.length:=by omega
   rw [List.take_length,← HS1.out] at hown
   go_wp2_with fail
   exact ⟨(k+1,v),rfl,⟨by show k+1≤M.length;omega,by first | rfl | trivial,hbWV,hown⟩,by show M.length-(k+1) < M.length-k;omega⟩
 ·obtain rfl:k=M.length:=by omega
  rw [HEND.out] at hown
  go_wp2_with fail
  go_ret
  exact ⟨v,rfl,hown.low hb0.size,bW⟩
end Go.Proofs.YtafpmkdlciioaaaGreatDoor
