import Derived.Test.YtafpmkdlciioaaaGreatDoorPk09
import Derived.Laws.EntriesVeiled
import Derived.Test.YtafpmkdlciioaaaGreatDoorPk05
import Derived.Test.YtafpmkdlciioaaaGreatDoorPk06
import Derived.Test.YtafpmkdlciioaaaGreatDoorPk04
set_option maxHeartbeats 8000000
set_option maxRecDepth 100000
namespace Go.Proofs.YtafpmkdlciioaaaGreatDoor
open Go.RowKit
attribute [local go_sem] Oper.semAt_some
def bestP (C:Nat) (Ns:List Nat):List (Int×Int):=if 30 < (cellsOf Ns).length then [] else searchP C Ns (cz (cellsOf Ns)).length (cz (cellsOf Ns)) [] []
theorem onesTo_cells (Ns:List Nat):onesTo Ns Ns.length=(cellsOf Ns).length:=by
 rw [← sumO_all]
 unfold onesTo sumO
 rw [foldl_sum,Nat.zero_add]
theorem own_kc {w w':World} {base n size:Nat} {e:TypeId} {v:Value} {xs:List Value} (h:w.ownsRow base e size v n xs) (k:KeepC w w'):w'.ownsRow base e size v n xs :=
 ⟨h.1,h.2.imp id fun ⟨g,cap,cur,hv,hg,hb,r⟩=>⟨g,cap,cur,hv,hg,k.2 _ _ _ _ hb,r⟩⟩
theorem PN.shut {n:Nat} {w w':World} {v:Value} {l:List (Int×Int)} (h:PN w v l) (k:Shut n w w'):PN w' v l:=by
 obtain ⟨A,c,e,hr,hl⟩:=h
 exact ⟨A,c,e,⟨k.row hr.1,hr.2⟩,hl⟩
theorem cells_new2 (W:World) (t:TypeId) (a b:Value):∀ (j:Nat) u,[a,b][j]?=some u→(W.alloc (.cells #[a,b] t)).cell? ((⟨W.heap.size,0,none⟩:Addr).add j)=some u:=by
 intro j u hu
 rw [addr_add,(Blk.new W t #[a,b]).cell _]
 simpa using hu
theorem own_succP {W:World} {base:Nat} {e:TypeId} {size n:Nat} {v:Value} {xs:List Value} (h:W.ownsRow base e size v (n+1) xs):∃ g cap,v=.slice (some ⟨g,0,none⟩) (n+1) cap:=by
 rcases h.2 with ⟨_,e⟩ | ⟨g,cap,cur,hv,_⟩
 ·omega
 ·exact ⟨g,cap,hv⟩
theorem cz_app (a b:List (Nat×Nat)):cz (a ++ b)=cz a ++ cz b:=by simp [cz]
theorem cz_len' (o:List (Nat×Nat)):(cz o).length=o.length:=by simp [cz]
theorem KeepD.but {W0 W W':World} {g6:Nat} {t:TypeId} {cs:Array Value} (h:KeepD W0 W) (hB:Blk W g6 t cs) (k:But (some g6) W W'):KeepD W0 W':=by
 refine ⟨Nat.le_trans h.1 k.1,fun g hg=>?_⟩
 have h1:=h.2 g hg
 refine (k.2 g (Array.getElem?_eq_some_iff.1 h1).1 fun e=>?_).trans h1
 obtain rfl:g=g6:=by simpa using e
 unfold Blk at hB
 rw [h1] at hB;cases hB
theorem onesC_le (Ns:List Nat):∀ (d k:Nat),(onesC Ns k).length≤(onesC Ns (k+d)).length
 | 0,_=>Nat.le_refl _
 | d+1,k=>by
  refine Nat.le_trans (onesC_le Ns d k) ?_
  rw [show k+(d+1)=k+d+1 by omega,onesC_succ,List.length_append]
  omega
namespace Mix2
theorem best_any (q C:Nat) (Ns:List Nat) (w:World) (h:IsMat w q C Ns) (hT:Tab w) :
  Calls Tryz.prog 15 #[ptr q] w fun e w'=>∃ v,e=.returned v∧PN w' v (bestP C Ns)∧Below w.heap.size w w':=by
 obtain ⟨i0,hi0,hz0,hz1,hz2⟩:=info_parts info_pair
 have hlN:Ns.length≤4096:=h.2.1
 obtain ⟨r,hr⟩:∃ r,r=bestP C Ns:=⟨_,rfl⟩
 rw [← hr]
 have HR:=Lib.hid hr
 clear hr
 refine (callsIn_wide (n:=9)).1 (callsIn_of_wp_marks Tryz.func15 rfl trivial (wpIn_wide.2 ?_) rfl)
 simp only [Tryz.ntmps15,List.size_toArray,List.length_cons,List.length_nil,Nat.reduceAdd,Nat.reduceSub,Array.replicate_succ,Array.replicate_zero,List.push_toArray,List.append_toArray,List.nil_append,List.cons_append]
 have HO:=fun W (hb:Below w.heap.size w W)=>onesm_any q C Ns W (h.below hb) (hT.below hb)
 rw [onesTo_cells] at HO
 obtain ⟨L,hL⟩:∃ L,L=(cellsOf Ns).length:=⟨_,rfl⟩
 rw [← hL] at HO
 have HO2:=Lib.hid HO
 clear HO
 go_wp2_with fail
 refine absC1 fun W0 h1 hb0 hz=>?_
 clear hz
 obtain ⟨g1,hg1⟩:∃ g,g=w.heap.size:=⟨_,rfl⟩
 have hg1w:w.heap.size≤g1:=by omega
 rw [← hg1] at h1 ⊢
 clear hg1
 refine (HO2.out W0 hb0).mono ?_
 rintro e W1 ⟨rfl,hb1⟩
 have b1:=hb0.trans (hb1.mono hb0.size)
 have h11:=h1.below hb1 h1.lt
 clear h1 hb1 hb0
 have c1:=h11.cell 0
 by_cases h30:30 < L
 ·have hr:r=[]:=by rw [HR.out];unfold bestP;rw [if_pos (by rw [← hL];exact h30)]
  have HR2:=Lib.hid hr
  clear hr HR hL
  go_wp2_with fail
  refine leave_marks (n₀:=w.heap.size) _ _ trivial fun W' hW'=>?_
  exact ⟨.slice none 0 0,by simp [results,Tryz.results15],_,rfl,by rw [HR2.out];exact PN.nil _,b1.trans hW'.1⟩
 ·have hr:r=searchP C Ns (cz (cellsOf Ns)).length (cz (cellsOf Ns)) [] []:=by rw [HR.out];unfold bestP;rw [if_neg (by rw [← hL];exact h30)]
  have HR2:=Lib.hid hr
  have HL:=Lib.hid hL
  clear hr HR hL
  have hL30:L≤30:=by omega
  go_upto_region 4 with fail
  refine abs1 fun W2 h3 hb hz=>?_
  clear hz
  obtain ⟨g3,hg3⟩:∃ g,g=W1.heap.size:=⟨_,rfl⟩
  have hg3w:w.heap.size≤g3:=by rw [hg3];exact b1.size
  have h13:g1 < g3:=by rw [hg3];exact h11.lt
  rw [← hg3] at h3 ⊢
  have b2:=b1.trans (hb.mono b1.size)
  have h12:=h11.below hb h11.lt
  have lg3:g3 < W2.heap.size:=h3.lt
  clear hg3 hb b1 h11 c1
  have c1:=h12.cell 0
  have HRW:=hideC (rows_any q C Ns W2 (h.below b2))
  go_wp2_with fail
  refine HRW.out.mono ?_
  rintro e w' ⟨rfl,rfl⟩
  clear HRW c1
  go_wp2_with fail
  refine wp_loopF (β:=Nat×Value) (fun x f=>#[ptr q,ptr g1,.slice none 0 0,ptr g3,f 4,f 5,f 6,f 7,f 8,f 9,f 10,f 11,f 12,f 13,f 14,f 15,.int .i64 (Ns.length:Int),.int .i64 (x.1:Int),f 18,f 19,f 20,f 21,f 22,f 23,f 24,f 25,f 26,f 27,f 28,f 29,f 30,f 31,f 32,f 33,f 34,f 35,f 36])
   (fun x ds W=>x.1≤Ns.length∧Marks w.heap.size W ds∧Below w.heap.size w W∧Blk W g1 30 #[ptr q]∧Blk W g3 50 #[x.2]∧OwnP W w.heap.size x.2 (cz (onesC Ns x.1))) (fun x=>Ns.length-x.1) (0,.slice none 0 0) rfl
   ⟨Nat.zero_le _,trivial,b2,h12,h3,OwnP.nil _ _⟩ ?_
  rintro ⟨k,v3⟩ f ds W ⟨hk,hM,hb,k1,k3,hown⟩
  dsimp only at hk k3 hown ⊢
  by_cases hlt:k < Ns.length
  ·have hrow:=fun W (hW:Below w.heap.size w W)=>row_any q C Ns k W (h.below hW)
   rw [mrow,if_pos (by omega),Int.toNat_natCast] at hrow
   have hsucc:=onesC_succ Ns k
   obtain ⟨N,hN⟩:∃ N,N=Ns.getD k 0:=⟨_,rfl⟩
   rw [← hN] at hrow hsucc
   have HROW:=Lib.hid hrow
   have HSU:=Lib.hid hsucc
   clear hrow hsucc hN
   go_upto_region 7 with fail
   refine abs1 fun U1 h4 hbu hz=>?_
   clear hz
   obtain ⟨g4,hg4⟩:∃ g,g=W.heap.size:=⟨_,rfl⟩
   have h14:g1 < g4:=by rw [hg4];exact k1.lt
   have h34:g3 < g4:=by rw [hg4];exact k3.lt
   have h4w:w.heap.size≤g4:=by rw [hg4];exact hb.size
   rw [← hg4] at h4 ⊢
   clear hg4
   have b3:=hb.trans (hbu.mono hb.size)
   have k11:=k1.below hbu k1.lt
   have k31:=k3.below hbu k3.lt
   have hM1:=hM.kd (KeepD.of_below hbu)
   have hown1:=hown.below hbu
   have c1:=k11.cell 0
   have c4:=h4.cell 0
   have HRO:=hideC (res3 rfl (HROW.out U1 b3))
   clear k1 k3 hM hown hbu
   go_wp2_with fail
   refine HRO.out.mono ?_
   rintro e U2 ⟨Ar,nr,cr,rfl,sr,hbu⟩
   have b4:=b3.trans (hbu.mono b3.size)
   have k12:=k11.below hbu k11.lt
   have k32:=k31.below hbu k31.lt
   have h42:=h4.below hbu h4.lt
   have hM2:=hM1.kd (KeepD.of_below hbu)
   have hown2:=hown1.below hbu
   clear k11 k31 h4 hM1 hown1 hbu c1 c4 HRO
   obtain ⟨A',n',e,_⟩:=id sr
   cases e
   go_wp2_with fail
   refine (all_any Ar (nw N) cr U2).mono ?_
   rintro e U3 ⟨rfl,hw5⟩
   have hY:=hw5▸Blk.new U2 58 #[.slice Ar (nw N) cr]
   have hbu:Below U2.heap.size U2 U3:=by rw [hw5];exact (Below.refl _ _).alloc (Nat.le_refl _) _
   clear hw5
   have b5:=b4.trans (hbu.mono b4.size)
   have k13:=k12.below hbu k12.lt
   have k33:=k32.below hbu k32.lt
   have h43:=h42.below hbu h42.lt
   have hM3:=hM2.kd (KeepD.of_below hbu)
   have hown3:=hown2.below hbu
   have sr3:=sr.below hbu
   have hT3:=hT.below b5
   obtain ⟨gy,hgy⟩:∃ g,g=U2.heap.size:=⟨_,rfl⟩
   rw [← hgy] at hY ⊢
   clear hgy hbu k12 k32 h42 hM2 hown2 sr b3 b4
   go_wp2_with fail
   refine wp_rangeAll (v:=.slice Ar (nw N) cr) (N:=N) (Bx:=gy) rfl (hY.cell 0) sr3 hT3 rfl
    (fun pre W=>(∃ u,Boxed W g3 50 u∧OwnP W w.heap.size u (cz (onesC Ns k ++ pre.map fun j=>(k,j))))∧Below w.heap.size w W∧Blk W g1 30 #[ptr q]∧Blk W g4 3 #[.int .i64 (k:Int)]∧KeepD U3 W) (fun _ _ _=>False)
    ?hI (fun _ _ _ _ _ hs _ _=>hs) ?h0 ?a1 ?assign ?body ?done (fun _ _ _ _ _ h _=>h.elim)
   case assign =>
    intro l x W K hKa
    gi_wp2
    exact hKa
   case hI =>
    rintro s W W' row ⟨⟨u,h1,h2⟩,h3,h4,h5,h6⟩ hg hrw
    have hkc:=KeepC.of_grown hg hrw
    exact ⟨⟨u,hkc.2 _ _ _ _ h1,own_kc h2 hkc⟩,h3.grown hg h3.size fun k' e=>Nat.le_trans b5.size (hrw k' e).1,h4.kc hkc,h5.kc hkc,h6.grown hg hrw⟩
   case h0=>exact ⟨⟨_,k33,by simpa using hown3⟩,b5,k13,h43,KeepD.refl _⟩
   case body =>
    rintro l pre x W hx ⟨⟨u,hv,hrw⟩,hbl,hQ,hI4,hkd⟩ hlen hkp
    have hc:=hv.cell
    have cI:=hI4.cell 0
    have hll:(cz (onesC Ns k ++ pre.map fun j=>(k,j))).length≤5000:=by
     rw [cz_len',List.length_append,List.length_map]
     have h1:=onesC_le Ns (Ns.length-k) k
     rw [show k+(Ns.length-k)=Ns.length by omega] at h1
     have h2:(onesC Ns Ns.length).length=L:=HL.out.symm
     omega
    have hLL2:cz (onesC Ns k ++ (pre ++ [x]).map fun j=>(k,j))=cz (onesC Ns k ++ pre.map fun j=>(k,j)) ++ [((k:Int),(x:Int))]:=by rw [List.map_append,← List.append_assoc,cz_app];rfl
    generalize cz (onesC Ns k ++ pre.map fun j=>(k,j))=Q at hrw hll hLL2
    have HLL:=Lib.hid hLL2
    clear hLL2
    have hrw0:W.ownsRow w.heap.size 117 2 u Q.length (cellsP Q):=hrw
    have hrw1:=hrw0.alloc (.cells #[.int .i64 (k:Int),.int .i64 (x:Int)] 117)
    gi_wp2_with (gi_at_builtin;refine wpListIn_append_own _ rfl _ _ 50 rfl w.heap.size 117 i0 (.agg #[.int .i64 0,.int .i64 0]) 2 16 Tryz.underlying50 hi0 hz0 hz1 hz2 rfl (by decide) _ _ _ rfl hrw1 ⟨W.heap.size,0,none⟩ 1 1 [.int .i64 (k:Int),.int .i64 (x:Int)] rfl rfl (cells_new2 _ _ _ _) (by intro u hu;simp at hu;rcases hu with rfl | rfl <;> rfl) (by unfold maxLen;omega) (by omega) (by have:=hbl.size;simp;omega) ?_;intro v' w6 hown' hgrow _;obtain ⟨g',cap',rfl⟩:=own_succP hown';have hkw:=(KeepW.alloc W _).trans (KeepW.grown hgrow hrw1 (by decide));obtain ⟨hv1,hv2,hr2,hk2,hb2⟩:=hv.appended (by decide) hrw0 hbl.size (by omega) hown' hgrow;have hc1:=hv1.cell;have hf1:=hv1.frozen)
    have hQ6:=(((Blk.alloc hQ _).grown hgrow (own_ne hrw1 (Blk.alloc hQ _) (by decide))).far (p:=⟨g3,0,none⟩) (by simp;omega) (.slice (some ⟨g',0,none⟩) (Q.length+1) cap'))
    have hI6:=(((Blk.alloc hI4 _).grown hgrow (own_ne hrw1 (Blk.alloc hI4 _) (by decide))).far (p:=⟨g3,0,none⟩) (by simp;omega) (.slice (some ⟨g',0,none⟩) (Q.length+1) cap'))
    exact ⟨hk2.from _,KpA.mk_ (hkw.trans (KeepW.setCell (p:=⟨g3,0,none⟩) (t:=50) (cs:=#[u]) hv1 (by decide) _)) hb2 hT.pos,⟨_,hv2,by rw [HLL.out];exact OwnP.mk_ hr2 (cellsP_snoc Q (k,x)).symm⟩,hbl.trans hb2,hQ6,hI6,hkd.others hk2⟩
   case done =>
    rintro Dk W9 hDk ⟨⟨u,hv,hrw⟩,hbl,hQ,hI4,hkd⟩ hKd
    have hM4:=hM3.cons hkd (by have:=b5.size;omega) hDk hKd
    rw [← HSU.out] at hrw
    go_wp2_with fail
    exact ⟨(k+1,u),rfl,⟨by show k+1≤Ns.length;omega,hM4,hbl,hQ,hv,hrw⟩,by show Ns.length-(k+1) < Ns.length-k;omega⟩
  ·obtain rfl:k=Ns.length:=by omega
   have hce:onesC Ns Ns.length=cellsOf Ns:=rfl
   rw [hce] at hown
   have hlen:(cz (cellsOf Ns)).length=L:=by rw [cz_len'];exact HL.out.symm
   have hqd:=h.below hb
   obtain ⟨K,hK⟩:∃ K,K=cz (cellsOf Ns):=⟨_,rfl⟩
   have hr2:=HR2.out
   rw [← hK] at hown hlen hr2
   have HR3:=Lib.hid hr2
   clear hK hce hr2 HR2
   have hpr:=hown.pairs (by omega)
   have c3:=k3.cell 0
   have hsz:=hb.size
   go_upto_region 12 with fail
   refine abs1 fun W2 h6 hbu hz=>?_
   obtain ⟨g6,hg6⟩:∃ g,g=W.heap.size:=⟨_,rfl⟩
   have l16:g1 < g6:=by rw [hg6];exact k1.lt
   have l36:g3 < g6:=by rw [hg6];exact k3.lt
   have lw6:W.heap.size≤g6:=by omega
   have lw7:w.heap.size≤g6:=by omega
   have n6:W2.heap.size=g6+1:=by omega
   rw [← hg6] at h6 ⊢
   clear hz
   have q1:=k1.below hbu k1.lt
   have q3:=k3.below hbu k3.lt
   have qM:=hM.kd (KeepD.of_below hbu)
   have qp:=hpr.below hbu
   have l3:g3 < W2.heap.size:=q3.lt
   clear c3 hg6
   go_upto_region 13 with fail
   refine abs1 fun W3 h7 hbv hz=>?_
   clear hz
   have hbw:=hbu.trans (hbv.mono hbu.size)
   rw [n6] at h7
   have p6:=h6.below hbv h6.lt
   have p1:=q1.below hbv q1.lt
   have p3:=q3.below hbv q3.lt
   have pM:=qM.kd (KeepD.of_below hbv)
   have pp:=qp.below hbv
   have l7:g6+1 < W3.heap.size:=h7.lt
   have f7:=h7.frozen 0
   have c7:=h7.cell 0
   clear n6 h6 q1 q3 qM qp hbv hbu hpr hown k1 k3 hM
   have hmf:∀ (fn:Fn) (first cap:Array Value) (W:World),(Instr.makeFunc fn first cap).run Tryz.prog W=.ok (.func fn first cap) W:=fun _ _ _ _=>rfl
   have n37:g3≠g6+1:=by omega
   go_upto_region 14 with fail
   obtain ⟨W4,hW4⟩:∃ V,V=W3.setCell ⟨g6+1,0,none⟩ (.func (.func 51) #[] #[ptr g6,ptr g1,ptr (g6+1)]):=⟨_,rfl⟩
   have o7:Blk W4 (g6+1) 118 #[.func (.func 51) #[] #[ptr g6,ptr g1,ptr (g6+1)]]:=by rw [hW4];exact h7.set_ 0 _
   have o6:Blk W4 g6 50 #[.slice none 0 0]:=by rw [hW4];exact p6.far (p:=⟨g6+1,0,none⟩) (by simp) _
   have o1:Blk W4 g1 30 #[ptr q]:=by rw [hW4];exact p1.far (p:=⟨g6+1,0,none⟩) (by simp;omega) _
   have o3:Blk W4 g3 50 #[v3]:=by rw [hW4];exact p3.far (p:=⟨g6+1,0,none⟩) (by simp;omega) _
   have hb4:Below W.heap.size W W4:=by rw [hW4];exact hbw.setCell (p:=⟨g6+1,0,none⟩) (by show W.heap.size≤g6+1;omega) _
   have hM4:Marks w.heap.size W4 ds:=by rw [hW4];exact pM.kd ((KeepD.refl W3).others (KeepsOthers.setCell _ _ _))
   have hp4:IsPairs W4 v3 K:=by
    obtain ⟨A,c,e,hr,h1,h2⟩:=pp
    rw [hW4]
    refine ⟨A,c,e,fun hp=>?_,h1,h2⟩
    obtain ⟨g,off,hA,hg,hc⟩:=hr hp
    have hne:g≠g6+1:=by
     rintro rfl
     obtain ⟨c,hc0⟩:∃ c,K[0]?=some c:=⟨_,List.getElem?_eq_getElem (by rw [cellsP_len] at hp;omega)⟩
     have h0:=hc _ _ (cellsP_get K hc0).1
     rw [h7.cell] at h0
     rcases off with _ | off <;> simp at h0
    exact ⟨g,off,hA,by simpa [World.setCell] using hg,fun j u hu=>(World.cell?_of_block (a:=⟨g,off+j,none⟩) (Below.heap_setCell W3 ⟨g6+1,0,none⟩ (.func (.func 51) #[] #[ptr g6,ptr g1,ptr (g6+1)]) g hne)).trans (hc j u hu)⟩
   rw [← hW4]
   have hHC:=best1_any q C Ns g6 g1 (g6+1) W hqd lw6 (by omega) (by omega) _ _ K.length [] K [] (.slice none 0 0) v3 (.slice none 0 0) W4 (Nat.le_refl _) (by rw [List.length_nil];omega) hb4 (PN.nil _) hp4 (PN.nil _) o6 o1 o7
   have HC:=hideC hHC
   have x3:=o3.cell 0
   have x7:=o7.cell 0
   clear hHC hmf pp p6 p1 p3 pM c7 f7 h7 hbw hW4 hp4
   go_wp2_with fail
   refine HC.out.mono ?_
   rintro e W5 ⟨rfl,vb,hvb,o65,hbut,hb5⟩
   have hM5:=hM4.kd ((KeepD.refl W4).but o6 hbut)
   have x6:=o65.cell 0
   go_wp2_with fail
   refine leave_marks (n₀:=w.heap.size) _ _ hM5 fun W' hW'=>?_
   exact ⟨vb,by simp [results,Tryz.results15],vb,rfl,by rw [HR3.out];exact hvb.shut hW',(hb.trans (hb5.mono hb.size)).trans hW'.1⟩
end Mix2
end Go.Proofs.YtafpmkdlciioaaaGreatDoor
namespace Go.Proofs.YtafpmkdlciioaaaGreatDoor
open Go.RowKit
def closTo (C:Nat) (Ns:List Nat):Nat→List Nat
 | 0=>[]
 | n+1=>if cloN C Ns n=n then insL n (closTo C Ns n) else closTo C Ns n
def closL (C:Nat) (Ns:List Nat):List Nat:=closTo C Ns (2 ^ C)
theorem mem_closTo {C:Nat} {Ns:List Nat} {s:Nat}:∀ n,s∈closTo C Ns n↔s < n∧cloN C Ns s=s
 | 0=>by simp [closTo]
 | n+1=>by
  have ih:=mem_closTo (C:=C) (Ns:=Ns) (s:=s) n
  rw [closTo]
  split
  ·rename_i h
   rw [mem_insL,ih]
   constructor
   ·rintro (rfl | ⟨h1,h2⟩)
    ·exact ⟨by omega,h⟩
    ·exact ⟨by omega,h2⟩
   ·rintro ⟨h1,h2⟩
    by_cases e:s=n
    ·exact .inl e
    ·exact .inr ⟨by omega,h2⟩
  ·rename_i h
   rw [ih]
   constructor
   ·rintro ⟨h1,h2⟩;exact ⟨by omega,h2⟩
   ·rintro ⟨h1,h2⟩
    have:s≠n:=fun e=>h (e▸h2)
    exact ⟨by omega,h2⟩
theorem closTo_lec (C:Nat) (Ns:List Nat):∀ n,Lec (closTo C Ns n)
 | 0=>by simp [closTo,Lec]
 | n+1=>by
  rw [closTo]
  split
  ·exact Lec.ins (closTo_lec C Ns n) fun h=>by have:=((mem_closTo n).1 h).1;omega
  ·exact closTo_lec C Ns n
theorem closTo_len (C:Nat) (Ns:List Nat):∀ n,(closTo C Ns n).length≤n
 | 0=>by simp [closTo]
 | n+1=>by
  have:=closTo_len C Ns n
  rw [closTo]
  split
  ·rw [insL_len];omega
  ·omega
theorem mem_closL {C:Nat} {Ns:List Nat} {s:Nat}:s∈closL C Ns↔cloN C Ns s=s:=by
 unfold closL
 rw [mem_closTo]
 refine ⟨fun h=>h.2,fun h=>⟨?_,h⟩⟩
 have:=clo_lt C Ns s
 omega
theorem closL_all (C:Nat) (Ns:List Nat):(closL C Ns).filter (fun s=>!decide (havN C Ns s=0)&&!decide (s=0))=allL C Ns:=by
 refine Lec.ext (List.Pairwise.filter _ (closTo_lec C Ns _)) (allTo_lec C Ns _) fun s=>?_
 rw [List.mem_filter,mem_closL,allL,mem_allTo,oneS]
 simp only [Bool.and_eq_true,Bool.not_eq_true',decide_eq_false_iff_not,decide_eq_true_eq]
 constructor
 ·rintro ⟨h1,h2,h3⟩
  have:=clo_lt C Ns s
  exact ⟨by omega,h3,h1,h2⟩
 ·rintro ⟨_,h3,h1,h2⟩
  exact ⟨h1,h2,h3⟩
section
variable {C:Nat} {Ns:List Nat}
theorem lecR_first {a b:Nat} (h:lecR a b=true):∃ i,a.testBit i=false∧b.testBit i=true∧∀ x,x < i→a.testBit x=b.testBit x:=by
 have hne:a≠b:=fun e=>by rw [e,lecR_irrefl] at h;cases h
 have hx:∃ i,a.testBit i≠b.testBit i:=by
  refine Classical.byContradiction fun hno=>hne (Nat.eq_of_testBit_eq fun i=>?_)
  exact Classical.byContradiction fun hi=>hno ⟨i,hi⟩
 obtain ⟨i,hi⟩:=hx
 obtain ⟨i,hi,hlo⟩:∃ i,a.testBit i≠b.testBit i∧∀ m,m < i→a.testBit m=b.testBit m:=by
  induction i using Nat.strongRecOn with
  | _ i ih =>
   by_cases hm:∃ m,m < i∧a.testBit m≠b.testBit m
   ·obtain ⟨m,h1,h2⟩:=hm
    exact ih m h1 h2
   ·exact ⟨i,hi,fun m hm'=>Classical.byContradiction fun e=>hm ⟨m,hm',e⟩⟩
 refine ⟨i,?_,?_,hlo⟩
 ·cases ha:a.testBit i with
  | false=>rfl
  | true =>
   have hb:b.testBit i=false:=by cases hb:b.testBit i with | false=>rfl | true=>rw [ha,hb] at hi;exact absurd rfl hi
   have:=lecR_at i b a (fun j hj=>(hlo j hj).symm) hb ha
   rw [lecR_asymm _ _ this] at h;cases h
 ·cases hb:b.testBit i with
  | true=>rfl
  | false =>
   have ha:a.testBit i=true:=by cases ha:a.testBit i with | true=>rfl | false=>rw [ha,hb] at hi;exact absurd rfl hi
   have:=lecR_at i b a (fun j hj=>(hlo j hj).symm) hb ha
   rw [lecR_asymm _ _ this] at h;cases h
def stepN (C:Nat) (Ns:List Nat) (a i:Nat):Nat:=cloN C Ns ((a&&&lowN i)|||2 ^ i)
def goodI (C:Nat) (Ns:List Nat) (a i:Nat):Bool:=!a.testBit i&&decide ((minusN (stepN C Ns a i) (a&&&lowN i))&&&lowN i=0)
def nextTo (C:Nat) (Ns:List Nat) (a:Nat):Nat→Option Nat
 | 0=>none
 | j+1=>if goodI C Ns a j=true then some (stepN C Ns a j) else nextTo C Ns a j
theorem nextTo_some {a b:Nat}:∀ {j},nextTo C Ns a j=some b→∃ i,i < j∧goodI C Ns a i=true∧b=stepN C Ns a i∧∀ k,i < k→k < j→goodI C Ns a k=false
 | 0,h=>by cases h
 | j+1,h=>by
  rw [nextTo] at h
  split at h
  ·rename_i hg
   cases h
   exact ⟨j,by omega,hg,rfl,fun k _ _=>by omega⟩
  ·rename_i hg
   obtain ⟨i,h1,h2,h3,h4⟩:=nextTo_some h
   refine ⟨i,by omega,h2,h3,fun k hk hk'=>?_⟩
   by_cases e:k=j
   ·subst e;simpa using hg
   ·exact h4 k hk (by omega)
theorem nextTo_none {a:Nat}:∀ {j},nextTo C Ns a j=none→∀ k,k < j→goodI C Ns a k=false
 | 0,_,k,hk=>by omega
 | j+1,h,k,hk=>by
  rw [nextTo] at h
  split at h
  ·cases h
  ·rename_i hg
   by_cases e:k=j
   ·subst e;simpa using hg
   ·exact nextTo_none h k (by omega)
theorem goodI_bits {a i:Nat} (h:goodI C Ns a i=true):a.testBit i=false∧∀ x,x < i→(stepN C Ns a i).testBit x=true→a.testBit x=true:=by
 unfold goodI at h
 rw [Bool.and_eq_true,decide_eq_true_eq] at h
 refine ⟨by simpa using h.1,fun x hx hb=>?_⟩
 have:=congrArg (fun n=>n.testBit x) h.2
 simp only [Nat.testBit_and,minusN,Nat.testBit_xor,testBit_lowN,Nat.zero_testBit] at this
 rw [hb] at this
 simpa [hx] using this
theorem goodI_of {a i:Nat} (h1:a.testBit i=false) (h2:∀ x,x < i→(stepN C Ns a i).testBit x=true→a.testBit x=true):goodI C Ns a i=true:=by
 unfold goodI
 rw [Bool.and_eq_true,decide_eq_true_eq]
 refine ⟨by rw [h1];rfl,Nat.eq_of_testBit_eq fun x=>?_⟩
 simp only [Nat.testBit_and,minusN,Nat.testBit_xor,testBit_lowN,Nat.zero_testBit]
 by_cases hx:x < i
 ·cases hb:(stepN C Ns a i).testBit x with
  | false=>simp
  | true=>rw [h2 x hx hb];simp [hx]
 ·simp [hx]
theorem step_sup (hl:Ns.length≤4096) {a i x:Nat} (hi:i < C) (hx:x < i∧a.testBit x=true∨x=i):(stepN C Ns a i).testBit x=true:=by
 unfold stepN
 refine clo_sup hl (by rcases hx with ⟨h,_⟩ | rfl <;> omega) ?_
 rw [Nat.testBit_or,Nat.testBit_and,testBit_lowN,Nat.testBit_two_pow]
 rcases hx with ⟨h1,h2⟩ | rfl
 ·simp [h1,h2]
 ·simp
theorem step_least (hl:Ns.length≤4096) {a s:Nat} (hs:cloN C Ns s=s) (h:lecR a s=true):∃ i,i < C∧goodI C Ns a i=true∧(stepN C Ns a i=s∨lecR (stepN C Ns a i) s=true):=by
 obtain ⟨i,h1,h2,h3⟩:=lecR_first h
 have hi:i < C:=by
  rw [← hs] at h2
  exact comN_lt h2
 have hsub:∀ x,(stepN C Ns a i).testBit x=true→s.testBit x=true:=fun x hx=>by
  rw [← hs]
  refine clo_mono hl (fun y _ hy=>?_) hx
  rw [Nat.testBit_or,Nat.testBit_and,testBit_lowN,Nat.testBit_two_pow] at hy
  by_cases e:y=i
  ·subst e;exact h2
  ·have e':¬ i=y:=fun h=>e h.symm
   simp [e'] at hy
   rw [← h3 y hy.2];exact hy.1
 refine ⟨i,hi,goodI_of h1 fun x hx hb=>by rw [h3 x hx];exact hsub x hb,?_⟩
 by_cases e:stepN C Ns a i=s
 ·exact .inl e
 ·refine .inr ?_
  cases ht:lecR (stepN C Ns a i) s with
  | true=>rfl
  | false =>
   obtain ⟨x,k1,k2,_⟩:=lecR_first (lecR_total _ _ e ht)
   rw [hsub x k2] at k1;cases k1
theorem good_lec (hl:Ns.length≤4096) {a i:Nat} (hi:i < C) (h:goodI C Ns a i=true):lecR a (stepN C Ns a i)=true:=by
 obtain ⟨h1,h2⟩:=goodI_bits h
 refine lecR_at i _ _ (fun x hx=>?_) h1 (step_sup hl hi (.inr rfl))
 cases ha:a.testBit x with
 | true=>exact (step_sup hl hi (.inl ⟨hx,ha⟩)).symm
 | false =>
  cases hb:(stepN C Ns a i).testBit x with
  | false=>rfl
  | true=>rw [h2 x hx hb] at ha;cases ha
theorem good_two (hl:Ns.length≤4096) {a i k:Nat} (hik:i < k) (hk:k < C) (h:goodI C Ns a i=true) (h':goodI C Ns a k=true):lecR (stepN C Ns a k) (stepN C Ns a i)=true:=by
 obtain ⟨h1,h2⟩:=goodI_bits h
 obtain ⟨k1,k2⟩:=goodI_bits h'
 refine lecR_at i _ _ (fun x hx=>?_) ?_ (step_sup hl (by omega) (.inr rfl))
 ·cases ha:a.testBit x with
  | true=>rw [step_sup hl hk (.inl ⟨by omega,ha⟩),step_sup hl (by omega) (.inl ⟨hx,ha⟩)]
  | false =>
   have e1:(stepN C Ns a k).testBit x=false:=by
    cases hb:(stepN C Ns a k).testBit x with
    | false=>rfl
    | true=>rw [k2 x (by omega) hb] at ha;cases ha
   have e2:(stepN C Ns a i).testBit x=false:=by
    cases hb:(stepN C Ns a i).testBit x with
    | false=>rfl
    | true=>rw [h2 x hx hb] at ha;cases ha
   rw [e1,e2]
 ·cases hb:(stepN C Ns a k).testBit i with
  | false=>rfl
  | true=>rw [k2 i hik hb] at h1;cases h1
theorem next_at (hl:Ns.length≤4096) {k a:Nat} (h:(closL C Ns)[k]?=some a):nextTo C Ns a C=(closL C Ns)[k+1]?:=by
 have hL:=closTo_lec C Ns (2 ^ C)
 have hmem:∀ s,s∈closL C Ns↔cloN C Ns s=s:=fun s=>mem_closL
 have hidx:∀ (i j x y:Nat),(closL C Ns)[i]?=some x→(closL C Ns)[j]?=some y→i < j→lecR x y=true:=fun i j x y hi hj hij=>by
  obtain ⟨hi',rfl⟩:=List.getElem?_eq_some_iff.1 hi
  obtain ⟨hj',rfl⟩:=List.getElem?_eq_some_iff.1 hj
  exact List.pairwise_iff_getElem.1 hL i j hi' hj' hij
 cases hn:nextTo C Ns a C with
 | none =>
  have hno:=nextTo_none hn
  cases hk:(closL C Ns)[k+1]? with
  | none=>rfl
  | some b =>
   obtain ⟨i,h1,h2,_⟩:=step_least hl ((hmem b).1 (List.mem_of_getElem? hk)) (hidx k (k+1) a b h hk (by omega))
   rw [hno i h1] at h2;cases h2
 | some b =>
  obtain ⟨i,hi,hg,rfl,hmx⟩:=nextTo_some hn
  have hbc:cloN C Ns (stepN C Ns a i)=stepN C Ns a i:=clo_clo hl _
  have hab:=good_lec hl hi hg
  obtain ⟨j,hj⟩:=List.mem_iff_getElem?.1 ((hmem _).2 hbc)
  have hjk:k < j:=by
   refine Nat.lt_of_not_le fun hle=>?_
   rcases Nat.lt_or_eq_of_le hle with hlt | hje
   ·have:=hidx j k _ _ hj h hlt
    rw [lecR_asymm _ _ this] at hab;cases hab
   ·rw [hje,h] at hj
    rw [← Option.some.inj hj,lecR_irrefl] at hab;cases hab
  by_cases e:j=k+1
  ·rw [← e];exact hj.symm
  ·exfalso
   obtain ⟨c,hc⟩:∃ c,(closL C Ns)[k+1]?=some c:=⟨_,List.getElem?_eq_getElem (by have:=(List.getElem?_eq_some_iff.1 hj).1;omega)⟩
   have hcb:=hidx (k+1) j _ _ hc hj (by omega)
   obtain ⟨i',h1,h2,h3⟩:=step_least hl ((hmem c).1 (List.mem_of_getElem? hc)) (hidx k (k+1) a c h hc (by omega))
   have hle:i'≤i:=Nat.le_of_not_lt fun hlt=>by rw [hmx i' hlt h1] at h2;cases h2
   have hbc':lecR (stepN C Ns a i) c=true∨stepN C Ns a i=c:=by
    rcases Nat.lt_or_eq_of_le hle with hlt | hie
    ·have h4:=good_two hl hlt hi h2 hg
     rcases h3 with h3 | h3
     ·rw [h3] at h4;exact .inl h4
     ·exact .inl (lecR_trans _ _ _ h4 h3)
    ·rw [hie] at h3
     rcases h3 with h3 | h3
     ·exact .inr h3
     ·exact .inl h3
   rcases hbc' with h4 | h4
   ·rw [lecR_asymm _ _ h4] at hcb;cases hcb
   ·rw [h4,lecR_irrefl] at hcb;cases hcb
theorem clos_first (hl:Ns.length≤4096):(closL C Ns)[0]?=some (cloN C Ns 0):=by
 have hm:cloN C Ns 0∈closL C Ns:=mem_closL.2 (clo_clo hl 0)
 obtain ⟨j,hj⟩:=List.mem_iff_getElem?.1 hm
 match j,hj with
 | 0,hj=>exact hj
 | j+1,hj =>
  exfalso
  obtain ⟨c,hc⟩:∃ c,(closL C Ns)[0]?=some c:=⟨_,List.getElem?_eq_getElem (by have:=(List.getElem?_eq_some_iff.1 hj).1;omega)⟩
  have hlt:lecR c (cloN C Ns 0)=true:=by
   obtain ⟨h0,rfl⟩:=List.getElem?_eq_some_iff.1 hc
   obtain ⟨h1,e⟩:=List.getElem?_eq_some_iff.1 hj
   rw [← e]
   exact List.pairwise_iff_getElem.1 (closTo_lec C Ns (2 ^ C)) 0 (j+1) h0 h1 (by omega)
  obtain ⟨i,h1,h2,_⟩:=lecR_first hlt
  have:c.testBit i=true:=by
   rw [← mem_closL.1 (List.mem_of_getElem? hc)]
   exact clo_mono hl (fun x _ hx=>by simp at hx) h2
  rw [this] at h1;cases h1
end
def arK (C:Nat) (Ns L:List Nat) (k0:Nat) (c:Nat×Nat):List Nat:=(List.range L.length).filter fun k=>decide (k0≤k)&&inS C Ns (L.getD k 0) c
def pickK (ar:Nat×Nat→List Nat):List (Nat×Nat)→Option (Nat×Nat)→Option (Nat×Nat)
 | [],o=>o
 | c :: l,none=>pickK ar l (some c)
 | c :: l,some b=>pickK ar l (if (ar c).length < (ar b).length then some c else some b)
def gainM (C:Nat) (Ns L:List Nat) (o:List (Nat×Nat)):Nat:=(L.map fun s=>o.countP (inS C Ns s)).foldl max 0
def covK (C:Nat) (Ns L:List Nat) (k0:Nat):Nat→List (Nat×Nat)→Bool
 | 0,o=>decide (o=[])
 | b+1,o=>if o=[] then true else if (b+1)*gainM C Ns L o < o.length then false else
  match pickK (arK C Ns L k0) o none with
  | none=>false
  | some c=>(arK C Ns L k0 c).any fun k=>covK C Ns L k0 b (lessL C Ns o (L.getD k 0))
def CovK (C:Nat) (Ns L:List Nat) (k0 b:Nat) (o:List (Nat×Nat)):Prop:=∃ ks:List Nat,ks.length≤b∧(∀ k∈ks,k0≤k∧k < L.length)∧∀ c∈o,∃ k∈ks,inS C Ns (L.getD k 0) c=true
theorem pickK_some (ar:Nat×Nat→List Nat):∀ (l:List (Nat×Nat)) (b:Nat×Nat),∃ c,pickK ar l (some b)=some c∧(c=b∨c∈l)∧(ar c).length≤(ar b).length∧∀ d∈l,(ar c).length≤(ar d).length
 | [],b=>⟨b,rfl,.inl rfl,Nat.le_refl _,fun d hd=>by cases hd⟩
 | d :: l,b=>by
  rw [pickK]
  by_cases h:(ar d).length < (ar b).length
  ·rw [if_pos h]
   obtain ⟨c,h1,h2,h3,h4⟩:=pickK_some ar l d
   refine ⟨c,h1,.inr (h2.elim (fun e=>by rw [e];exact .head _) fun e=>.tail _ e),by omega,fun e he=>?_⟩
   rcases List.mem_cons.1 he with rfl | he
   ·exact h3
   ·exact h4 e he
  ·rw [if_neg h]
   obtain ⟨c,h1,h2,h3,h4⟩:=pickK_some ar l b
   refine ⟨c,h1,h2.elim .inl fun e=>.inr (.tail _ e),h3,fun e he=>?_⟩
   rcases List.mem_cons.1 he with rfl | he
   ·omega
   ·exact h4 e he
theorem pickK_mem (ar:Nat×Nat→List Nat) {o:List (Nat×Nat)} (h:o≠[]):∃ c,pickK ar o none=some c∧c∈o∧∀ d∈o,(ar c).length≤(ar d).length:=by
 match o,h with
 | d :: l,_ =>
  rw [pickK]
  obtain ⟨c,h1,h2,h3,h4⟩:=pickK_some ar l d
  refine ⟨c,h1,h2.elim (fun e=>by rw [e];exact .head _) fun e=>.tail _ e,fun e he=>?_⟩
  rcases List.mem_cons.1 he with rfl | he
  ·exact h3
  ·exact h4 e he
section
variable {C:Nat} {Ns L:List Nat} {k0:Nat}
theorem mem_arK {c:Nat×Nat} {k:Nat}:k∈arK C Ns L k0 c↔k < L.length∧k0≤k∧inS C Ns (L.getD k 0) c=true:=by
 unfold arK
 rw [List.mem_filter,List.mem_range,Bool.and_eq_true,decide_eq_true_eq]
theorem gainM_ge {o:List (Nat×Nat)} {k:Nat} (hk:k < L.length):o.countP (inS C Ns (L.getD k 0))≤gainM C Ns L o:=by
 refine (foldl_max_le _ 0).2 _ (List.mem_map.2 ⟨L.getD k 0,?_,rfl⟩)
 rw [List.getD_eq_getElem?_getD,List.getElem?_eq_getElem hk]
 exact List.getElem_mem _
theorem count_less (o:List (Nat×Nat)) (s:Nat):o.length=o.countP (inS C Ns s)+(lessL C Ns o s).length:=by
 unfold lessL
 rw [← List.countP_eq_length_filter]
 have:=List.length_eq_countP_add_countP (l:=o) (inS C Ns s)
 rw [this]
 congr 1
 exact List.countP_congr fun x _=>by simp
theorem gain_le2 {K:Nat}:∀ (ks:List Nat) (o:List (Nat×Nat)),(∀ k∈ks,∀ o':List (Nat×Nat),o'.Sublist o→o'.countP (inS C Ns (L.getD k 0))≤K)→(∀ c∈o,∃ k∈ks,inS C Ns (L.getD k 0) c=true)→o.length≤ks.length*K
 | [],o,_,h=>by
  cases o with
  | nil=>simp
  | cons c o=>obtain ⟨k,hk,_⟩:=h c (.head _);cases hk
 | k :: ks,o,hK,h=>by
  have h1:=count_less (C:=C) (Ns:=Ns) o (L.getD k 0)
  have h2:=hK k (.head _) o (List.Sublist.refl _)
  have h3:=gain_le2 ks (lessL C Ns o (L.getD k 0)) (fun k' hk' o' ho'=>hK k' (.tail _ hk') o' (ho'.trans List.filter_sublist)) (fun c hc=>by
   obtain ⟨hc1,hc2⟩:=mem_lessL.1 hc
   obtain ⟨k',hk',he⟩:=h c hc1
   rcases List.mem_cons.1 hk' with rfl | hk'
   ·rw [hc2] at he;cases he
   ·exact ⟨k',hk',he⟩)
  rw [List.length_cons,Nat.succ_mul]
  omega
theorem covK_iff:∀ (b:Nat) (o:List (Nat×Nat)),covK C Ns L k0 b o=true↔CovK C Ns L k0 b o
 | 0,o=>by
  rw [covK,decide_eq_true_eq]
  constructor
  ·rintro rfl
   exact ⟨[],by simp,by simp,by simp⟩
  ·rintro ⟨ks,h1,_,h3⟩
   cases ks with
   | cons=>simp at h1
   | nil =>
    cases o with
    | nil=>rfl
    | cons c o=>obtain ⟨k,hk,_⟩:=h3 c (.head _);cases hk
 | b+1,o=>by
  rw [covK]
  by_cases h0:o=[]
  ·rw [if_pos h0]
   subst h0
   exact ⟨fun _=>⟨[],by simp,by simp,by simp⟩,fun _=>rfl⟩
  rw [if_neg h0]
  by_cases hg:(b+1)*gainM C Ns L o < o.length
  ·rw [if_pos hg]
   refine ⟨fun h=>(by cases h),fun ⟨ks,h1,h2,h3⟩=>?_⟩
   have:=gain_le2 (K:=gainM C Ns L o) ks o (fun k hk o' ho'=>Nat.le_trans (ho'.countP_le) (gainM_ge (h2 k hk).2)) h3
   have:=Nat.mul_le_mul_right (gainM C Ns L o) h1
   omega
  rw [if_neg hg]
  obtain ⟨c,hc,hco,_⟩:=pickK_mem (arK C Ns L k0) h0
  rw [hc]
  dsimp only
  rw [List.any_eq_true]
  constructor
  ·rintro ⟨k,hk,h⟩
   obtain ⟨ks,h1,h2,h3⟩:=(covK_iff b _).1 h
   obtain ⟨k1,k2,k3⟩:=mem_arK.1 hk
   refine ⟨k :: ks,by simpa using h1,fun k' hk'=>?_,fun d hd=>?_⟩
   ·rcases List.mem_cons.1 hk' with rfl | hk'
    ·exact ⟨k2,k1⟩
    ·exact h2 k' hk'
   ·cases hi:inS C Ns (L.getD k 0) d with
    | true=>exact ⟨k,.head _,hi⟩
    | false =>
     obtain ⟨k',hk',he⟩:=h3 d (mem_lessL.2 ⟨hd,hi⟩)
     exact ⟨k',.tail _ hk',he⟩
  ·rintro ⟨ks,h1,h2,h3⟩
   obtain ⟨k,hk,he⟩:=h3 c hco
   refine ⟨k,mem_arK.2 ⟨(h2 k hk).2,(h2 k hk).1,he⟩,(covK_iff b _).2 ⟨ks.erase k,?_,fun k' hk'=>h2 k' (List.mem_of_mem_erase hk'),fun d hd=>?_⟩⟩
   ·rw [List.length_erase_of_mem hk];omega
   ·obtain ⟨hd1,hd2⟩:=mem_lessL.1 hd
    obtain ⟨k',hk',he'⟩:=h3 d hd1
    refine ⟨k',(List.mem_erase_of_ne fun e=>?_).2 hk',he'⟩
    rw [e,hd2] at he';cases he'
theorem CovK.mono {b b':Nat} {o:List (Nat×Nat)} (h:CovK C Ns L k0 b o) (hb:b≤b'):CovK C Ns L k0 b' o:=by
 obtain ⟨ks,h1,h2⟩:=h
 exact ⟨ks,Nat.le_trans h1 hb,h2⟩
def callsT:Nat→Nat
 | 0=>1
 | b+1=>1+8*callsT b
def Few (C:Nat) (Ns L:List Nat):Prop:=∀ (k0:Nat) (o:List (Nat×Nat)) (c:Nat×Nat),(∀ d∈o,d∈cellsOf Ns)→pickK (arK C Ns L k0) o none=some c→(arK C Ns L k0 c).length≤8∨∀ k∈arK C Ns L k0 c,lessL C Ns o (L.getD k 0)=[]
def leastK (C:Nat) (Ns L:List Nat):Nat→Nat→Nat→List (Nat×Nat)→List Nat
 | 0,_,_,_=>[]
 | n+1,k,b,o=>if b=0 then [] else
  if covK C Ns L (k+1) (b-1) (lessL C Ns o (L.getD k 0))=true then k :: leastK C Ns L n (k+1) (b-1) (lessL C Ns o (L.getD k 0)) else leastK C Ns L n (k+1) b o
end
theorem few_list:∀ x,x < 5→∀ y,y < 5→x≠y→((List.range 32).filter fun s=>s.testBit y&&!s.testBit x).length=8:=by decide
theorem few_le (f:Nat→Nat) (l:List Nat) {x y:Nat} (hx:x < 5) (hy:y < 5) (hxy:x≠y) (hnd:l.Nodup) (hf:∀ a∈l,∀ b∈l,f a=f b→a=b) (h:∀ k∈l,f k < 32∧(f k).testBit y=true∧(f k).testBit x=false):l.length≤8:=by
 rw [← few_list x hx y hy hxy,← List.length_map (f:=f)]
 refine List.Nodup.length_le_of_subset ?_ fun s hs=>?_
 ·rw [List.Nodup,List.pairwise_map]
  exact hnd.imp_of_mem fun ha hb hne e=>hne (hf _ ha _ hb e)
 ·obtain ⟨k,hk,rfl⟩:=List.mem_map.1 hs
  obtain ⟨h1,h2,h3⟩:=h k hk
  rw [List.mem_filter,List.mem_range,h2,h3]
  exact ⟨h1,rfl⟩
section
variable {C:Nat} {Ns L:List Nat}
theorem arK_nodup (k0:Nat) (c:Nat×Nat):(arK C Ns L k0 c).Nodup:=List.nodup_range.sublist List.filter_sublist
theorem lt_of_bits {n N:Nat} (h:∀ i,N.testBit i=true→i < n):N < 2 ^ n:=Nat.lt_pow_two_of_testBit _ fun i hi=>by
 cases hb:N.testBit i with
 | false=>rfl
 | true=>have:=h i hb;omega
theorem few_ok (hC:C≤5) (hR:Ns.length≤5) (hL:∀ s∈L,cloN C Ns s=s) (hnd:L.Nodup):Few C Ns L:=by
 have hl:Ns.length≤4096:=by omega
 have hat:∀ k,k < L.length→cloN C Ns (L.getD k 0)=L.getD k 0:=fun k hk=>hL _ (by
  rw [List.getD_eq_getElem?_getD,List.getElem?_eq_getElem hk];exact List.getElem_mem _)
 have hinj:∀ a b,a < L.length→b < L.length→L.getD a 0=L.getD b 0→a=b:=fun a b ha hb e=>by
  rw [List.getD_eq_getElem?_getD,List.getElem?_eq_getElem ha,List.getD_eq_getElem?_getD,List.getElem?_eq_getElem hb] at e
  exact (List.getElem_inj hnd).1 e
 have hcol:∀ s j,cloN C Ns s=s→s.testBit j=true→j < C:=fun s j hs hj=>by rw [← hs] at hj;exact comN_lt hj
 intro k0 o c ho hc
 by_cases hsm:∃ d∈o,(arK C Ns L k0 d).length≤8
 ·obtain ⟨d,hd,h8⟩:=hsm
  have hne:o≠[]:=fun e=>by rw [e] at hd;cases hd
  obtain ⟨c',h1,h2,h3⟩:=pickK_mem (arK C Ns L k0) hne
  rw [hc] at h1
  cases h1
  exact .inl (Nat.le_trans (h3 d hd) h8)
 have hfull:∀ d∈o,d.1 < 5∧d.2 < 5∧(∀ x,x < 5→(Ns.getD d.1 0).testBit x=true)∧∀ x,x < 5→(Ns.getD x 0).testBit d.2=true:=by
  intro d hd
  obtain ⟨d1,d2⟩:=mem_cellsOf.1 (ho d hd)
  have d5:d.1 < 5:=by omega
  have hrow:d.2 < 5→∀ x,x < 5→(Ns.getD d.1 0).testBit x=true:=fun h5 x hx=>by
   cases hb:(Ns.getD d.1 0).testBit x with
   | true=>rfl
   | false =>
    exfalso
    refine hsm ⟨d,hd,few_le (fun k=>L.getD k 0) _ hx h5 (fun e=>by rw [e,d2] at hb;cases hb) (arK_nodup _ _) (fun a ha b hb' e=>hinj a b (mem_arK.1 ha).1 (mem_arK.1 hb').1 e) fun k hk=>?_⟩
    obtain ⟨k1,_,k3⟩:=mem_arK.1 hk
    unfold inS at k3
    rw [Bool.and_eq_true] at k3
    have hs:=hat k k1
    refine ⟨Nat.lt_of_lt_of_le (lt_of_bits (hcol _ · hs)) (Nat.pow_le_pow_right (by omega) hC),k3.1,?_⟩
    cases hx2:(L.getD k 0).testBit x with
    | false=>rfl
    | true=>rw [((testBit_havN C Ns hl _ _).1 k3.2).2 x hx2 (hcol _ x hs hx2)] at hb;cases hb
  by_cases h5:d.2 < 5
  ·refine ⟨d5,h5,hrow h5,fun x hx=>?_⟩
   cases hb:(Ns.getD x 0).testBit d.2 with
   | true=>rfl
   | false =>
    exfalso
    refine hsm ⟨d,hd,few_le (fun k=>havN C Ns (L.getD k 0)) _ hx d5 (fun e=>by rw [e,d2] at hb;cases hb) (arK_nodup _ _) (fun a ha b hb' e=>?_) fun k hk=>?_⟩
    ·have ha1:=(mem_arK.1 ha).1
     have hb1:=(mem_arK.1 hb').1
     refine hinj a b ha1 hb1 ?_
     rw [← hat a ha1,← hat b hb1]
     exact (hav_iff_clo hl _ _).1 e
    ·obtain ⟨k1,_,k3⟩:=mem_arK.1 hk
     unfold inS at k3
     rw [Bool.and_eq_true] at k3
     have hs:=hat k k1
     refine ⟨Nat.lt_of_lt_of_le (lt_of_bits fun i hi=>havN_lt hl hi) (Nat.pow_le_pow_right (by omega) hR),k3.2,?_⟩
     cases hx2:(havN C Ns (L.getD k 0)).testBit x with
     | false=>rfl
     | true=>rw [((testBit_havN C Ns hl _ _).1 hx2).2 d.2 k3.1 (hcol _ _ hs k3.1)] at hb;cases hb
  ·exfalso
   refine hsm ⟨d,hd,?_⟩
   have:arK C Ns L k0 d=[]:=List.eq_nil_iff_forall_not_mem.2 fun k hk=>by
    obtain ⟨k1,_,k3⟩:=mem_arK.1 hk
    unfold inS at k3
    rw [Bool.and_eq_true] at k3
    have:=hcol _ _ (hat k k1) k3.1
    omega
   rw [this];decide
 refine .inr fun k hk=>List.eq_nil_iff_forall_not_mem.2 fun d hd=>?_
 obtain ⟨hd1,hd2⟩:=mem_lessL.1 hd
 obtain ⟨k1,_,k3⟩:=mem_arK.1 hk
 obtain ⟨f1,f2,f3,f4⟩:=hfull d hd1
 have hs:=hat k k1
 obtain ⟨g1,g2⟩:=mem_cellsOf.1 (ho d hd1)
 have hd2C:d.2 < C:=by
  have hco:c∈o:=by
   obtain ⟨c',h1,h2,_⟩:=pickK_mem (arK C Ns L k0) (o:=o) fun e=>by rw [e] at hd1;cases hd1
   rw [hc] at h1;cases h1;exact h2
  refine Nat.lt_of_not_le fun hle=>hsm ⟨d,hd1,?_⟩
  have:arK C Ns L k0 d=[]:=List.eq_nil_iff_forall_not_mem.2 fun k hk=>by
   obtain ⟨k1,_,k3⟩:=mem_arK.1 hk
   unfold inS at k3
   rw [Bool.and_eq_true] at k3
   have:=hcol _ _ (hat k k1) k3.1
   omega
  rw [this];decide
 have:inS C Ns (L.getD k 0) d=true:=by
  unfold inS
  rw [Bool.and_eq_true]
  constructor
  ·rw [← hs]
   unfold cloN comN comTo
   rw [testBit_comGo,testBit_lowN,decide_eq_true_eq]
   exact ⟨hd2C,fun i hi hi'=>f4 i (by omega)⟩
  ·rw [testBit_havN C Ns hl]
   exact ⟨g1,fun j hj hj'=>f3 j (by omega)⟩
 rw [this] at hd2;cases hd2
end
def flatK (C:Nat) (Ns L:List Nat):List Nat:=L.flatMap fun s=>[havN C Ns s,s]
theorem flatK_len (C:Nat) (Ns L:List Nat):(flatK C Ns L).length=L.length*2:=by
 induction L with
 | nil=>rfl
 | cons s L ih=>unfold flatK at ih ⊢;rw [List.flatMap_cons,List.length_append,ih,List.length_cons];simp;omega
theorem flatK_app (C:Nat) (Ns L M:List Nat):flatK C Ns (L ++ M)=flatK C Ns L ++ flatK C Ns M:=by unfold flatK;rw [List.flatMap_append]
theorem flatK_snoc (C:Nat) (Ns L:List Nat) (s:Nat):flatK C Ns (L ++ [s])=flatK C Ns L ++ [havN C Ns s] ++ [s]:=by rw [flatK_app,List.append_assoc];rfl
theorem flatK_get (C:Nat) (Ns:List Nat):∀ (L:List Nat) (k s:Nat),L[k]?=some s→(flatK C Ns L)[k*2]?=some (havN C Ns s)∧(flatK C Ns L)[k*2+1]?=some s
 | [],k,s,h=>by simp at h
 | t :: L,0,s,h=>by
  cases h
  exact ⟨rfl,rfl⟩
 | t :: L,k+1,s,h=>by
  have:=flatK_get C Ns L k s (by simpa using h)
  rw [show (k+1)*2=k*2+1+1 by omega]
  exact this
def IsK (w:World) (v:Value) (C:Nat) (Ns L:List Nat):Prop:=∃ A c vs,v=.slice A L.length c∧Row w A vs∧Sets w vs (flatK C Ns L)∧L.length≤c∧L.length≤1000000
def OwnK (w:World) (base:Nat) (v:Value) (C:Nat) (Ns L:List Nat):Prop:=∃ vs,w.ownsRow base 98 2 v L.length vs∧Sets w vs (flatK C Ns L)
section
variable {w w':World} {base:Nat} {v:Value} {C:Nat} {Ns L:List Nat}
theorem OwnK.below (h:OwnK w base v C Ns L) (hb:Below w.heap.size w w'):OwnK w' base v C Ns L:=by
 obtain ⟨vs,h1,h2⟩:=h
 exact ⟨vs,own_below h1 hb,h2.below hb⟩
theorem OwnK.low {b0:Nat} (h:OwnK w base v C Ns L) (hb:b0≤base):OwnK w b0 v C Ns L:=by
 obtain ⟨vs,h1,h2⟩:=h
 exact ⟨vs,own_low h1 hb,h2⟩
theorem OwnK.nil (w:World) (base:Nat) (C:Nat) (Ns:List Nat):OwnK w base (.slice none 0 0) C Ns []:=⟨[],World.ownsRow_nil _ _ _ _,Sets.nil _⟩
theorem OwnK.isK (h:OwnK w base v C Ns L) (hl:L.length≤1000000):IsK w v C Ns L:=by
 obtain ⟨vs,h1,h2⟩:=h
 obtain ⟨A,c,e,hr⟩:=RowN.of_own h1
 exact ⟨A,c,vs,e,hr.1,h2,hr.2.1,hl⟩
theorem IsK.at {A:Option Addr} {n c k s:Nat} (h:IsK w (.slice A n c) C Ns L) (hk:L[k]?=some s) :
  ∃ g off A1 c1 A2 c2,A=some ⟨g,off,none⟩∧g < w.heap.size∧w.cell? ⟨g,off+k*2,none⟩=some (.slice A1 (nw (havN C Ns s)) c1)∧w.cell? ⟨g,off+k*2+1,none⟩=some (.slice A2 (nw s) c2) ∧
   IsSet w (.slice A1 (nw (havN C Ns s)) c1) (havN C Ns s)∧IsSet w (.slice A2 (nw s) c2) s:=by
 obtain ⟨A',c',vs,e,h1,h2,h3⟩:=h
 cases e
 have hlt:=(List.getElem?_eq_some_iff.1 hk).1
 have hvl:vs.length=L.length*2:=by rw [h2.1,flatK_len]
 obtain ⟨k1,k2⟩:=flatK_get C Ns L k s hk
 obtain ⟨g,off,rfl,hg,hc⟩:=h1 (by omega)
 obtain ⟨v1,hv1⟩:∃ x,vs[k*2]?=some x:=⟨_,List.getElem?_eq_getElem (by omega)⟩
 obtain ⟨v2,hv2⟩:∃ x,vs[k*2+1]?=some x:=⟨_,List.getElem?_eq_getElem (by omega)⟩
 have s1:=h2.2 _ _ _ hv1 k1
 have s2:=h2.2 _ _ _ hv2 k2
 obtain ⟨A1,c1,rfl,_⟩:=id s1
 obtain ⟨A2,c2,rfl,_⟩:=id s2
 have e2:=hc _ _ hv2
 rw [← Nat.add_assoc] at e2
 exact ⟨g,off,A1,c1,A2,c2,rfl,hg,hc _ _ hv1,e2,s1,s2⟩
theorem OwnK.mk_ {n s:Nat} {vs:List Value} {v1 v2:Value} (h:w.ownsRow base 98 2 v n (vs ++ [v1,v2])) (hn:n=L.length+1) (hs:Sets w vs (flatK C Ns L)) (h1:IsSet w v1 (havN C Ns s)) (h2:IsSet w v2 s):OwnK w base v C Ns (L ++ [s]):=by
 refine ⟨vs ++ [v1,v2],by rw [List.length_append,List.length_singleton,← hn];exact h,?_⟩
 rw [flatK_snoc,show vs ++ [v1,v2]=vs ++ [v1] ++ [v2] by simp]
 exact (hs.snoc h1).snoc h2
end
theorem OwnK.push {W W':World} {base n s:Nat} {v v' v1 v2:Value} {C:Nat} {Ns L:List Nat} {vs:List Value} (hs:Sets W vs (flatK C Ns L)) (hown:W.ownsRow base 98 2 v n vs) (hg:W.grownBy W' v.ownBlock)
  (hown':W'.ownsRow base 98 2 v' (n+1) (vs ++ [v1,v2])) (hn:n=L.length) (h1:IsSet W v1 (havN C Ns s)) (h2:IsSet W v2 s):OwnK W' base v' C Ns (L ++ [s])∧KeepW W W':=by
 have hk:=KeepW.grown hg hown (by decide)
 exact ⟨OwnK.mk_ hown' (by rw [hn]) (hs.keep hk) (h1.keep hk) (h2.keep hk),hk⟩
theorem OwnK.put {W:World} {base g:Nat} {v:Value} {C:Nat} {Ns L:List Nat} {t:TypeId} {cs:Array Value} (h:OwnK W base v C Ns L) (hB:Blk W g t cs) (ht:t≠98) (ht2:146≠t) (i:Nat) (u:Value):OwnK (W.setCell ⟨g,i,none⟩ u) base v C Ns L:=by
 obtain ⟨vs,h1,h2⟩:=h
 exact ⟨vs,ownsRow_setCell_other h1 (a:=⟨g,i,none⟩) (fun e=>own_ne h1 hB ht e.symm) u,h2.keep (KeepW.setCell (p:=⟨g,i,none⟩) hB ht2 u)⟩
theorem own_butT {W W':World} {base g n size:Nat} {e t:TypeId} {v:Value} {xs:List Value} {cs:Array Value} (h:W.ownsRow base e size v n xs) (hB:Blk W g t cs) (ht:t≠e) (k:But (some g) W W'):W'.ownsRow base e size v n xs:=by
 refine ⟨h.1,h.2.imp id fun ⟨g',cap,cur,hv,hg,hb,r⟩=>⟨g',cap,cur,hv,hg,?_,r⟩⟩
 exact k.blk (show Blk W g' e cur from hb) fun e'=>by
  have:=Option.some.inj e'
  subst this
  exact hB.ne_ (show Blk W g' e cur from hb) ht rfl
theorem OwnK.but {W W':World} {base g:Nat} {v:Value} {C:Nat} {Ns L:List Nat} {t:TypeId} {cs:Array Value} (h:OwnK W base v C Ns L) (hB:Blk W g t cs) (ht:t≠98) (ht2:146≠t) (k:But (some g) W W'):OwnK W' base v C Ns L:=by
 obtain ⟨vs,h1,h2⟩:=h
 exact ⟨vs,own_butT h1 hB ht k,h2.keep (KeepW.of_but k hB ht2)⟩
def OwnO (w:World) (base:Nat) (v:Value) (Os:List Nat):Prop:=∃ vs,w.ownsRow base 58 1 v Os.length vs∧Sets w vs Os
section
variable {w w':World} {base:Nat} {v:Value} {Os:List Nat}
theorem OwnO.below (h:OwnO w base v Os) (hb:Below w.heap.size w w'):OwnO w' base v Os:=by
 obtain ⟨vs,h1,h2⟩:=h
 exact ⟨vs,own_below h1 hb,h2.below hb⟩
theorem OwnO.low {b0:Nat} (h:OwnO w base v Os) (hb:b0≤base):OwnO w b0 v Os:=by
 obtain ⟨vs,h1,h2⟩:=h
 exact ⟨vs,own_low h1 hb,h2⟩
theorem OwnO.but {g:Nat} {t:TypeId} {cs:Array Value} (h:OwnO w base v Os) (hB:Blk w g t cs) (ht:t≠58) (ht2:146≠t) (k:But (some g) w w'):OwnO w' base v Os:=by
 obtain ⟨vs,h1,h2⟩:=h
 exact ⟨vs,own_butT h1 hB ht k,h2.keep (KeepW.of_but k hB ht2)⟩
theorem OwnO.shut {n:Nat} (h:OwnO w base v Os) (k:Shut n w w'):OwnO w' base v Os:=by
 obtain ⟨vs,h1,h2⟩:=h
 exact ⟨vs,⟨h1.1,h1.2.imp id fun ⟨g,cap,cur,hv,hg,hb,r⟩=>⟨g,cap,cur,hv,hg,k.2 _ _ _ _ hb,r⟩⟩,h2.keep k.keep⟩
theorem OwnO.row (h:OwnO w base v Os):∃ A c vs,v=.slice A Os.length c∧Row w A vs∧Sets w vs Os∧Os.length≤c:=by
 obtain ⟨vs,h1,h2⟩:=h
 obtain ⟨A,c,e,hr⟩:=RowN.of_own h1
 exact ⟨A,c,vs,e,hr.1,h2,hr.2.1⟩
end
theorem info_con:(Tryz.prog.info? 98).map (fun i=>(i.zero,i.size,i.bytes))=some (some (.agg #[.slice none 0 0,.slice none 0 0]),2,48):=by kernel_rfl
theorem low_has {a j:Nat}:(a&&&lowN (j+1)).testBit j=a.testBit j:=by
 rw [Nat.testBit_and,testBit_lowN];simp
theorem low_no {a j:Nat} (h:a.testBit j=false):a&&&lowN (j+1)=a&&&lowN j:=Nat.eq_of_testBit_eq fun x=>by
 rw [Nat.testBit_and,Nat.testBit_and,testBit_lowN,testBit_lowN]
 by_cases e:x=j
 ·subst e;rw [h];rfl
 ·rw [decide_eq_decide.2 (show x < j+1↔x < j by omega)]
theorem low_yes {a j:Nat} (h:a.testBit j=true):(a&&&lowN (j+1)) ^^^ 2 ^ j=a&&&lowN j:=Nat.eq_of_testBit_eq fun x=>by
 rw [Nat.testBit_xor,Nat.testBit_and,Nat.testBit_and,testBit_lowN,testBit_lowN,Nat.testBit_two_pow]
 by_cases e:x=j
 ·subst e;rw [h];simp
 ·rw [decide_eq_decide.2 (show x < j+1↔x < j by omega),decide_eq_false (show ¬ j=x from fun h=>e h.symm),Bool.xor_false]
theorem first_good {C:Nat} {Ns:List Nat} (hl:Ns.length≤4096) {a j:Nat} (hj:j < C) (h:a.testBit j=false) :
  ∃ L,(minusN (stepN C Ns a j) (a&&&lowN j)).testBit L=true∧(∀ x,x < L→(minusN (stepN C Ns a j) (a&&&lowN j)).testBit x=false)∧L≤j∧goodI C Ns a j=decide (L=j):=by
 have hb:(minusN (stepN C Ns a j) (a&&&lowN j)).testBit j=true:=by
  rw [testBit_minusN,step_sup hl hj (.inr rfl),Nat.testBit_and,h];rfl
 obtain ⟨L,h1,h2⟩:=least_ex (p:=fun i=>(minusN (stepN C Ns a j) (a&&&lowN j)).testBit i=true) _ hb
 refine ⟨L,h1,fun x hx=>?_,h2 j hb,?_⟩
 ·cases hx':(minusN (stepN C Ns a j) (a&&&lowN j)).testBit x with
  | false=>rfl
  | true=>have:=h2 x hx';omega
 ·unfold goodI
  rw [h]
  show (true&&_)=_
  rw [Bool.true_and,decide_eq_decide]
  constructor
  ·intro h0
   refine Nat.le_antisymm (h2 j hb) (Nat.le_of_not_lt fun hlt=>?_)
   have:=congrArg (fun n=>n.testBit L) h0
   simp only [Nat.testBit_and,testBit_lowN,Nat.zero_testBit] at this
   rw [h1,decide_eq_true hlt] at this;cases this
  ·rintro rfl
   refine Nat.eq_of_testBit_eq fun x=>?_
   rw [Nat.testBit_and,testBit_lowN,Nat.zero_testBit]
   by_cases hx:x < L
   ·cases hx':(minusN (stepN C Ns a L) (a&&&lowN L)).testBit x with
    | false=>rfl
    | true=>have:=h2 x hx';omega
   ·rw [decide_eq_false hx,Bool.and_false]
theorem next_any (p C:Nat) (Ns:List Nat) (v:Value) (a:Nat) (w:World) (h:IsMat w p C Ns) (hs:IsSet w v a) (hT:Tab w) (ha:a&&&lowN C=a) :
  Calls Tryz.prog 128 #[ptr p,.agg #[v]] w fun e w'=>∃ A n c,e=.returned (.tuple #[.agg #[.slice A n c],.bool (nextTo C Ns a C).isSome])∧(∀ s,nextTo C Ns a C=some s→IsSet w' (.slice A n c) s)∧Below w.heap.size w w':=by
 obtain ⟨A0,c0,rfl,_⟩:=id hs
 have hC:C≤4096:=h.1
 have hl:Ns.length≤4096:=h.2.1
 obtain ⟨res,hres⟩:∃ r,r=nextTo C Ns a C:=⟨_,rfl⟩
 rw [← hres]
 have HRES:=Lib.hid hres
 clear hres
 go_enter Tryz.func128,Tryz.ntmps128
 go_wp2_with fail
 refine absC2 fun W0 h3 h4 hb0 hz=>?_
 clear hz
 obtain ⟨g,hg⟩:∃ g,g=w.heap.size:=⟨_,rfl⟩
 have hgw:w.heap.size≤g:=by omega
 rw [← hg] at h3 h4 ⊢
 clear hg
 refine (cols_any p C Ns W0 (h.below hb0)).mono ?_
 rintro e w' ⟨rfl,rfl⟩
 have hw1:wrap64 ((C:Int)-1)=(C:Int)-1:=IntWalk.wrap64_in _ ⟨by omega,by omega⟩
 go_wp2_with fail
 refine wp_loopF (β:=Nat×Int×Option Addr×Nat) (fun x f=>#[ptr p,f 1,f 2,ptr g,ptr (g+1),.bool false,.int .i64 x.2.1,f 7,f 8,f 9,f 10,f 11,f 12,f 13,f 14,f 15,f 16,f 17,f 18,f 19,f 20,f 21,f 22,f 23,f 24,f 25,f 26,f 27,f 28,f 29,f 30,f 31,f 32,f 33,f 34,f 35,f 36,f 37,f 38,f 39])
  (fun x ds W=>x.2.1=(x.1:Int)-1∧x.1≤C∧ds=[]∧Below w.heap.size w W∧Blk W g 58 #[.slice x.2.2.1 (nw (a&&&lowN x.1)) x.2.2.2]∧IsSet W (.slice x.2.2.1 (nw (a&&&lowN x.1)) x.2.2.2) (a&&&lowN x.1)∧Blk W (g+1) 58 #[.slice none 0 0]∧res=nextTo C Ns a x.1) (fun x=>x.1) (C,(C:Int)-1,A0,c0) rfl
  ⟨rfl,Nat.le_refl _,rfl,hb0,by rw [ha];exact h3,by rw [ha];exact hs.below hb0,h4,HRES.out⟩ ?_
 rintro ⟨j1,i,A,c⟩ f ds W ⟨hi,hj1,rfl,hb,k3,sa,k4,hre⟩
 dsimp only at hi hj1 k3 sa hre ⊢
 cases j1 with
 | zero =>
  obtain rfl:i=-1:=by omega
  clear hi
  have hr:res=none:=hre
  subst hr
  have f4:=k4.frozen 0
  have c4:=k4.cell 0
  clear HRES hre
  go_wp2_with fail
  have cX:=(k4.set_ 0 (.slice none 0 0)).cell 0
  refine bodyPost_ret (v:=.tuple #[.agg #[.slice none 0 0],.bool false]) (by simp [results,Tryz.results128,go_sem,cX]) rfl ⟨_,_,_,rfl,fun s hs=>(nomatch hs),hb.setCell (show w.heap.size≤g+1 by omega) _⟩
 | succ j =>
  obtain rfl:i=(j:Int):=by omega
  have hj:j < C:=by omega
  clear hi
  have hw2:wrap64 ((j:Int)-1)=(j:Int)-1:=IntWalk.wrap64_in _ ⟨by omega,by omega⟩
  have c3:=k3.cell 0
  have hh:=has_in (.slice A (nw (a&&&lowN (j+1))) c) (a&&&lowN (j+1)) j W sa (by omega)
  rw [low_has] at hh
  cases htb:a.testBit j with
  | true =>
   have HL:=Lib.hid (low_yes htb)
   have HRE:=Lib.hid (show res=nextTo C Ns a j by rw [hre,nextTo,if_neg (by unfold goodI;rw [htb];simp)])
   rw [htb] at hh
   have hto:=low_has (a:=a) (j:=j)
   rw [htb] at hto
   obtain ⟨N,hN⟩:∃ N,N=a&&&lowN (j+1):=⟨_,rfl⟩
   rw [← hN] at hh hto sa k3 c3 HL
   clear hN htb hre HRES
   go_wp2_with fail
   refine hh.mono ?_
   rintro e W1 ⟨rfl,hb1⟩
   have b1:=hb.trans (hb1.mono hb.size)
   have k31:=k3.below hb1 k3.lt
   have k41:=k4.below hb1 k4.lt
   have c31:=k31.cell 0
   have sa1:=sa.below hb1
   clear hh c3 k3 k4 sa hb1
   go_wp2_with fail
   refine (without_yes _ N j W1 sa1 (by omega) hto).mono ?_
   rintro e W2 ⟨r,rfl,sr,hb1⟩
   rw [HL.out] at sr
   obtain ⟨A2,c2,rfl,_⟩:=id sr
   have b2:=b1.trans (hb1.mono b1.size)
   have k32:=k31.below hb1 k31.lt
   have k42:=k41.below hb1 k41.lt
   have c32:=k32.cell 0
   have f32:=k32.frozen 0
   clear c31 k31 k41 sa1 hb1
   go_wp2_with fail
   exact ⟨(j,(j:Int)-1,A2,c2),rfl,⟨rfl,by show j≤C;omega,by first | rfl | trivial,b2.setCell (by simpa using hgw) _,k32.set_ 0 _,sr.put k32 (by decide) 0 _,k42.far (p:=⟨g,0,none⟩) (by simp) _,HRE.out⟩,by show j < j+1;omega⟩
  | false =>
   have hno:=low_no htb
   obtain ⟨L,hL1,hL2,hLj,hgd⟩:=first_good hl hj htb
   rw [htb] at hh
   have hto:=low_has (a:=a) (j:=j)
   rw [htb,hno] at hto
   rw [hno] at sa k3 c3 hh
   have hst:stepN C Ns a j=cloN C Ns ((a&&&lowN j)|||2 ^ j):=rfl
   obtain ⟨N,hN⟩:∃ N,N=a&&&lowN j:=⟨_,rfl⟩
   rw [← hN] at hh hto sa k3 c3 hst hL1 hL2
   obtain ⟨B,hB⟩:∃ B,B=stepN C Ns a j:=⟨_,rfl⟩
   rw [← hB] at hst hL1 hL2
   have HL1:=Lib.hid hL1;have HL2:=Lib.hid hL2
   have HST:=Lib.hid hst
   have HN:=Lib.hid hN
   rw [nextTo] at hre
   rw [← hB] at hre
   have HRE:=Lib.hid hre
   have HGD:=Lib.hid hgd
   clear hN hB hst htb hno hre HRES hgd hL1 hL2
   go_wp2_with fail
   refine hh.mono ?_
   rintro e W1 ⟨rfl,hb1⟩
   have b1:=hb.trans (hb1.mono hb.size)
   have k31:=k3.below hb1 k3.lt
   have k41:=k4.below hb1 k4.lt
   have c31:=k31.cell 0
   have sa1:=sa.below hb1
   clear hh c3 k3 k4 sa hb1
   go_wp2_with fail
   refine (with_new _ N j W1 sa1 (by omega) hto).mono ?_
   rintro e W2 ⟨r,rfl,sr,hb1⟩
   obtain ⟨A2,c2,rfl,_⟩:=id sr
   have b2:=b1.trans (hb1.mono b1.size)
   have k32:=k31.below hb1 k31.lt
   have k42:=k41.below hb1 k41.lt
   have sa2:=sa1.below hb1
   clear c31 k31 k41 sa1 hb1
   go_wp2_with fail
   refine (close_any (some ⟨p,0,none⟩) C Ns _ _ W2 (h.below b2).mv sr (hT.below b2)).mono ?_
   rintro e W3 ⟨r,rfl,sb,hb1⟩
   rw [← HST.out] at sb
   obtain ⟨A3,c3,rfl,_⟩:=id sb
   have b3:=b2.trans (hb1.mono b2.size)
   have k33:=k32.below hb1 k32.lt
   have k43:=k42.below hb1 k42.lt
   have sa3:=sa2.below hb1
   clear k32 k42 sa2 hb1 sr
   go_upto_region 7 with fail
   refine abs1 fun W4 h7 hb1 hz=>?_
   clear hz
   have b4:=b3.trans (hb1.mono b3.size)
   have k34:=k33.below hb1 k33.lt
   have k44:=k43.below hb1 k43.lt
   have sa4:=sa3.below hb1
   have sb4:=sb.below hb1
   have c34:=k34.cell 0
   have c7:=h7.cell 0
   obtain ⟨g7,hg7⟩:∃ g,g=W3.heap.size:=⟨_,rfl⟩
   rw [← hg7] at h7 c7 ⊢
   clear hg7 k33 k43 sa3 hb1 sb
   go_wp2_with fail
   refine (minus_any _ _ B N W4 sb4 sa4).mono ?_
   rintro e W5 ⟨r,rfl,sd,hb1⟩
   obtain ⟨A5,c5,rfl,_⟩:=id sd
   have b5:=b4.trans (hb1.mono b4.size)
   have k35:=k34.below hb1 k34.lt
   have k45:=k44.below hb1 k44.lt
   have h75:=h7.below hb1 h7.lt
   have sa5:=sa4.below hb1
   have sb5:=sb4.below hb1
   clear k34 k44 sa4 hb1 sb4 c34 c7 h7
   go_wp2_with fail
   refine (least_yes _ _ L W5 sd HL1.out HL2.out (hT.below b5)).mono ?_
   rintro e W6 ⟨rfl,hb1,_⟩
   have b6:=b5.trans (hb1.mono b5.size)
   have k36:=k35.below hb1 k35.lt
   have k46:=k45.below hb1 k45.lt
   have h76:=h75.below hb1 h75.lt
   have sa6:=sa5.below hb1
   have sb6:=sb5.below hb1
   have c76:=h76.cell 0
   have f46:=k46.frozen 0
   have c46:=k46.cell 0
   clear k35 k45 sa5 hb1 sb5 h75 sd
   by_cases hLe:L=j
   ·subst hLe
    have hre:=HRE.out
    rw [if_pos (by rw [HGD.out];exact decide_eq_true rfl)] at hre
    subst hre
    clear HRE HGD
    go_wp2_with fail
    have cX:=(k46.set_ 0 (.slice A3 (nw B) c3)).cell 0
    refine bodyPost_ret (v:=.tuple #[.agg #[.slice A3 (nw B) c3],.bool true]) (by simp [results,Tryz.results128,go_sem,cX]) rfl ⟨_,_,_,rfl,fun s hs=>?_,b6.setCell (show w.heap.size≤g+1 by omega) _⟩
    cases hs
    exact sb6.put k46 (by decide) 0 _
   ·have hre:=HRE.out
    rw [if_neg (by rw [HGD.out];simpa using hLe)] at hre
    have HR2:=Lib.hid hre
    have hne:((L:Int) == (j:Int))=false:=by rw [beq_eq_false_iff_ne];omega
    have hne2:¬ ((L:Int)=(j:Int)):=by omega
    clear hre HRE HGD
    go_wp2_with fail
    rw [HN.out] at k36 sa6
    exact ⟨(j,(j:Int)-1,A,c),rfl,⟨rfl,by show j≤C;omega,by first | rfl | trivial,b6,k36,sa6,k46,HR2.out⟩,by show j < j+1;omega⟩
def IsLat (w:World) (g base p C:Nat) (Ns L:List Nat):Prop:=∃ v,Blk w g 197 #[ptr p,v]∧OwnK w base v C Ns L
section
variable {w w':World} {base g:Nat} {v:Value} {C:Nat} {Ns L:List Nat}
theorem OwnK.val (h:OwnK w base v C Ns L):∃ A c,v=.slice A L.length c:=by
 obtain ⟨vs,h1,_⟩:=h
 obtain ⟨A,c,e,_⟩:=RowN.of_own h1
 exact ⟨A,c,e⟩
theorem OwnK.val_ {n:Nat} (h:OwnK w base v C Ns L) (hn:L.length=n):∃ A c,v=.slice A n c:=by subst hn;exact h.val
theorem closL_len (C:Nat) (Ns:List Nat):(closL C Ns).length≤2 ^ C:=closTo_len C Ns (2 ^ C)
theorem clos_low {k a:Nat} (h:(closL C Ns)[k]?=some a):a&&&lowN C=a:=by
 have hc:=mem_closL.1 (List.mem_of_getElem? h)
 refine Nat.eq_of_testBit_eq fun x=>?_
 rw [Nat.testBit_and,testBit_lowN]
 cases hx:a.testBit x with
 | false=>rfl
 | true =>
  rw [← hc] at hx
  rw [decide_eq_true (comN_lt hx)];rfl
end
namespace Mix2
theorem new_lat (p C:Nat) (Ns:List Nat) (most:Int) (w:World) (h:IsMat w p C Ns) (hT:Tab w) (hC:C≤12) (hm:((closL C Ns).length:Int)≤most) :
  Calls Tryz.prog 74 #[ptr p,.int .i64 most] w fun e w'=>∃ g,e=pair (ptr g) 0∧IsLat w' g w.heap.size p C Ns (closL C Ns)∧Below w.heap.size w w':=by
 obtain ⟨i0,hi0,hz0,hz1,hz2⟩:=info_parts info_con
 have hl:Ns.length≤4096:=h.2.1
 have hfirst:=clos_first (C:=C) (Ns:=Ns) hl
 have hll:=closL_len C Ns
 have hp12:2 ^ C≤2 ^ 12:=Nat.pow_le_pow_right (by omega) hC
 have hnext:=fun k a=>next_at (C:=C) (Ns:=Ns) hl (k:=k) (a:=a)
 have hclo:=fun k a (hk:(closL C Ns)[k]?=some a)=>mem_closL.1 (List.mem_of_getElem? hk)
 have hlow:=fun k a=>clos_low (C:=C) (Ns:=Ns) (k:=k) (a:=a)
 obtain ⟨L,hL⟩:∃ L,L=closL C Ns:=⟨_,rfl⟩
 rw [← hL] at hfirst hll hm hnext hclo hlow ⊢
 have hpos:0 < L.length:=(List.getElem?_eq_some_iff.1 hfirst).1
 have hLL:L.length≤4096:=by omega
 have HN:=Lib.hid hnext;have HCL:=Lib.hid hclo;have HLO:=Lib.hid hlow
 clear hL hll hp12 hnext hclo hlow
 have hm1:¬ most < 1:=by omega
 go_enter Tryz.func74,Tryz.ntmps74
 go_upto_region 4 with fail
 refine abs1 fun W0 h6 hb0 hz=>?_
 clear hz
 obtain ⟨g,hg⟩:∃ g,g=w.heap.size:=⟨_,rfl⟩
 have hgw:w.heap.size≤g:=by omega
 rw [← hg] at h6 ⊢
 clear hg
 go_wp2_with fail
 refine (close_any (some ⟨p,0,none⟩) C Ns _ 0 W0 (h.below hb0).mv (IsSet.empty _) (hT.below hb0)).mono ?_
 rintro e W1 ⟨r,rfl,sa,hb1⟩
 obtain ⟨A0,c0,rfl,_⟩:=id sa
 obtain ⟨n0,hn0⟩:∃ n,n=nw (cloN C Ns 0):=⟨_,rfl⟩
 rw [← hn0] at sa ⊢
 have b1:=hb0.trans (hb1.mono hb0.size)
 have h61:=h6.below hb1 h6.lt
 clear h6 hb0 hb1 hn0
 go_wp2_with fail
 refine abs1 fun W2 h7 hb1 hz=>?_
 clear hz
 have b2:=b1.trans (hb1.mono b1.size)
 have h62:=h61.below hb1 h61.lt
 have sa2:=sa.below hb1
 obtain ⟨ga,hga⟩:∃ x,x=W1.heap.size:=⟨_,rfl⟩
 have hgaw:g < ga:=by rw [hga];exact h61.lt
 rw [← hga] at h7 ⊢
 clear hga h61 sa b1 hb1
 refine wp_loopF (β:=Nat×Bool×Option Addr×Nat×Nat×Value) (fun x f=>#[ptr p,.int .i64 most,f 2,f 3,.pointer none,.int .i64 0,ptr g,ptr ga,.bool x.2.1,f 9,f 10,f 11,f 12,f 13,f 14,f 15,f 16,f 17,f 18,f 19,f 20,f 21,f 22,f 23,f 24,f 25,f 26,f 27,f 28,f 29,f 30,f 31,f 32,f 33,f 34,f 35,f 36,f 37,f 38,f 39,f 40,f 41,f 42,f 43,f 44,f 45,f 46,f 47])
  (fun x ds W=>ds=[]∧x.1≤L.length∧x.2.1=decide (x.1 < L.length)∧Below w.heap.size w W∧Blk W g 197 #[ptr p,x.2.2.2.2.2]∧OwnK W w.heap.size x.2.2.2.2.2 C Ns (L.take x.1)∧Blk W ga 58 #[.slice x.2.2.1 x.2.2.2.1 x.2.2.2.2.1]∧∀ s,L[x.1]?=some s→IsSet W (.slice x.2.2.1 x.2.2.2.1 x.2.2.2.2.1) s) (fun x=>L.length-x.1) (0,true,A0,n0,c0,.slice none 0 0) rfl
  ⟨rfl,Nat.zero_le _,(decide_eq_true hpos).symm,b2,h62,by rw [List.take_zero];exact OwnK.nil _ _ _ _,h7,fun s hs=>by rw [hfirst] at hs;cases hs;exact sa2⟩ ?_
 rintro ⟨k,ok,A,n,c,vl⟩ f ds W ⟨rfl,hk,hok,hb,k6,hown,k7,hset⟩
 dsimp only at hk hok k6 hown k7 hset ⊢
 by_cases hlt:k < L.length
 ·obtain rfl:ok=true:=by rw [hok];exact decide_eq_true hlt
  obtain ⟨s,hs⟩:∃ s,L[k]?=some s:=⟨_,List.getElem?_eq_getElem hlt⟩
  have sa:=hset s hs
  obtain ⟨A',c',e,_⟩:=id sa
  injection e with e1 e2 e3
  subst e1;subst e2;subst e3
  have hcs:=HCL.out k s hs
  have hls:=HLO.out k s hs
  have hnx:=HN.out k s hs
  have htk:L.take (k+1)=L.take k ++ [s]:=by rw [List.take_add_one,hs];rfl
  have htl:(L.take k).length=k:=by rw [List.length_take];omega
  obtain ⟨vs,hown0,hsets⟩:=id hown
  rw [htl] at hown0
  obtain ⟨Al,cl,rfl⟩:=hown.val
  rw [htl] at k6 hown0
  have HTL:=Lib.hid htl;have HNX:=Lib.hid hnx;have HTK:=Lib.hid htk;have HSE:=Lib.hid hsets;have HLS:=Lib.hid hls
  have hmk:((k:Int) == most)=false:=by rw [beq_eq_false_iff_ne];omega
  have hmk2:¬ ((k:Int)=most):=by omega
  have c60:=k6.cell 0
  have c61:=k6.cell 1
  have c7:=k7.cell 0
  clear hset hnx htk htl hsets hfirst hok hls
  go_wp2_with fail
  refine wp_mix (fun V=>V.cell? ⟨g,0,none⟩=some (ptr p)∧V.cell? ⟨g,1,none⟩=some (.slice Al k cl)∧V.cell? ⟨ga,0,none⟩=some (.slice A (nw s) c)) 13 (by kernel_rfl) (by kernel_rfl) ⟨c60,c61,c7⟩ ?_
  have hr:=(Below.refl W.heap.size W).drew
  obtain ⟨u,hu⟩:∃ V,V=W.drew:=⟨_,rfl⟩
  rw [← hu] at hr ⊢
  clear hu
  (refine m_q 0 (v:=?_) (by kernel_rfl) rfl rfl (fun W hW=>?_) ?_;rotate_left;(obtain ⟨z6,z61,z7⟩:=hW;go_simp;first | done | with_reducible rfl);simp only [pt1,pt3,pt4,pt5]);(refine m_q 1 (v:=?_) (by kernel_rfl) rfl rfl (fun W hW=>?_) ?_;rotate_left;(obtain ⟨z6,z61,z7⟩:=hW;go_simp;first | done | with_reducible rfl);simp only [pt1,pt3,pt4,pt5]);(refine m_q 2 (v:=?_) (by kernel_rfl) rfl rfl (fun W hW=>?_) ?_;rotate_left;(obtain ⟨z6,z61,z7⟩:=hW;go_simp;first | done | with_reducible rfl);simp only [pt1,pt3,pt4,pt5]);(refine m_q 3 (v:=?_) (by kernel_rfl) rfl rfl (fun W hW=>?_) ?_;rotate_left;(obtain ⟨z6,z61,z7⟩:=hW;go_simp;first | done | with_reducible rfl);simp only [pt1,pt3,pt4,pt5]);(refine m_q 4 (v:=?_) (by kernel_rfl) rfl rfl (fun W hW=>?_) ?_;rotate_left;(obtain ⟨z6,z61,z7⟩:=hW;go_simp;first | done | with_reducible rfl);simp only [pt1,pt3,pt4,pt5]);(refine m_q 5 (v:=?_) (by kernel_rfl) rfl rfl (fun W hW=>?_) ?_;rotate_left;(obtain ⟨z6,z61,z7⟩:=hW;go_simp;first | done | with_reducible rfl);simp only [pt1,pt3,pt4,pt5]);(refine m_q 6 (v:=?_) (by kernel_rfl) rfl rfl (fun W hW=>?_) ?_;rotate_left;(obtain ⟨z6,z61,z7⟩:=hW;go_simp;first | done | with_reducible rfl);simp only [pt1,pt3,pt4,pt5])
  refine m_s1 7 (by kernel_rfl) rfl ?_
  go_wp2_with fail
  refine (of_is (X:=havN C Ns s) (Y:=s) rfl hcs ((h.below (hb.trans (hr.mono hb.size))).mv) (sa.below hr) (hT.below (hb.trans (hr.mono hb.size)))).mono ?_
  rintro e u1 ⟨A1,c1,A2,c2,rfl,s1,s2,hb1⟩
  have r1:=hr.trans (hb1.mono hr.size)
  have k61:=k6.below r1 k6.lt
  have k71:=k7.below r1 k7.lt
  go_wp2_with fail
  refine m_keep ⟨k61.cell 0,k61.cell 1,k71.cell 0⟩ ?_
  refine m_s1 8 (by kernel_rfl) rfl ?_
  go_wp2_with fail
  refine absN fun u2 hB hb2 hz=>?_
  clear hz
  have r2:=r1.trans (hb2.mono r1.size)
  have k62:=k6.below r2 k6.lt
  have k72:=k7.below r2 k7.lt
  have hlocs:=own_below hown0 r2
  have b2':=hb.trans (r2.mono hb.size)
  have s12:=s1.below hb2
  have s22:=s2.below hb2
  obtain ⟨gB,hgB⟩:∃ x,x=u1.heap.size:=⟨_,rfl⟩
  rw [← hgB] at hB ⊢
  clear hgB
  refine m_keep ⟨k62.cell 0,k62.cell 1,k72.cell 0⟩ ?_
  refine m_s1 9 (by kernel_rfl) rfl ?_
  have hsz:=b2'.size
  have HNW:=hideC (World.news_of_block hB)
  go_wp2_with (at_builtin;refine wpList_append_own _ rfl _ _ 80 rfl (w.heap.size) 98 i0 (.agg #[.slice none 0 0,.slice none 0 0]) 2 48 Tryz.underlying80 hi0 hz0 hz1 hz2 rfl (by decide) _ _ _ rfl (hlocs) ⟨gB,0,none⟩ 1 1 [.slice A1 (nw (havN C Ns s)) c1,.slice A2 (nw s) c2] rfl rfl (HNW.out) (by simp [Value.oneCell']) (by unfold maxLen;omega) (by omega) (by first | omega | (simp;omega)) ?_;intro v' w3 hown' hgrow _)
  obtain ⟨hK,hkw⟩:=OwnK.push (HSE.out.below r2) hlocs hgrow hown' (by have:=HTL.out;omega) s12 s22
  have hu6:=k62.grown hgrow (own_ne hlocs k62 (by decide))
  have hu7:=k72.grown hgrow (own_ne hlocs k72 (by decide))
  have b3:=b2'.grown hgrow hsz (fun q hq=>(hlocs.lt q hq).1)
  have sa3:=(sa.below r2).keep hkw
  obtain ⟨A9,c9,rfl⟩:=hK.val_ (n:=k+1) (by rw [List.length_append,HTL.out];rfl)
  rw [← HTK.out] at hK
  have r3:=r2.size
  clear hown hown0 hown' hlocs HNW sa hgrow hB s1 s2 s12 s22 k61 k62 k71 k72 hb1 hb2 r1 r2 b2' HSE c60 c61 c7 k6 k7
  refine m_keep ⟨hu6.cell 0,hu6.cell 1,hu7.cell 0⟩ ?_
  (refine m_q 10 (v:=?_) (by kernel_rfl) rfl rfl (fun W hW=>?_) ?_;rotate_left;(go_simp;first | done | with_reducible rfl);simp only [pt1,pt3,pt4,pt5]);(refine m_q 11 (v:=?_) (by kernel_rfl) rfl rfl (fun W hW=>?_) ?_;rotate_left;(go_simp;first | done | with_reducible rfl);simp only [pt1,pt3,pt4,pt5])
  have f6:=hu6.frozen 1
  have l6:=hu6.lt
  have d6:=hu6.cell 1
  refine m_s1 12 (by kernel_rfl) rfl ?_
  go_wp2_with fail
  have hv6:=hu6.set_ 1 (.slice A9 (k+1) c9)
  have hv7:=hu7.far (p:=⟨g,1,none⟩) (by simp;omega) (.slice A9 (k+1) c9)
  have hvK:=hK.put hu6 (by decide) (by decide) 1 (.slice A9 (k+1) c9)
  have hvs:=sa3.put hu6 (by decide) 1 (.slice A9 (k+1) c9)
  have hvb:=b3.setCell (p:=⟨g,1,none⟩) hgw (.slice A9 (k+1) c9)
  obtain ⟨u4,hu4⟩:∃ V,V=w3.setCell ⟨g,1,none⟩ (.slice A9 (k+1) c9):=⟨_,rfl⟩
  rw [← hu4] at hv6 hv7 hvK hvs hvb ⊢
  clear hu4 hu6 hu7 hK sa3 b3 f6 l6 d6 hkw
  refine m_clear (by kernel_rfl) ?_
  refine m_end (by kernel_rfl) ?_
  have c7:=hv7.cell 0
  go_wp2_with fail
  refine (next_any p C Ns _ s u4 (h.below hvb) hvs (hT.below hvb) HLS.out).mono ?_
  rintro e u5 ⟨A5,n5,c5,rfl,hset5,hb5⟩
  have hw6:=hv6.below hb5 hv6.lt
  have hw7:=hv7.below hb5 hv7.lt
  have hwK:=hvK.below hb5
  have hwb:=hvb.trans (hb5.mono hvb.size)
  have f7:=hw7.frozen 0
  have d7:=hw7.cell 0
  have hok:(nextTo C Ns s C).isSome=decide (k+1 < L.length):=by
   rw [HNX.out]
   by_cases hk1:k+1 < L.length
   ·rw [List.getElem?_eq_getElem hk1,decide_eq_true hk1];rfl
   ·rw [List.getElem?_eq_none (by omega),decide_eq_false hk1];rfl
  rw [hok]
  rw [HNX.out] at hset5
  obtain ⟨ok,hoke⟩:∃ b,b=decide (k+1 < L.length):=⟨_,rfl⟩
  rw [← hoke]
  have HOK:=Lib.hid hoke
  clear hok hoke hv6 hv7 hvK hvs hvb hb5
  go_wp2_with fail
  exact ⟨(k+1,ok,A5,n5,c5,_),rfl,⟨by first | rfl | trivial,by show k+1≤L.length;omega,HOK.out,hwb.setCell (p:=⟨ga,0,none⟩) (show w.heap.size≤ga by omega) _,hw6.far (p:=⟨ga,0,none⟩) (by simp;omega) _,hwK.put hw7 (by decide) (by decide) 0 _,hw7.set_ 0 _,fun s' hs'=>(hset5 s' hs').put hw7 (by decide) 0 _⟩,by show L.length-(k+1) < L.length-k;omega⟩
 ·obtain rfl:k=L.length:=by omega
  obtain rfl:ok=false:=by rw [hok];exact decide_eq_false hlt
  rw [List.take_length] at hown
  clear hset hok
  go_wp2_with fail
  go_ret2
  exact ⟨g,rfl,⟨vl,k6,hown⟩,hb⟩
theorem lat_len (g base p C:Nat) (Ns L:List Nat) (w:World) (h:IsLat w g base p C Ns L) :
  Calls Tryz.prog 75 #[ptr g] w fun e w'=>e=.returned (.int .i64 L.length)∧w=w':=by
 obtain ⟨v,hB,hK⟩:=h
 obtain ⟨A,c,rfl⟩:=hK.val
 have c1:=hB.cell 1
 go_enter Tryz.func75,Tryz.ntmps75
 go_wp2_with fail
 go_ret
 exact ⟨rfl,rfl⟩
theorem lat_in (g base p C:Nat) (Ns L:List Nat) (k:Nat) (w:World) (h:IsLat w g base p C Ns L) (hk:k < L.length) :
  Calls Tryz.prog 129 #[ptr g,.int .i64 k] w fun e w'=>e=.returned (.bool true)∧w=w':=by
 have HL:=hideC (lat_len g base p C Ns L w h)
 have hk0:((k:Int) < (L.length:Int)):=by omega
 go_enter Tryz.func129,Tryz.ntmps129
 go_wp2_with fail
 refine HL.out.mono ?_
 rintro e w' ⟨rfl,rfl⟩
 go_wp2_with fail
 go_ret
 exact ⟨rfl,rfl⟩
theorem lat_at (g base p C:Nat) (Ns L:List Nat) (k s:Nat) (w:World) (h:IsLat w g base p C Ns L) (hk:L[k]?=some s) (hl:L.length≤1000000) :
  Calls Tryz.prog 76 #[ptr g,.int .i64 k] w fun e w'=>∃ A1 c1 A2 c2,e=.returned (.tuple #[.agg #[.slice A1 (nw (havN C Ns s)) c1,.slice A2 (nw s) c2],.bool true]) ∧
   IsSet w' (.slice A1 (nw (havN C Ns s)) c1) (havN C Ns s)∧IsSet w' (.slice A2 (nw s) c2) s∧Below w.heap.size w w':=by
 have hkl:=(List.getElem?_eq_some_iff.1 hk).1
 have HI:=Lib.hid (fun W (hW:IsLat W g base p C Ns L)=>lat_in g base p C Ns L k W hW hkl)
 obtain ⟨v,hB,hK⟩:=id h
 obtain ⟨A,c,rfl⟩:=hK.val
 obtain ⟨gr,off,A1,c1,A2,c2,rfl,hgr,d0,d1,s1,s2⟩:=(hK.isK hl).at hk
 obtain ⟨X,hX⟩:∃ X,X=havN C Ns s:=⟨_,rfl⟩
 rw [← hX] at d0 s1 ⊢
 clear hX hk
 go_enter Tryz.func76,Tryz.ntmps76
 go_wp2_with fail
 refine absC1 fun W0 h4 hb hz=>?_
 clear hz
 have hB0:=hB.below hb hB.lt
 have e1:=hB0.cell 1
 have e0:=onB hb d0
 have e2:=onB hb d1
 have c4:=h4.cell 0
 have c41:=h4.cell 1
 have f4:=h4.frozen 0
 have f41:=h4.frozen 1
 have l4:=h4.lt
 obtain ⟨g4,hg4⟩:∃ x,x=w.heap.size:=⟨_,rfl⟩
 have hg4w:w.heap.size≤g4:=by omega
 rw [← hg4] at h4 c4 c41 f4 f41 l4 ⊢
 clear hg4
 refine (HI.out W0 ⟨_,hB0,hK.below hb⟩).mono ?_
 rintro e w' ⟨rfl,rfl⟩
 go_wp2_with fail
 have hf:=(h4.set_ 0 (.slice A1 (nw X) c1)).set_ 1 (.slice A2 (nw s) c2)
 have cX:=hf.cell 0
 have cY:=hf.cell 1
 have k1:KeepW w ((W0.setCell ⟨g4,0,none⟩ (.slice A1 (nw X) c1)).setCell ⟨g4,1,none⟩ (.slice A2 (nw s) c2)):=(KeepW.of_below hb).trans ((KeepW.setCell (p:=⟨g4,0,none⟩) h4 (by decide) _).trans (KeepW.setCell (p:=⟨g4,1,none⟩) (h4.set_ 0 _) (by decide) _))
 refine bodyPost_ret (v:=.tuple #[.agg #[.slice A1 (nw X) c1,.slice A2 (nw s) c2],.bool true]) (by simp [results,Tryz.results76,go_sem,cX,cY]) rfl ⟨_,_,_,_,rfl,s1.keep k1,s2.keep k1,(hb.setCell (p:=⟨g4,0,none⟩) hg4w _).setCell (p:=⟨g4,1,none⟩) hg4w _⟩
theorem concepts_any (p C:Nat) (Ns:List Nat) (most:Int) (w:World) (h:IsMat w p C Ns) (hT:Tab w) (hC:C≤12) (hm:((closL C Ns).length:Int)≤most) :
  Calls Tryz.prog 28 #[ptr p,.int .i64 most] w fun e w'=>∃ v,e=pair v 0∧OwnK w' w.heap.size v C Ns (allL C Ns)∧Below w.heap.size w w':=by
 obtain ⟨i0,hi0,hz0,hz1,hz2⟩:=info_parts info_con
 have hll:=closL_len C Ns
 have hp12:2 ^ C≤2 ^ 12:=Nat.pow_le_pow_right (by omega) hC
 have hall:=closL_all C Ns
 have HN:=hideC (new_lat p C Ns most w h hT hC hm)
 obtain ⟨L,hL⟩:∃ L,L=closL C Ns:=⟨_,rfl⟩
 obtain ⟨K,hK⟩:∃ K,K=allL C Ns:=⟨_,rfl⟩
 rw [← hL,← hK] at hall
 rw [← hL] at HN hll
 rw [← hK]
 have hLL:L.length≤4096:=by omega
 have HA:=Lib.hid hall
 clear hL hK hll hp12 hall
 go_enter Tryz.func28,Tryz.ntmps28
 go_wp2_with fail
 refine HN.out.mono ?_
 rintro e W0 ⟨g,rfl,hlat,hb0⟩
 go_wp2_with fail
 refine (lat_len g _ p C Ns L W0 hlat).mono ?_
 rintro e w' ⟨rfl,rfl⟩
 go_wp2_with fail
 refine wp_loopF (β:=Nat×Value) (fun x f=>#[ptr p,.int .i64 most,f 2,f 3,.slice none 0 0,.int .i64 0,ptr g,.int .i64 0,x.2,f 9,f 10,f 11,f 12,f 13,f 14,f 15,f 16,f 17,f 18,f 19,f 20,f 21,.int .i64 (L.length:Int),.int .i64 (x.1:Int),f 24,f 25,f 26,f 27,f 28,f 29,f 30,f 31,f 32,f 33,f 34,f 35,f 36,f 37,f 38,f 39,f 40,f 41,f 42,f 43,f 44,f 45,f 46,f 47,f 48,f 49,f 50])
  (fun x ds W=>ds=[]∧x.1≤L.length∧Below W0.heap.size W0 W∧OwnK W W0.heap.size x.2 C Ns ((L.take x.1).filter fun s=>!decide (havN C Ns s=0)&&!decide (s=0))) (fun x=>L.length-x.1) (0,.slice none 0 0) rfl
  ⟨rfl,Nat.zero_le _,Below.refl _ _,by rw [List.take_zero];exact OwnK.nil _ _ _ _⟩ ?_
 rintro ⟨k,v8⟩ f ds W ⟨rfl,hk,hb,hown⟩
 dsimp only at hk hown ⊢
 have hlt8:IsLat W g w.heap.size p C Ns L:=by obtain ⟨v,hB,hK0⟩:=hlat;exact ⟨v,hB.below hb hB.lt,hK0.below hb⟩
 by_cases hlt:k < L.length
 ·obtain ⟨s,hs⟩:∃ s,L[k]?=some s:=⟨_,List.getElem?_eq_getElem hlt⟩
  have htk:L.take (k+1)=L.take k ++ [s]:=by rw [List.take_add_one,hs];rfl
  have hfl:=filter_snoc (fun s=>!decide (havN C Ns s=0)&&!decide (s=0)) (L.take k) s
  rw [← htk] at hfl
  have hfk:((L.take k).filter fun s=>!decide (havN C Ns s=0)&&!decide (s=0)).length≤4096:=Nat.le_trans (List.length_filter_le _ _) (by rw [List.length_take];omega)
  have HAT:=hideC (lat_at g _ p C Ns L k s W hlt8 hs (by omega))
  obtain ⟨X,hX⟩:∃ X,X=havN C Ns s:=⟨_,rfl⟩
  rw [← hX] at hfl HAT
  obtain ⟨M,hM⟩:∃ M,M=(L.take k).filter fun s=>!decide (havN C Ns s=0)&&!decide (s=0):=⟨_,rfl⟩
  rw [← hM] at hfl hown hfk
  have HFL:=Lib.hid hfl;have HX:=Lib.hid hX
  clear hfl hM htk hs hX
  go_wp2_with fail
  refine HAT.out.mono ?_
  rintro e W1 ⟨A1,c1,A2,c2,rfl,s1,s2,hb1⟩
  clear HAT
  go_upto_region 9 with fail
  refine abs1 fun W2 h10 hb2 hz=>?_
  clear hz
  have hb12:=hb1.trans (hb2.mono hb1.size)
  have b2:=hb.trans (hb12.mono hb.size)
  have s12:=s1.below hb2
  have s22:=s2.below hb2
  have own2:=hown.below hb12
  obtain ⟨g10,hg10⟩:∃ x,x=W1.heap.size:=⟨_,rfl⟩
  rw [← hg10] at h10 ⊢
  clear hg10 hlt8 hown s1 s2 hb1 hb2 hb12 hb
  have c0:=h10.cell 0
  have c1':=h10.cell 1
  have e1:=empty_any _ X W2 s12
  by_cases hX0:X=0
  ·rw [decide_eq_true hX0] at e1
   have hf:=HFL.out
   rw [if_neg (by simp [hX0])] at hf
   have HF:=Lib.hid hf
   have HE:=hideC e1
   clear hX0 hf HFL e1
   go_wp2_with fail
   refine HE.out.mono ?_
   rintro e W3 ⟨rfl,hb1⟩
   have b3:=b2.trans (hb1.mono b2.size)
   go_wp2_with fail
   exact ⟨(k+1,v8),rfl,⟨by first | rfl | trivial,by show k+1≤L.length;omega,b3,by dsimp only;rw [HF.out];exact own2.below hb1⟩,by show L.length-(k+1) < L.length-k;omega⟩
  ·rw [decide_eq_false hX0] at e1
   have HE:=hideC e1
   have HX0:=Lib.hid hX0
   clear e1 hX0
   go_wp2_with fail
   refine HE.out.mono ?_
   rintro e W3 ⟨rfl,hb1⟩
   have b3:=b2.trans (hb1.mono b2.size)
   have own3:=own2.below hb1
   have h103:=h10.below hb1 h10.lt
   have s13:=s12.below hb1
   have s23:=s22.below hb1
   clear own2 h10 s12 s22 hb1 c0 c1' b2 HE
   have c0:=h103.cell 0
   have c1':=h103.cell 1
   have e1:=empty_any _ s W3 s23
   by_cases hs0:s=0
   ·rw [decide_eq_true hs0] at e1
    have hf:=HFL.out
    rw [if_neg (by simp [hs0])] at hf
    have HF:=Lib.hid hf
    have HE:=hideC e1
    clear hs0 hf HFL e1
    go_wp2_with fail
    refine HE.out.mono ?_
    rintro e W4 ⟨rfl,hb1⟩
    have b4:=b3.trans (hb1.mono b3.size)
    go_wp2_with fail
    exact ⟨(k+1,v8),rfl,⟨by first | rfl | trivial,by show k+1≤L.length;omega,b4,by dsimp only;rw [HF.out];exact own3.below hb1⟩,by show L.length-(k+1) < L.length-k;omega⟩
   ·rw [decide_eq_false hs0] at e1
    have hf:=HFL.out
    rw [if_pos (by simp [HX0.out,hs0])] at hf
    have HF:=Lib.hid hf
    have HE:=hideC e1
    clear hs0 hf HFL e1
    go_wp2_with fail
    refine HE.out.mono ?_
    rintro e W4 ⟨rfl,hb1⟩
    have b4:=b3.trans (hb1.mono b3.size)
    have own4:=own3.below hb1
    have h104:=h103.below hb1 h103.lt
    have s14:=s13.below hb1
    have s24:=s23.below hb1
    clear own3 h103 s13 s23 c0 c1' hb1 b3 HE
    have c0:=h104.cell 0
    have c1':=h104.cell 1
    obtain ⟨vs,hown0,hsets⟩:=own4
    obtain ⟨A8,c8,rfl,-⟩:=RowN.of_own hown0
    have hba:Below W4.heap.size W4 (W4.alloc (.cells #[.slice A1 (nw X) c1,.slice A2 (nw s) c2] 98)):=(Below.refl _ _).alloc (Nat.le_refl _) _
    have hlocs:=own_below hown0 hba
    have s15:=s14.below hba
    have s25:=s24.below hba
    have b5:=b4.trans (hba.mono b4.size)
    have hsets5:=hsets.below hba
    have hsz:=b4.size
    have HS:=Lib.hid hsets5
    clear hsets hown0 s14 s24 hsets5 hba
    go_wp2_with (at_builtin;refine wpList_append_own _ rfl _ _ 80 rfl (W0.heap.size) 98 i0 (.agg #[.slice none 0 0,.slice none 0 0]) 2 48 Tryz.underlying80 hi0 hz0 hz1 hz2 rfl (by decide) _ _ _ rfl (hlocs) ⟨W4.heap.size,0,none⟩ 1 1 [.slice A1 (nw X) c1,.slice A2 (nw s) c2] rfl rfl (World.news_of_block (Blk.new _ _ _)) (by simp [Value.oneCell']) (by unfold maxLen;omega) (by omega) (by first | omega | (simp;omega)) ?_;intro v' w3 hown' hgrow _)
    obtain ⟨hK,hkw⟩:=OwnK.push (s:=s) HS.out hlocs hgrow hown' rfl (by rw [← HX.out];exact s15) s25
    have b6:=b5.grown hgrow b5.size (fun q hq=>(hlocs.lt q hq).1)
    exact ⟨(k+1,v'),rfl,⟨by first | rfl | trivial,by show k+1≤L.length;omega,b6,by dsimp only;rw [HF.out];exact hK⟩,by show L.length-(k+1) < L.length-k;omega⟩
 ·obtain rfl:k=L.length:=by omega
  rw [List.take_length,HA.out] at hown
  obtain ⟨A8,c8,rfl⟩:=hown.val
  go_wp2_with fail
  go_ret2
  exact ⟨_,rfl,hown.low hb0.size,hb0.trans (hb.mono hb0.size)⟩
end Mix2
end Go.Proofs.YtafpmkdlciioaaaGreatDoor
