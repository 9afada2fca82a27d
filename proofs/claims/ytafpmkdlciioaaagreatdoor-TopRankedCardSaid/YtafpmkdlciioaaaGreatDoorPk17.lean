import Derived.Test.YtafpmkdlciioaaaGreatDoorPk16
import Derived.Lib.SliceRun
import Derived.Deep.RegionLaw
import Derived.Test.YtafpmkdlciioaaaGreatDoorPk03
import Derived.Test.YtafpmkdlciioaaaGreatDoorPk05
import Derived.Deep.DeepCutAuto
import Derived.Deep.CutBlock
import Derived.Test.YtafpmkdlciioaaaGreatDoorPk15
import Derived.Test.YtafpmkdlciioaaaGreatDoorPk08
set_option maxHeartbeats 16000000
set_option maxRecDepth 100000
namespace Go.Proofs.YtafpmkdlciioaaaGreatDoor
open Go.RowKit
theorem cloneQ_any (base:Nat) (v:Value) (L:List (Nat×Nat)) (w:World) (h:OwnQ w base v L) (h0:0 < L.length) (hl:L.length≤4096) :
  Calls Tryz.prog 45 #[v] w fun e w'=>∃ g' c',e=.returned (.slice (some ⟨g',0,none⟩) L.length c')∧OwnQ w' w.heap.size (.slice (some ⟨g',0,none⟩) L.length c') L∧Below w.heap.size w w':=by
 obtain ⟨i0,hi0,hz0,hz1,hz2⟩:=info_parts info_con
 obtain ⟨A,c,vs,rfl,hr,hs,_,_⟩:=h.isQ (by omega)
 have hvl:vs.length=L.length*2:=by rw [hs.1,flatQ_len]
 obtain ⟨g,off,rfl,hg,hc⟩:=hr (by omega)
 have hadd:∀ (j:Nat) u,vs[j]?=some u→(w.alloc (.cells #[] 98)).cell? ((⟨g,off,none⟩:Addr).add j)=some u:=fun j u hu=>by
  rw [addr_add]
  exact (World.cell?_alloc_lt _ _ _ hg).trans (hc j u hu)
 have hone:∀ u∈vs,u.oneCell'=true:=fun u hu=>by
  obtain ⟨j,hj⟩:=List.getElem?_of_mem hu
  have hlt:j < (flatQ L).length:=by rw [← hs.1];exact (List.getElem?_eq_some_iff.1 hj).1
  obtain ⟨A,d,e,_⟩:=hs.at_ hlt
  rw [hj] at e
  cases e;rfl
 have HADD:=Lib.hid hadd;have HONE:=Lib.hid hone;have HLEN:=Lib.hid hvl;have HS:=Lib.hid hs
 clear hadd hc hone hvl hr hs h
 have own0:=World.ownsRow_lit (base:=w.heap.size) (e:=98) (size:=2) w #[] 0 (Nat.le_refl _) (by decide) rfl
 have hb0:=(Below.refl w.heap.size w).alloc (Nat.le_refl _) (.cells #[] 98)
 have hnil:=fun W=>run_eql_some_nil (P:=Tryz.prog) Tryz.underlying80 ⟨g,off,none⟩ L.length c W
 go_enter Tryz.func45,Tryz.ntmps45
 go_wp2_with (at_builtin;refine wpList_append_own _ rfl _ _ 80 rfl w.heap.size 98 i0 (.agg #[.slice none 0 0,.slice none 0 0]) 2 48 Tryz.underlying80 hi0 hz0 hz1 hz2 rfl (by decide) _ _ _ rfl own0 ⟨g,off,none⟩ L.length c vs rfl HLEN.out HADD.out HONE.out (by unfold maxLen;omega) (by omega) (by simp) ?_;intro v' w3 hown' hgrow _)
 have hbe3:=hb0.grown hgrow (by simp) (fun q hq=>(own0.lt q hq).1)
 rw [Nat.zero_add,List.nil_append] at hown'
 obtain ⟨g5,cap5,rfl⟩:=own_succP (n:=L.length-1) (by rw [show L.length-1+1=L.length by omega];exact hown')
 have hel:L.length-1+1=L.length:=by omega
 rw [hel] at hown' ⊢
 go_ret
 exact ⟨g5,cap5,rfl,⟨vs,hown',HS.out.below hbe3⟩,hbe3⟩
theorem clear_q (w:World) (ty:TypeId) (b o c:Nat) (hv:∀ w,(zeroValue 98).run Tryz.prog w=.ok (.agg #[.slice none 0 0,.slice none 0 0]) w)
  (hc:∀ j,j < 2→(w.cell? ⟨b,o+j,none⟩).isSome=true) (hf:∀ j,j < 2→w.frozen? ⟨b,o+j,none⟩=false) :
  (Builtin.clear_ #[80] ty #[.slice (some ⟨b,o,none⟩) 1 c]).run Tryz.prog w=.ok (.tuple #[]) (w.setCells b o [.slice none 0 0,.slice none 0 0]):=by
 have hzc:(Builtin.zeroCells (Value.agg #[.slice none 0 0,.slice none 0 0]).cells 1).toList=[.slice none 0 0,.slice none 0 0]:=by
  simp [Builtin.zeroCells,Value.cells]
  rfl
 have hst:=run_storeCells_cells (P:=Tryz.prog) b o [.slice none 0 0,.slice none 0 0] 0 w (by simpa using hc) (by simpa using hf) (by intro v hv';simp at hv';rw [hv'];rfl)
 simp only [Nat.add_zero] at hst
 simp [Builtin.clear_,run_underlying Tryz.underlying80,hv,hzc,hst]
theorem zero_of {P:Program} {t:TypeId} {i:TypeInfo} {z:Value} (hi:P.info? t=some i) (hz:i.zero=some z) (w:World):(zeroValue t).run P w=.ok z w:=by
 simp [zeroValue,typeInfo,hi,hz]
theorem zero_con (w:World):(zeroValue 98).run Tryz.prog w=.ok (.agg #[.slice none 0 0,.slice none 0 0]) w:=by
 obtain ⟨i0,hi0,hz0,_,_⟩:=info_parts info_con
 exact zero_of hi0 hz0 w
def setAll (cs:Array Value):Nat→List Value→Array Value
 | _,[]=>cs
 | o,v :: vs=>setAll (cs.setIfInBounds o v) (o+1) vs
theorem setAll_size:∀ (vs:List Value) (o:Nat) (cs:Array Value),(setAll cs o vs).size=cs.size
 | [],_,_=>rfl
 | v :: vs,o,cs=>by rw [setAll,setAll_size vs,Array.size_setIfInBounds]
theorem setAll_get:∀ (vs:List Value) (o:Nat) (cs:Array Value) (i:Nat),i < cs.size→(setAll cs o vs)[i]?=if o≤i∧i < o+vs.length then vs[i-o]? else cs[i]?
 | [],o,cs,i,h=>by rw [setAll,if_neg (by simp)]
 | v :: vs,o,cs,i,h=>by
  rw [setAll,setAll_get vs (o+1) _ i (by rw [Array.size_setIfInBounds];exact h),List.length_cons]
  by_cases h1:o+1≤i∧i < o+1+vs.length
  ·rw [if_pos h1,if_pos (by omega),show i-o=(i-(o+1))+1 by omega,List.getElem?_cons_succ]
  ·rw [if_neg h1,Array.getElem?_setIfInBounds]
   by_cases h2:o=i
   ·subst h2
    rw [if_pos rfl,if_pos h,if_pos (by omega),Nat.sub_self];rfl
   ·rw [if_neg h2,if_neg (by omega)]
theorem Blk.sets_ {g:Nat} {t:TypeId}:∀ (vs:List Value) (o:Nat) {w:World} {cs:Array Value},Blk w g t cs→Blk (w.setCells g o vs) g t (setAll cs o vs)
 | [],_,_,_,h=>h
 | v :: vs,o,_,_,h=>Blk.sets_ vs (o+1) (h.set_ o v)
theorem KeepW.sets_ {g:Nat} {t:TypeId} (ht:146≠t):∀ (vs:List Value) (o:Nat) {w:World} {cs:Array Value},Blk w g t cs→KeepW w (w.setCells g o vs)
 | [],_,w,_,_=>KeepW.refl w
 | v :: vs,o,_,_,h=>(KeepW.setCell (p:=⟨g,o,none⟩) h ht v).trans (KeepW.sets_ ht vs (o+1) (h.set_ o v))
theorem Below.sets_ {g base:Nat} (hg:base≤g):∀ (vs:List Value) (o:Nat) (w:World),Below base w (w.setCells g o vs)
 | [],_,_=>Below.refl _ _
 | v :: vs,o,w=>((Below.refl base w).setCell (p:=⟨g,o,none⟩) hg v).trans (Below.sets_ hg vs (o+1) _)
theorem flatQ_take (L:List (Nat×Nat)) (k:Nat):flatQ (L.take k)=(flatQ L).take (k*2):=by
 induction L generalizing k with
 | nil=>simp [flatQ]
 | cons s L ih =>
  cases k with
  | zero=>simp [flatQ]
  | succ k =>
   have:=ih k
   unfold flatQ at this ⊢
   rw [List.take_succ_cons,List.flatMap_cons,List.flatMap_cons,this,show (k+1)*2=k*2+1+1 by omega]
   rfl
theorem flatQ_drop (L:List (Nat×Nat)) (k:Nat):flatQ (L.drop k)=(flatQ L).drop (k*2):=by
 induction L generalizing k with
 | nil=>simp [flatQ]
 | cons s L ih =>
  cases k with
  | zero=>simp [flatQ]
  | succ k =>
   have:=ih k
   unfold flatQ at this ⊢
   rw [List.drop_succ_cons,List.flatMap_cons,this,show (k+1)*2=k*2+1+1 by omega]
   rfl
theorem flatQ_erase (L:List (Nat×Nat)) (k:Nat):flatQ (L.eraseIdx k)=(flatQ L).take (k*2) ++ (flatQ L).drop ((k+1)*2):=by
 rw [List.eraseIdx_eq_take_drop_succ,flatQ_app,flatQ_take,flatQ_drop]
theorem Sets.cut {w:World} {vs:List Value} {Ns:List Nat} (h:Sets w vs Ns) (a b:Nat):Sets w (vs.take a ++ vs.drop b) (Ns.take a ++ Ns.drop b):=by
 have hl:=h.1
 refine ⟨by simp only [List.length_append,List.length_take,List.length_drop,hl],fun k v N hv hN=>?_⟩
 rw [List.getElem?_append] at hv hN
 rw [List.length_take,hl] at hv
 rw [List.length_take] at hN
 split at hv
 ·rename_i hk
  rw [if_pos hk] at hN
  rw [List.getElem?_take] at hv hN
  have hka:k < a:=by omega
  rw [if_pos hka] at hv hN
  exact h.2 k v N hv hN
 ·rename_i hk
  rw [if_neg hk] at hN
  rw [List.getElem?_drop] at hv hN
  exact h.2 _ v N hv hN
namespace Mix2
theorem deleteQ_any (base:Nat) (v:Value) (L:List (Nat×Nat)) (k j:Nat) (w:World) (h:OwnQ w base v L) (hk:k < L.length) (hj:j=k+1) (hl:L.length≤4096) :
  Calls Tryz.prog 44 #[v,.int .i64 k,.int .i64 j] w fun e w'=>∃ v',e=.returned v'∧OwnQ w' base v' (L.eraseIdx k)∧Below base w w':=by
 obtain ⟨i0,hi0,hz0,hz1,hz2⟩:=info_parts info_con
 obtain ⟨vs,hown,hs⟩:=h
 obtain ⟨n,hn⟩:∃ n,n+1=L.length:=⟨L.length-1,by omega⟩
 have hel:(L.eraseIdx k).length=n:=by rw [List.length_eraseIdx,if_pos hk];omega
 have hfl:=flatQ_erase L k
 rw [← hn] at hown hk hl
 obtain ⟨g,c,rfl⟩:=own_succP hown
 obtain ⟨hvl,hor⟩:=hown
 obtain ⟨g',c',cur,e0,hbg,hB,hnc,hcm,hcs,htk⟩:=hor.resolve_left (by rintro ⟨h,_⟩;cases h)
 cases e0
 replace hB:Blk w g 98 cur:=hB
 obtain ⟨news,hnews⟩:∃ news,news=vs.drop (j*2):=⟨_,rfl⟩
 have hlen:news.length=(n+1-j)*2:=by rw [hnews,List.length_drop,hvl];omega
 have hcell:∀ i u,vs[i]?=some u→cur[i]?=some u:=fun i u hu=>by
  rw [← htk,List.getElem?_take] at hu
  split at hu
  ·simpa using hu
  ·cases hu
 have hget:∀ t u,news[t]?=some u→cur[j*2+t]?=some u:=fun t u hu=>by
  rw [hnews,List.getElem?_drop] at hu
  exact hcell _ _ hu
 have hone:∀ u∈news,u.oneCell'=true:=fun u hu=>by
  rw [hnews] at hu
  obtain ⟨i,hi⟩:=List.getElem?_of_mem (List.mem_of_mem_drop hu)
  have hlt:i < (flatQ L).length:=by rw [← hs.1];exact (List.getElem?_eq_some_iff.1 hi).1
  obtain ⟨A,d,e,_⟩:=hs.at_ hlt
  rw [hi] at e
  cases e;rfl
 obtain ⟨A,hA,hsrc⟩:∃ A:Addr,(if c=j then some (⟨g,0,none⟩:Addr) else some ⟨g,j*2,none⟩)=some A∧Hid (∀ t u,news[t]?=some u→w.drew.cell? (A.add t)=some u):=by
  by_cases h:c=j
  ·refine ⟨⟨g,0,none⟩,by simp [h],fun t u hu=>?_⟩
   have h0:news.length=0:=by rw [hlen];omega
   rw [List.length_eq_zero_iff.1 h0] at hu
   simp at hu
  ·refine ⟨⟨g,j*2,none⟩,by simp [h],fun t u hu=>?_⟩
   rw [addr_add]
   exact (hB.cell (j*2+t)).trans (hget t u hu)
 have s1:Hid (news.length=(n+1-j)*2):=hlen
 have s2:Hid (∀ u∈news,u.oneCell'=true):=hone
 have s3:Hid (∀ t,t < news.length→(w.drew.cell? ⟨g,0+k*2+t,none⟩).isSome=true∧w.drew.frozen? ⟨g,0+k*2+t,none⟩=false):=by
  intro t ht
  rw [hlen] at ht
  have e1:=hB.cell (0+k*2+t)
  have hlt:0+k*2+t < cur.size:=by rw [hcs];omega
  refine ⟨?_,hB.frozen _⟩
  show (w.cell? _).isSome=true
  rw [e1,Array.getElem?_eq_getElem hlt];rfl
 obtain ⟨olds,holds⟩:∃ olds,olds=vs.take (k*2):=⟨_,rfl⟩
 have holl:Hid (olds.length=k*2):=by
  show olds.length=k*2
  rw [holds,List.length_take,hvl];omega
 have hold:Hid (∀ j u,olds[j]?=some u→w.drew.cell? ⟨g,0+j,none⟩=some u):=fun i u hu=>by
  rw [holds,List.getElem?_take] at hu
  split at hu
  ·rw [Nat.zero_add]
   exact (hB.cell i).trans (hcell i u hu)
  ·cases hu
 obtain ⟨W1,hW1⟩:∃ W1,W1=w.drew.setCells g (0+k*2) news:=⟨_,rfl⟩
 have hB1:Blk W1 g 98 (setAll cur (0+k*2) news):=by rw [hW1];exact Blk.sets_ news _ (w:=w.drew) hB
 have hk1:KeepW w W1:=by rw [hW1];exact KeepW.sets_ (by decide) news _ (w:=w.drew) hB
 have hb1:Below base w W1:=by rw [hW1];exact (Below.refl base w).drew.trans (Below.sets_ hbg news _ _)
 have hsz1:(setAll cur (0+k*2) news).size=c*2:=by rw [setAll_size,hcs]
 have hcl:∀ ty cc,(Builtin.clear_ #[80] ty #[.slice (some ⟨g,n*2,none⟩) 1 cc]).run Tryz.prog W1=.ok (.tuple #[]) (W1.setCells g (n*2) [.slice none 0 0,.slice none 0 0]) :=
  fun ty cc=>clear_q W1 ty g (n*2) cc zero_con (fun i hi=>by rw [hB1.cell,Array.getElem?_eq_getElem (by rw [hsz1];omega)];rfl) (fun i hi=>hB1.frozen _)
 have hB2:=hB1.sets_ [.slice none 0 0,.slice none 0 0] (n*2)
 have hk2:=hk1.trans (KeepW.sets_ (by decide) [.slice none 0 0,.slice none 0 0] (n*2) hB1)
 have hb2:=hb1.trans (Below.sets_ hbg [.slice none 0 0,.slice none 0 0] (n*2) W1)
 have hfin:((setAll (setAll cur (0+k*2) news) (n*2) [.slice none 0 0,.slice none 0 0]).toList.take (n*2))=vs.take (k*2) ++ vs.drop ((k+1)*2):=by
  apply List.ext_getElem?
  intro i
  rw [List.getElem?_take]
  by_cases hi:i < n*2
  ·rw [if_pos hi,Array.getElem?_toList,setAll_get _ _ _ _ (by rw [hsz1];omega),if_neg (by omega),setAll_get _ _ _ _ (by rw [hcs];omega),List.getElem?_append,List.length_take,hvl]
   by_cases h2:i < k*2
   ·rw [if_neg (by omega),if_pos (by omega),List.getElem?_take,if_pos h2]
    obtain ⟨u,hu⟩:∃ u,vs[i]?=some u:=⟨_,List.getElem?_eq_getElem (by omega)⟩
    rw [hu]
    exact hcell _ _ hu
   ·rw [if_pos (by rw [hlen];omega),if_neg (by omega),hnews,List.getElem?_drop,List.getElem?_drop]
    congr 1
    omega
  ·rw [if_neg hi,List.getElem?_eq_none]
   rw [List.length_append,List.length_take,List.length_drop,hvl]
   omega
 have HB2:=Lib.hid hB2;have HK2:=Lib.hid hk2;have HBL2:=Lib.hid hb2;have HFIN:=Lib.hid hfin;have HEL:=Lib.hid hel;have HFL:=Lib.hid hfl;have HS:=Lib.hid hs;have HVL:=Lib.hid hvl;have HCS:=Lib.hid (setAll_size [.slice none 0 0,.slice none 0 0] (n*2) (setAll cur (0+k*2) news));have HSZ:=Lib.hid hsz1
 have hW:Hid (W1=w.drew.setCells g (k*2) news):=by
  show W1=_
  rw [hW1,Nat.zero_add]
 have hic:k≤c:=by omega
 have hjc:j≤c:=by omega
 have hj1:j≤n+1:=by omega
 have hji:(j:Int)≤(n:Int)+1:=by omega
 have hjn:k+(n+1-j)=n:=by omega
 have HJ:=Lib.hid hj
 have hkj:¬ k=j:=by omega
 have mixed:Tryz.prog.follows .mixedOrders=true:=by kernel_rfl
 clear hj HJ
 clear hW1 hB1 hk1 hb1 hB2 hk2 hb2 hfin hel hfl hs hvl hcs htk hget hcell hone hnews hlen hsz1 hB hn holds
 go_enter Tryz.func44,Tryz.ntmps44
 go_wp2_with fail
 refine wp_mix (fun _=>True) 8 (by kernel_rfl) (by kernel_rfl) trivial ?_
 obtain ⟨U,hU⟩:∃ U,U=w.drew:=⟨_,rfl⟩
 rw [← hU] at hsrc s3 hW hold ⊢
 clear hU
 (refine m_q 0 (v:=?_) (by kernel_rfl) rfl rfl (fun W hW=>?_) ?_;rotate_left;(go_simp;first | done | with_reducible rfl);simp only [pt1,pt3,pt4,pt5]);(refine m_q 1 (v:=?_) (by kernel_rfl) rfl rfl (fun W hW=>?_) ?_;rotate_left;(go_simp;first | done | with_reducible rfl);simp only [pt1,pt3,pt4,pt5]);(refine m_q 2 (v:=?_) (by kernel_rfl) rfl rfl (fun W hW=>?_) ?_;rotate_left;(go_simp;first | done | with_reducible rfl);simp only [pt1,pt3,pt4,pt5]);(refine m_q 3 (v:=?_) (by kernel_rfl) rfl rfl (fun W hW=>?_) ?_;rotate_left;(go_simp;first | done | with_reducible rfl);simp only [pt1,pt3,pt4,pt5]);(refine m_q 4 (v:=?_) (by kernel_rfl) rfl rfl (fun W hW=>?_) ?_;rotate_left;(go_simp;first | done | with_reducible rfl);simp only [pt1,pt3,pt4,pt5]);(refine m_q 5 (v:=?_) (by kernel_rfl) rfl rfl (fun W hW=>?_) ?_;rotate_left;(go_simp;first | done | with_reducible rfl);simp only [pt1,pt3,pt4,pt5])
 refine m_s1 6 (by kernel_rfl) rfl ?_
 go_wp2_with (at_builtin;refine wpList_append_arg U rfl _ _ 80 rfl 98 i0 (.agg #[.slice none 0 0,.slice none 0 0]) 2 48 Tryz.underlying80 hi0 hz0 hz1 hz2 rfl (by decide) g 0 k c olds rfl holl.out hold.out A (n+1-j) (c-j) news rfl s1.out hsrc.out s2.out (fun _=>s3.out) (by unfold maxLen;omega) (by omega) (fun _=>?_) (fun h=>absurd h (by omega)))
 rw [← hW.out]
 refine m_keep trivial ?_
 refine m_s1 7 (by kernel_rfl) rfl ?_
 go_wp2_with fail
 refine m_keep trivial ?_
 refine m_end (by kernel_rfl) ?_
 have hcn:¬ c=n:=by omega
 go_wp2
 go_ret
 refine ⟨.slice (some ⟨g,0,none⟩) n c,rfl,⟨vs.take (k*2) ++ vs.drop ((k+1)*2),⟨?_,.inr ⟨g,c,_,by rw [HEL.out],hbg,HB2.out,by rw [HEL.out];omega,hcm,by rw [HCS.out];exact HSZ.out,by rw [HEL.out];exact HFIN.out⟩⟩,by rw [HFL.out];exact (HS.out.cut _ _).keep HK2.out⟩,HBL2.out⟩
 rw [HEL.out,List.length_append,List.length_take,List.length_drop,HVL.out]
 omega
end Mix2
def WfQ (R C:Nat) (L:List (Nat×Nat)):Prop:=∀ s∈L,(∀ i,s.1.testBit i=true→i < R)∧∀ j,s.2.testBit j=true→j < C
def givQ (L:List (Nat×Nat)) (i j:Nat):Prop:=∃ s∈L,s.1.testBit i=true∧s.2.testBit j=true
theorem low_of {C N:Nat} (h:∀ j,N.testBit j=true→j < C):N&&&lowN C=N:=Nat.eq_of_testBit_eq fun j=>by
 rw [Nat.testBit_and,testBit_lowN]
 cases hb:N.testBit j
 ·simp
 ·simp [h j hb]
theorem of_low {C N:Nat} (h:N&&&lowN C=N):∀ j,N.testBit j=true→j < C:=fun j hj=>by
 rw [← h,Nat.testBit_and,testBit_lowN] at hj
 simp at hj
 exact hj.2
section
variable {R C:Nat} {L:List (Nat×Nat)}
theorem WfQ.rows1 (h:WfQ R C L):rowsIn R (L.map (·.1)):=fun k hk=>by
 rw [List.length_map] at hk
 rw [List.getD_eq_getElem?_getD,List.getElem?_map,List.getElem?_eq_getElem hk]
 exact low_of (h _ (List.getElem_mem hk)).1
theorem WfQ.rows2 (h:WfQ R C L):rowsIn C (L.map (·.2)):=fun k hk=>by
 rw [List.length_map] at hk
 rw [List.getD_eq_getElem?_getD,List.getElem?_map,List.getElem?_eq_getElem hk]
 exact low_of (h _ (List.getElem_mem hk)).2
theorem WfQ.erase (h:WfQ R C L) (k:Nat):WfQ R C (L.eraseIdx k):=fun s hs=>h s (List.mem_of_mem_eraseIdx hs)
theorem getQ_mem {k:Nat} (hk:k < L.length):L.getD k (0,0)∈L:=by
 rw [List.getD_eq_getElem?_getD,List.getElem?_eq_getElem hk]
 exact List.getElem_mem hk
end
theorem usersQ_bit {R:Nat} {L:List (Nat×Nat)} (hL:L.length≤4096) (i k:Nat):((mtrans R (L.map (·.1)) R).getD i 0).testBit k=true↔i < R∧k < L.length∧(L.getD k (0,0)).1.testBit i=true:=by
 rw [bit_trans (by rw [List.length_map];exact hL),List.length_map]
 constructor
 ·rintro ⟨h1,h2,h3⟩
  refine ⟨h1,h2,?_⟩
  rw [List.getD_eq_getElem?_getD,List.getElem?_map,List.getElem?_eq_getElem h2] at h3
  rw [List.getD_eq_getElem?_getD,List.getElem?_eq_getElem h2]
  exact h3
 ·rintro ⟨h1,h2,h3⟩
  refine ⟨h1,h2,?_⟩
  rw [List.getD_eq_getElem?_getD,List.getElem?_map,List.getElem?_eq_getElem h2]
  rw [List.getD_eq_getElem?_getD,List.getElem?_eq_getElem h2] at h3
  exact h3
theorem permsQ_get {L:List (Nat×Nat)} {k:Nat} (hk:k < L.length):(L.map (·.2)).getD k 0=(L.getD k (0,0)).2:=by
 rw [List.getD_eq_getElem?_getD,List.getElem?_map,List.getElem?_eq_getElem hk,List.getD_eq_getElem?_getD,List.getElem?_eq_getElem hk];rfl
theorem validN_iff {C:Nat} {Ns:List Nat} {D E:Nat} {Us Ps:List Nat}:validN C Ns D Us E Ps=true↔D=Ps.length∧E=C∧Us.length=Ns.length∧∀ i,i < Ns.length→∀ j,(∃ k,(Us.getD i 0).testBit k=true∧(Ps.getD k 0).testBit j=true)↔(Ns.getD i 0).testBit j=true:=by
 constructor
 ·intro h
  unfold validN at h
  rw [Bool.and_eq_true,decide_eq_true_eq,decide_eq_true_eq] at h
  obtain ⟨h1,h2,h3,h4,h5⟩:=h
  rw [mprod_len] at h3
  refine ⟨h1,h2,h3,fun i hi j=>?_⟩
  have q1:=h4 i (by rw [mprod_len,h3];exact hi)
  have q2:=h5 i hi
  have e:(mprod Us Ps Us.length).getD i 0=Ns.getD i 0:=by rw [← q1,Nat.and_comm];exact q2
  rw [← e,mprod_bit (by rw [h3];exact hi)]
 ·rintro ⟨h1,h2,h3,h4⟩
  exact valid_of h1 h2 h3 h4
theorem validQ_iff {C:Nat} {Ns:List Nat} {L:List (Nat×Nat)} (hL:L.length≤4096):validQ C Ns L=true↔∀ i,i < Ns.length→∀ j,givQ L i j↔(Ns.getD i 0).testBit j=true:=by
 unfold validQ
 rw [validN_iff,List.length_map,mtrans_len]
 have key:∀ i,i < Ns.length→∀ j,((∃ k,((mtrans Ns.length (L.map (·.1)) Ns.length).getD i 0).testBit k=true∧((L.map (fun s:Nat×Nat=>s.2)).getD k 0).testBit j=true)↔givQ L i j):=fun i hi j=>by
  constructor
  ·rintro ⟨k,h1,h2⟩
   obtain ⟨_,hk,h3⟩:=(usersQ_bit hL i k).1 h1
   rw [permsQ_get hk] at h2
   exact ⟨_,getQ_mem hk,h3,h2⟩
  ·rintro ⟨s,hs,h1,h2⟩
   obtain ⟨k,hk,rfl⟩:=List.mem_iff_getElem.1 hs
   have e:L.getD k (0,0)=L[k]:=by rw [List.getD_eq_getElem?_getD,List.getElem?_eq_getElem hk];rfl
   exact ⟨k,(usersQ_bit hL i k).2 ⟨hi,hk,by rw [e];exact h1⟩,by rw [permsQ_get hk,e];exact h2⟩
 constructor
 ·rintro ⟨_,_,_,h⟩ i hi j
  rw [← key i hi j]
  exact h i hi j
 ·intro h
  refine ⟨rfl,rfl,rfl,fun i hi j=>?_⟩
  rw [key i hi j]
  exact h i hi j
def clrQ (L:List (Nat×Nat)) (r i:Nat):List (Nat×Nat):=L.set r (withoutB (L.getD r (0,0)).1 (i:Nat),(L.getD r (0,0)).2)
theorem clrQ_len (L:List (Nat×Nat)) (r i:Nat):(clrQ L r i).length=L.length:=by unfold clrQ;rw [List.length_set]
theorem testBit_withoutB (N i j:Nat):(withoutB N (i:Nat)).testBit j=(N.testBit j&&decide (j≠i)):=by
 unfold withoutB
 rw [hasB_nat,Int.toNat_natCast]
 cases h:N.testBit i
 ·rw [if_neg (by simp)]
  by_cases e:j=i
  ·subst e;rw [h];rfl
  ·simp [e]
 ·rw [if_pos rfl]
  exact testBit_without h j
theorem getD_setQ (L:List (Nat×Nat)) (r k:Nat) (x:Nat×Nat):(L.set r x).getD k (0,0)=if r=k∧k < L.length then x else L.getD k (0,0):=by
 rw [List.getD_eq_getElem?_getD,List.getElem?_set,List.getD_eq_getElem?_getD]
 by_cases h:r=k
 ·subst h
  rw [if_pos rfl]
  by_cases hr:r < L.length
  ·rw [if_pos hr,if_pos ⟨rfl,hr⟩];rfl
  ·rw [if_neg hr,if_neg (fun hh=>hr hh.2),List.getElem?_eq_none (by omega)]
 ·rw [if_neg h,if_neg (fun hh=>h hh.1)]
theorem WfQ.clr {R C:Nat} {L:List (Nat×Nat)} (h:WfQ R C L) (r i:Nat):WfQ R C (clrQ L r i):=by
 by_cases hr:r < L.length
 ·intro s hs
  rcases List.mem_or_eq_of_mem_set hs with h1 | h1
  ·exact h s h1
  ·subst h1
   obtain ⟨q1,q2⟩:=h _ (getQ_mem hr)
   refine ⟨fun x hx=>?_,q2⟩
   rw [testBit_withoutB] at hx
   simp only [Bool.and_eq_true] at hx
   exact q1 x hx.1
 ·have:clrQ L r i=L:=by unfold clrQ;rw [List.set_eq_of_length_le (by omega)]
  rw [this];exact h
def simA (ok:List (Nat×Nat)→Bool):Nat→List (Nat×Nat)→List (Nat×Nat)
 | 0,L=>L
 | n+1,L=>simA ok n (if ok (L.eraseIdx n)=true then L.eraseIdx n else L)
def stepU (ok:List (Nat×Nat)→Bool) (r:Nat) (L:List (Nat×Nat)) (i:Nat):List (Nat×Nat):=if ok (clrQ L r i)=true then clrQ L r i else L
def simU (ok:List (Nat×Nat)→Bool) (L:List (Nat×Nat)) (r:Nat):List (Nat×Nat):=(mems (L.getD r (0,0)).1).foldl (stepU ok r) L
def simB (ok:List (Nat×Nat)→Bool) (L:List (Nat×Nat)) (n:Nat):List (Nat×Nat):=(List.range n).foldl (simU ok) L
def simQ (ok:List (Nat×Nat)→Bool) (L:List (Nat×Nat)):List (Nat×Nat):=simB ok (simA ok L.length L) (simA ok L.length L).length
section
variable {ok:List (Nat×Nat)→Bool}
theorem simB_succ (L:List (Nat×Nat)) (n:Nat):simB ok L (n+1)=simU ok (simB ok L n) n:=by unfold simB;rw [List.range_succ,List.foldl_append];rfl
theorem stepU_len (r:Nat) (L:List (Nat×Nat)) (i:Nat):(stepU ok r L i).length=L.length:=by
 unfold stepU;split
 ·exact clrQ_len _ _ _
 ·rfl
theorem foldU_len (r:Nat):∀ (ks:List Nat) (L:List (Nat×Nat)),(ks.foldl (stepU ok r) L).length=L.length
 | [],_=>rfl
 | k :: ks,L=>by rw [List.foldl_cons,foldU_len r ks,stepU_len]
theorem simU_len (L:List (Nat×Nat)) (r:Nat):(simU ok L r).length=L.length:=foldU_len r _ L
theorem simB_len (L:List (Nat×Nat)):∀ n,(simB ok L n).length=L.length
 | 0=>rfl
 | n+1=>by rw [simB_succ,simU_len,simB_len L n]
theorem WfQ.stepU {R C:Nat} {L:List (Nat×Nat)} (h:WfQ R C L) (r i:Nat):WfQ R C (stepU ok r L i):=by
 unfold Go.Proofs.YtafpmkdlciioaaaGreatDoor.stepU;split
 ·exact h.clr r i
 ·exact h
theorem WfQ.foldU {R C:Nat} (r:Nat):∀ (ks:List Nat) {L:List (Nat×Nat)},WfQ R C L→WfQ R C (ks.foldl (Go.Proofs.YtafpmkdlciioaaaGreatDoor.stepU ok r) L)
 | [],_,h=>h
 | k :: ks,L,h=>by rw [List.foldl_cons];exact WfQ.foldU r ks (h.stepU r k)
theorem WfQ.simU {R C:Nat} {L:List (Nat×Nat)} (h:WfQ R C L) (r:Nat):WfQ R C (simU ok L r):=WfQ.foldU r _ h
theorem WfQ.simB {R C:Nat} {L:List (Nat×Nat)} (h:WfQ R C L):∀ n,WfQ R C (simB ok L n)
 | 0=>h
 | n+1=>by rw [simB_succ];exact (h.simB n).simU n
theorem WfQ.simA {R C:Nat}:∀ (n:Nat) {L:List (Nat×Nat)},WfQ R C L→WfQ R C (simA ok n L)
 | 0,_,h=>h
 | n+1,L,h=>by
  unfold Go.Proofs.YtafpmkdlciioaaaGreatDoor.simA
  split
  ·exact WfQ.simA n (h.erase n)
  ·exact WfQ.simA n h
theorem simA_len:∀ (n:Nat) (L:List (Nat×Nat)),(simA ok n L).length≤L.length
 | 0,_=>Nat.le_refl _
 | n+1,L=>by
  unfold simA
  split
  ·exact Nat.le_trans (simA_len n _) (List.length_eraseIdx_le _ _)
  ·exact simA_len n L
theorem simQ_len (L:List (Nat×Nat)):(simQ ok L).length≤L.length:=by
 unfold simQ;rw [simB_len];exact simA_len _ _
theorem ok_foldU (r:Nat):∀ (ks:List Nat) (L:List (Nat×Nat)),ok L=true→ok (ks.foldl (stepU ok r) L)=true
 | [],_,h=>h
 | k :: ks,L,h=>by
  rw [List.foldl_cons]
  refine ok_foldU r ks _ ?_
  unfold stepU;split
  ·rename_i hh;exact hh
  ·exact h
theorem ok_simB (L:List (Nat×Nat)) (h:ok L=true):∀ n,ok (simB ok L n)=true
 | 0=>h
 | n+1=>by rw [simB_succ];exact ok_foldU n _ _ (ok_simB L h n)
theorem ok_simA:∀ (n:Nat) (L:List (Nat×Nat)),ok L=true→ok (simA ok n L)=true
 | 0,_,h=>h
 | n+1,L,h=>by
  unfold simA
  split
  ·rename_i hh;exact ok_simA n _ hh
  ·exact ok_simA n L h
theorem ok_simQ (L:List (Nat×Nat)) (h:ok L=true):ok (simQ ok L)=true:=ok_simB _ (ok_simA _ _ h) _
end
theorem givQ_get {L:List (Nat×Nat)} {i j:Nat}:givQ L i j↔∃ k,k < L.length∧(L.getD k (0,0)).1.testBit i=true∧(L.getD k (0,0)).2.testBit j=true:=by
 constructor
 ·rintro ⟨s,hs,h⟩
  obtain ⟨k,hk,rfl⟩:=List.mem_iff_getElem.1 hs
  refine ⟨k,hk,?_⟩
  rw [List.getD_eq_getElem?_getD,List.getElem?_eq_getElem hk]
  exact h
 ·rintro ⟨k,hk,h⟩
  exact ⟨_,getQ_mem hk,h⟩
section
variable {C:Nat} {Ns:List Nat}
end
section
variable {w w':World} {t:TypeId} {A:Option Addr} {xs:List Value}
end
section
variable {w w':World} {C:Nat} {hs:List Value} {M:List (List Bool)} {A:Option Addr} {c:Nat}
end
section
variable {w w':World} {base C:Nat} {v:Value} {M:List (List Bool)}
end
section
variable {w W W':World} {C c g g':Nat} {A:Option Addr} {x y x' y':Value} {M:List (List Bool)}
end
section
variable {w W W':World} {g:Nat} {u0 u1 p0 p1:Value}
end
namespace Mix2
end Mix2
section
variable {w W W':World} {g C R c0 cu cp:Nat} {A0 Au Ap:Option Addr} {L:List (Nat×Nat)}
end
namespace Mix2
end Mix2
namespace Mix2
end Mix2
end Go.Proofs.YtafpmkdlciioaaaGreatDoor
namespace Go.Proofs.YtafpmkdlciioaaaGreatDoor
open Go.RowKit
attribute [local go_sem] Oper.semAt_some
theorem flatQ_set (L:List (Nat×Nat)) (k N:Nat) (hk:k < L.length):flatQ (L.set k (N,(L.getD k (0,0)).2))=(flatQ L).set (k*2) N:=by
 induction L generalizing k with
 | nil=>simp at hk
 | cons s L ih =>
  cases k with
  | zero=>rfl
  | succ k =>
   have:=ih k (by simpa using hk)
   have e:((s :: L).getD (k+1) (0,0))=L.getD k (0,0):=rfl
   unfold flatQ at this ⊢
   rw [e,List.set_cons_succ,List.flatMap_cons,List.flatMap_cons,this,show (k+1)*2=k*2+1+1 by omega]
   simp only [List.cons_append,List.nil_append,List.set_cons_succ]
theorem OwnQ.blk {w:World} {base n c:Nat} {A:Option Addr} {L:List (Nat×Nat)} (h:OwnQ w base (.slice A n c) L) (h0:0 < L.length):∃ g cs,A=some ⟨g,0,none⟩∧base≤g∧Blk w g 98 cs:=by
 obtain ⟨vs,h1,h2⟩:=h
 rcases id h1.2 with ⟨hv,hn⟩ | ⟨g,cap,cur,hv,hg,hB,_⟩
 ·omega
 ·cases hv
  exact ⟨g,cur,rfl,hg,hB⟩
theorem OwnQ.put1 {w:World} {base g n c k N:Nat} {v:Value} {L:List (Nat×Nat)} (h:OwnQ w base (.slice (some ⟨g,0,none⟩) n c) L) (hs:IsSet w v N) (hk:k < L.length) :
  OwnQ (w.setCell ⟨g,k*2,none⟩ v) base (.slice (some ⟨g,0,none⟩) n c) (L.set k (N,(L.getD k (0,0)).2)):=by
 obtain ⟨vs,h1,h2⟩:=h
 rcases id h1.2 with ⟨hv,hn⟩ | ⟨g',cap,cur,hv,hg,hB,hc1,hc2,hsz,htk⟩
 ·omega
 ·cases hv
  have hB':Blk w g 98 cur:=hB
  have hkw:KeepW w (w.setCell ⟨g,k*2,none⟩ v):=KeepW.setCell (p:=⟨g,k*2,none⟩) hB' (by decide) v
  refine ⟨vs.set (k*2) v,⟨by rw [List.length_set,List.length_set];exact h1.1,.inr ⟨g,c,cur.setIfInBounds (k*2) v,by rw [List.length_set],hg,hB'.set_ (k*2) v,by rw [List.length_set];exact hc1,hc2,by rw [Array.size_setIfInBounds];exact hsz,?_⟩⟩,?_⟩
  ·rw [List.length_set,Array.toList_setIfInBounds,List.take_set,htk]
  ·rw [flatQ_set _ _ _ hk]
   exact (h2.keep hkw).put (hs.keep hkw)
theorem IsMO.shut {w w':World} {q C n:Nat} {Ns:List Nat} (h:IsMO w q C Ns) (k:Shut n w w'):IsMO w' q C Ns:=by
 obtain ⟨rv,vs,⟨k1,k2,k3⟩,k4,k5⟩:=h
 exact ⟨rv,vs,⟨k.2 _ _ _ _ k1,own_kc k2 ⟨k.1.size,k.2⟩,k3.keep k.keep⟩,k4,k5⟩
theorem roleQ_wf {R C D:Nat} {Us Ps:List Nat} (hU:Us.length=R) (hR:R≤4096) (hP:rowsIn C Ps):WfQ R C (roleQ D Us Ps Ps.length):=by
 intro s hs
 unfold roleQ at hs
 obtain ⟨k,hk,rfl⟩:=List.mem_map.1 hs
 rw [List.mem_range] at hk
 refine ⟨fun i hi=>?_,of_low (hP k hk)⟩
 rw [testBit_mcol _ _ _ _ (by omega)] at hi
 unfold mhas at hi
 rw [Bool.and_eq_true] at hi
 unfold insideB at hi
 have:=hi.1
 simp at this
 omega
structure SimI (w W:World) (g g6 q u p:Nat):Prop where
 b2:Blk W g 30 #[ptr q]
 b3:Blk W (g+1) 33 #[ptr u,ptr p]
 b4:Blk W (g+2) 33 #[.pointer none,.pointer none]
 b7:Blk W (g6+1) 109 #[.func (.func 43) #[] #[ptr g]]
 bel:Below w.heap.size w W
section
variable {w W W':World} {g g6 q u p:Nat}
theorem SimI.below (h:SimI w W g g6 q u p) (hb:Below W.heap.size W W'):SimI w W' g g6 q u p:=⟨h.b2.below hb h.b2.lt,h.b3.below hb h.b3.lt,h.b4.below hb h.b4.lt,h.b7.below hb h.b7.lt,h.bel.trans (hb.mono h.bel.size)⟩
theorem SimI.put {t:TypeId} {cs:Array Value} {b:Nat} (h:SimI w W g g6 q u p) (hB:Blk W b t cs) (hb:w.heap.size≤b) (h1:30≠t) (h2:33≠t) (h3:109≠t) (i:Nat) (v:Value):SimI w (W.setCell ⟨b,i,none⟩ v) g g6 q u p :=
 ⟨h.b2.far (p:=⟨b,i,none⟩) (h.b2.ne_ hB h1) v,h.b3.far (p:=⟨b,i,none⟩) (h.b3.ne_ hB h2) v,h.b4.far (p:=⟨b,i,none⟩) (h.b4.ne_ hB h2) v,h.b7.far (p:=⟨b,i,none⟩) (h.b7.ne_ hB h3) v,h.bel.setCell (p:=⟨b,i,none⟩) hb v⟩
theorem SimI.kc (h:SimI w W g g6 q u p) (hk:KeepC W W') (hb:Below w.heap.size w W'):SimI w W' g g6 q u p:=⟨h.b2.kc hk,h.b3.kc hk,h.b4.kc hk,h.b7.kc hk,hb⟩
end
theorem deleteQ_any' (base:Nat) (v:Value) (L:List (Nat×Nat)) (k:Nat) (w:World) (h:OwnQ w base v L) (hk:k < L.length) (hl:L.length≤4096) :
  Calls Tryz.prog 44 #[v,.int .i64 k,.int .i64 ((k:Int)+1)] w fun e w'=>∃ v',e=.returned v'∧OwnQ w' base v' (L.eraseIdx k)∧Below base w w':=by
 have:=Mix2.deleteQ_any base v L k (k+1) w h hk rfl hl
 rwa [show ((k+1:Nat):Int)=(k:Int)+1 by omega] at this
theorem OwnQ.at_ {w:World} {base n c k:Nat} {A:Option Addr} {L:List (Nat×Nat)} (h:OwnQ w base (.slice A n c) L) (hl:L.length≤1000000) (hk:k < L.length) :
  ∃ g A1 c1 cs,A=some ⟨g,0,none⟩∧base≤g∧Blk w g 98 cs∧w.cell? ⟨g,k*2,none⟩=some (.slice A1 (nw (L.getD k (0,0)).1) c1)∧IsSet w (.slice A1 (nw (L.getD k (0,0)).1) c1) (L.getD k (0,0)).1:=by
 obtain ⟨g,cs,rfl,hg,hB⟩:=h.blk (by omega)
 obtain ⟨A',c',e⟩:=h.val
 cases e
 have hs:L[k]?=some (L.getD k (0,0)):=by rw [List.getD_eq_getElem?_getD,List.getElem?_eq_getElem hk];rfl
 obtain ⟨g',off,A1,c1,A2,c2,e,_,h1,_,h3,_⟩:=(h.isQ hl).at hs
 cases e
 rw [Nat.zero_add] at h1
 exact ⟨g,A1,c1,cs,rfl,hg,hB,h1,h3⟩
namespace Mix2
theorem simplify_any (q u p C D:Nat) (Ns Us Ps:List Nat) (K:List (Nat×Nat)) (w:World) (hm:IsMat w q C Ns) (hu:IsMat w u D Us) (hp:IsMat w p C Ps) (hin:rowsIn D Us) (hinP:rowsIn C Ps) (hT:Tab w) (hC:C≤256) (hR:Ns.length≤256) (hPl:Ps.length≤256) (hUl:Us.length=Ns.length) (hv:validN C Ns D Us C Ps=true) (hK:K=simQ (validQ C Ns) (roleQ D Us Ps Ps.length)) :
  Calls Tryz.prog 12 #[ptr q,.agg #[ptr u,ptr p]] w fun e w'=>∃ u' p',e=.returned (.tuple #[.agg #[ptr u',ptr p'],.int .i64 0])∧IsMO w' u' K.length (mtrans Ns.length (K.map (·.1)) Ns.length)∧IsMO w' p' C (K.map (·.2))∧Below w.heap.size w w':=by
 have hwf0:=roleQ_wf (D:=D) (Us:=Us) (R:=Ns.length) hUl (by omega) hinP
 have hL0:=roleQ_len D Us Ps Ps.length
 have hVA:=fun W (hb:Below w.heap.size w W)=>valid_any q u p C D C Ns Us Ps W (hm.below hb) (hu.below hb) (hp.below hb) hin (hT.below hb)
 rw [hv] at hVA
 have HVA:=Lib.hid hVA
 have HLI:=Lib.hid (fun W (hb:Below w.heap.size w W)=>list48_any u p D C Us Ps W (hu.below hb) (hp.below hb) hPl)
 have HGO:=Lib.hid (fun g base (L:List (Nat×Nat)) v W (hb:Below w.heap.size w W) (h2:Blk W g 30 #[ptr q]) (hL:OwnQ W base v L) (hl:L.length≤256) (hwf:WfQ Ns.length C L)=>good_any g q base C Ns L v 30 W h2 (hm.below hb) hL hl hC hR hwf.rows1 hwf.rows2 (hT.below hb))
 have HRW:=Lib.hid (fun W (hb:Below w.heap.size w W)=>rows_any q C Ns W (hm.below hb))
 have HCW:=Lib.hid (fun W (hb:Below w.heap.size w W)=>cols_any q C Ns W (hm.below hb))
 have HTB:=Lib.hid (fun W (hb:Below w.heap.size w W)=>hT.below hb)
 have hpos:=hT.pos
 obtain ⟨ok,hok⟩:∃ ok,ok=validQ C Ns:=⟨_,rfl⟩
 rw [← hok] at hK HGO
 obtain ⟨L0,hL00⟩:∃ L,L=roleQ D Us Ps Ps.length:=⟨_,rfl⟩
 rw [← hL00] at hK hwf0 hL0 HLI
 obtain ⟨R,hRR⟩:∃ R,R=Ns.length:=⟨_,rfl⟩
 rw [← hRR] at hR hwf0 HRW HGO ⊢
 obtain ⟨n0,hn0⟩:∃ n,n=Ps.length:=⟨_,rfl⟩
 rw [← hn0] at hL0 hPl
 obtain ⟨KA,hKA⟩:∃ KA,KA=simA ok n0 L0:=⟨_,rfl⟩
 have hKe:K=simB ok KA KA.length:=by rw [hK];unfold simQ;rw [hL0,← hKA]
 have hwfA:WfQ R C KA:=by rw [hKA];exact hwf0.simA _
 have hlA:KA.length≤n0:=by rw [hKA,← hL0];exact simA_len _ _
 have HKA:=Lib.hid hKA;have HKE:=Lib.hid hKe;have HWFA:=Lib.hid hwfA;have HWF0:=Lib.hid hwf0
 have hL0':=hL0
 have HL0:=Lib.hid hL0'
 clear hm hu hp hin hinP hT hUl hv hK hVA hok hL00 hRR hn0 hKA hKe hwfA hwf0 hL0 hL0'
 refine (callsIn_wide (n:=9)).1 (callsIn_of_wp_marks Tryz.func12 rfl trivial (wpIn_wide.2 ?_) rfl)
 simp only [Tryz.ntmps12,List.size_toArray,List.length_cons,List.length_nil,Nat.reduceAdd,Nat.reduceSub,Array.replicate_succ,Array.replicate_zero,List.push_toArray,List.append_toArray,List.nil_append,List.cons_append]
 go_upto_region 1 with fail
 refine abs3 fun W h2 h3 h4 hb hz=>?_
 clear hz
 obtain ⟨g,hg⟩:∃ x,x=w.heap.size:=⟨_,rfl⟩
 have hgw:w.heap.size≤g:=by omega
 rw [← hg] at h2 h3 h4 ⊢
 clear hg
 have p2:=h2.cell 0
 have p3:=h3.cell 0
 have p3':=h3.cell 1
 have HV:=hideC (HVA.out W hb)
 go_wp2_with fail
 with_reducible refine HV.out.mono ?_
 rintro e W1 ⟨rfl,hb1⟩
 have b1:=hb.trans (hb1.mono hb.size)
 have k2:=h2.below hb1 h2.lt
 have k3:=h3.below hb1 h3.lt
 have k4:=h4.below hb1 h4.lt
 clear HV p2 p3 p3' h2 h3 h4 hb hb1
 have p3:=k3.cell 0
 have p3':=k3.cell 1
 have HL:=hideC (HLI.out W1 b1)
 go_wp2_with fail
 with_reducible refine HL.out.mono ?_
 rintro e W2 ⟨v0,rfl,hO0,hb2⟩
 have hO0:=hO0.low b1.size
 obtain ⟨A0,c0,hv0⟩:=hO0.val
 rw [HL0.out] at hv0
 subst hv0
 have b2:=b1.trans (hb2.mono b1.size)
 have q2:=k2.below hb2 k2.lt
 have q3:=k3.below hb2 k3.lt
 have q4:=k4.below hb2 k4.lt
 clear HL p3 p3' k2 k3 k4 hb2
 go_upto_region 7 with fail
 refine abs2 fun W3 h6 h7 hb3 hz=>?_
 clear hz
 obtain ⟨g6,hg6⟩:∃ x,x=W2.heap.size:=⟨_,rfl⟩
 have hg6w:w.heap.size≤g6:=by have:=b2.size;omega
 have hg62:g+2 < g6:=by rw [hg6];exact q4.lt
 rw [← hg6] at h6 h7 ⊢
 clear hg6
 have b3:=b2.trans (hb3.mono b2.size)
 have hI3:SimI w W3 g g6 q u p:=⟨q2.below hb3 q2.lt,q3.below hb3 q3.lt,q4.below hb3 q4.lt,h7,b3⟩
 have hO3:=hO0.below hb3
 have c6:=h6.cell 0
 clear q2 q3 q4 h7 hb3 b3 b2 b1 hO0 HVA HLI
 go_wp2_with fail
 refine wp_loopF (β:=Int×Value×List (Nat×Nat)) (fun x f=>#[f 0,f 1,ptr g,ptr (g+1),ptr (g+2),.int .i64 0,ptr g6,ptr (g6+1),.int .i64 x.1,f 9,f 10,f 11,f 12,f 13,f 14,f 15,f 16,f 17,f 18,f 19,f 20,f 21,f 22,f 23,f 24,f 25,f 26,f 27,f 28,f 29,f 30,f 31,f 32,f 33,f 34,f 35,f 36,f 37,f 38,f 39,f 40,f 41,f 42,f 43,f 44,f 45,f 46,f 47,f 48,f 49,f 50,f 51,f 52,f 53,f 54,f 55,f 56,f 57,f 58,f 59,f 60,f 61,f 62,f 63,f 64,f 65,f 66,f 67,f 68,f 69,f 70,f 71,f 72,f 73,f 74,f 75,f 76,f 77,f 78])
  (fun x ds V=>ds=[]∧(∃ n:Nat,x.1=(n:Int)-1∧n≤x.2.2.length∧simA ok n x.2.2=KA)∧Blk V g6 80 #[x.2.1]∧OwnQ V w.heap.size x.2.1 x.2.2∧WfQ R C x.2.2∧x.2.2.length≤n0∧SimI w V g g6 q u p) (fun x=>(x.1+1).toNat) ((n0:Int)-1,.slice A0 n0 c0,L0) rfl
  ⟨rfl,⟨n0,rfl,by dsimp only;rw [HL0.out];exact Nat.le_refl _,HKA.out.symm⟩,h6,hO3,HWF0.out,by dsimp only;rw [HL0.out];exact Nat.le_refl _,hI3⟩ ?_
 clear h6 hO3 hI3 c6
 rintro ⟨i,v,L⟩ f ds V ⟨rfl,⟨n,hi,hn,hsim⟩,b6,hO,hwf,hll,hI⟩
 dsimp only at hi hn hsim b6 hO hwf hll ⊢
 obtain ⟨A,c,rfl⟩:=hO.val
 have c6:=b6.cell 0
 rcases n with _ | m
 ·obtain rfl:i=-1:=by omega
  obtain rfl:KA=L:=hsim.symm
  clear hsim hi hn
  go_wp2_with fail
  refine wp_loopF (β:=Nat×Value×List (Nat×Nat)) (fun x f=>#[f 0,f 1,ptr g,ptr (g+1),ptr (g+2),.int .i64 0,ptr g6,ptr (g6+1),f 8,f 9,f 10,f 11,f 12,f 13,f 14,f 15,f 16,f 17,f 18,f 19,f 20,f 21,f 22,f 23,f 24,f 25,f 26,f 27,f 28,f 29,f 30,f 31,f 32,f 33,f 34,f 35,f 36,f 37,f 38,f 39,f 40,f 41,.int .i64 (KA.length:Int),.int .i64 (x.1:Int),f 44,f 45,f 46,f 47,f 48,f 49,f 50,f 51,f 52,f 53,f 54,f 55,f 56,f 57,f 58,f 59,f 60,f 61,f 62,f 63,f 64,f 65,f 66,f 67,f 68,f 69,f 70,f 71,f 72,f 73,f 74,f 75,f 76,f 77,f 78])
   (fun x ds V=>x.1≤KA.length∧x.2.2=simB ok KA x.1∧Blk V g6 80 #[x.2.1]∧OwnQ V w.heap.size x.2.1 x.2.2∧SimI w V g g6 q u p∧Marks w.heap.size V ds) (fun x=>KA.length-x.1) (0,.slice A KA.length c,KA) rfl
   ⟨Nat.zero_le _,rfl,b6,hO,hI,trivial⟩ ?_
  clear b6 hO hI c6
  rintro ⟨k,v,L⟩ f ds Vy ⟨hk,hLe,b6,hO,hI,hM⟩
  dsimp only at hk hLe b6 hO hI hM ⊢
  have hLl:L.length=KA.length:=by rw [hLe,simB_len]
  obtain ⟨A,c,rfl⟩:=hO.val
  rw [hLl] at b6 hO
  have hwfL:WfQ R C L:=by rw [hLe];exact HWFA.out.simB k
  by_cases hlt:k < KA.length
  ·have hst:simU ok L k=simB ok KA (k+1):=by rw [simB_succ,← hLe]
   have HST:=Lib.hid hst
   clear hst hLe
   go_upto_region 16 with fail
   refine abs1 fun V0 h10 hb0 hz=>?_
   clear hz
   obtain ⟨g10,hg10⟩:∃ x,x=Vy.heap.size:=⟨_,rfl⟩
   have hg10w:w.heap.size≤g10:=by have:=hI.bel.size;omega
   rw [← hg10] at h10 ⊢
   clear hg10
   have hI0:=hI.below hb0
   have b60:=b6.below hb0 b6.lt
   have hO0:=hO.below hb0
   have hM0:=hM.kd (KeepD.of_below hb0)
   have hkL:k < L.length:=by omega
   obtain ⟨gl,A1,c1,cs1,e,hgl,hBl,d1,s1⟩:=hO0.at_ (by omega) hkL
   cases e
   have HFO:=Lib.hid (show simU ok L k=(mems (L.getD k (0,0)).1).foldl (stepU ok k) L from rfl)
   obtain ⟨X,hX⟩:∃ X,X=(L.getD k (0,0)).1:=⟨_,rfl⟩
   rw [← hX] at d1 s1 HFO
   clear hX b6 hO hI hM hb0 hBl
   have c6:=b60.cell 0
   have c10:=h10.cell 0
   go_wp2_with fail
   refine (all_any A1 (nw X) c1 V0).mono ?_
   rintro e V5 ⟨rfl,hw5⟩
   have hY:=hw5▸Blk.new V0 58 #[.slice A1 (nw X) c1]
   have hb5:Below V0.heap.size V0 V5:=by rw [hw5];exact (Below.refl _ _).alloc (Nat.le_refl _) _
   clear hw5
   have hI5:=hI0.below hb5
   have b65:=b60.below hb5 b60.lt
   have hO5:=hO0.below hb5
   have hM5:=hM0.kd (KeepD.of_below hb5)
   have h105:=h10.below hb5 h10.lt
   have s15:=s1.below hb5
   have hT5:=HTB.out V5 hI5.bel
   obtain ⟨gy,hgy⟩:∃ x,x=V0.heap.size:=⟨_,rfl⟩
   rw [← hgy] at hY ⊢
   clear hgy hb5 hI0 b60 hO0 hM0 h10 s1 c6 c10 d1
   go_wp2_with fail
   refine wp_rangeAll (v:=.slice A1 (nw X) c1) (N:=X) (Bx:=gy) rfl (hY.cell 0) s15 hT5 rfl
    (fun pre W=>(∃ v',Blk W g6 80 #[v']∧OwnQ W w.heap.size v' (pre.foldl (stepU ok k) L))∧Blk W g10 3 #[.int .i64 (k:Int)]∧SimI w W g g6 q u p∧KeepD V5 W) (fun _ _ _=>False)
    ?hI (fun _ _ _ _ _ hs _ _=>hs) ?h0 ?a1 ?assign ?body ?done (fun _ _ _ _ _ h _=>h.elim)
   case assign =>
    intro l x W K hKa
    gi_wp2
    exact hKa
   case hI =>
    rintro s W W' row ⟨⟨v',h1,⟨vs,h2,h3⟩⟩,h4,h5,h6⟩ hg hrw
    have hk:=KeepC.of_grown hg hrw
    exact ⟨⟨v',h1.kc hk,⟨vs,own_kc h2 hk,h3.keep hk.keep⟩⟩,h4.kc hk,h5.kc hk (h5.bel.grown hg h5.bel.size fun k' e=>Nat.le_trans hI5.bel.size (hrw k' e).1),h6.grown hg hrw⟩
   case h0=>exact ⟨⟨_,b65,hO5⟩,h105,hI5,KeepD.refl _⟩
   case body =>
    rintro ll pre x W hx ⟨⟨v',h6,hO⟩,h10,hI,hKd⟩ hlen hkp
    have hl2:(pre.foldl (stepU ok k) L).length=KA.length:=by rw [foldU_len,hLl]
    have hwf2:WfQ R C (pre.foldl (stepU ok k) L):=WfQ.foldU k pre hwfL
    have hst:(pre ++ [x]).foldl (stepU ok k) L=stepU ok k (pre.foldl (stepU ok k) L) x:=by rw [List.foldl_append];rfl
    obtain ⟨L2,hL2⟩:∃ L2,L2=pre.foldl (stepU ok k) L:=⟨_,rfl⟩
    rw [← hL2] at hO hl2 hwf2 hst
    obtain ⟨A,c,rfl⟩:=hO.val
    rw [hl2] at hO h6
    have hkL2:k < L2.length:=by omega
    have HSN:=Lib.hid hst
    have c6:=h6.cell 0
    have c10:=h10.cell 0
    have hcl:=cloneQ_any w.heap.size (.slice A KA.length c) L2 W hO (by omega) (by omega)
    rw [hl2] at hcl
    have HCL:=hideC hcl
    clear hst hL2 hcl
    gi_wp2_with (refine ⟨trivial,?_⟩;gi_at_call 45;refine (CallsIn.inRound ll (callsIn_wide.2 HCL.out)).mono ?_;rintro e W6 ⟨gc,cc,rfl,hO6,hb6⟩)
    obtain ⟨gc',A1',c1',cs',e,hgc,hBc,d1,s1⟩:=hO6.at_ (by omega) hkL2
    cases e
    obtain ⟨Y,hYe⟩:∃ Y,Y=(L2.getD k (0,0)).1:=⟨_,rfl⟩
    rw [← hYe] at d1 s1
    have HYE:=Lib.hid hYe
    have c106:=(h10.below hb6 h10.lt).cell 0
    have hd:Below W6.heap.size W6 W6.drew:=(Below.refl _ _).drew
    have HMI:=hideC (without_any (.slice A1' (nw Y) c1') Y (x:Nat) W6.drew (s1.below hd))
    have hws:=hI.bel.size
    clear HCL hYe c6 c10
    refine wpIn_spine (fun Vy=>Below W6.heap.size W6 Vy) [0,1,2,3,4,5,6,7] [8,9,10,11] (fun _=>trivial) (by kernel_rfl) (by kernel_rfl) (by kernel_rfl) ?_
    iterate 8 (refine wpE_op (v:=?_) rfl rfl (fun W hW=>?_) ?_;rotate_left;(have z1:=onB hW c106;have z2:=onB hW d1;go_simp;first | done | with_reducible rfl);simp only [pt1,pt3,pt4,pt5])
    refine wpE_nil ⟨fun h=>(by cases h),wpSpI_op rfl hd ?_⟩
    gi_wp2_with (refine ⟨trivial,?_⟩;gi_at_call 47;refine (CallsIn.inRound ll (callsIn_wide.2 HMI.out)).mono ?_;rintro e w7 ⟨r7,rfl,hr7,hb7⟩;obtain ⟨A7,c7,rfl,_⟩:=id hr7)
    have hb7':=hd.trans (hb7.mono hd.size)
    have hB7:=hBc.below hb7' hBc.lt
    have hO7:=(hO6.below hb7').put1 hr7 hkL2
    rw [show L2.set k (withoutB Y (x:Nat),(L2.getD k (0,0)).2)=clrQ L2 k x by rw [HYE.out];rfl] at hO7
    have hbW8:=(hb6.trans (hb7'.mono hb6.size)).setCell (p:=⟨gc,k*2,none⟩) hgc (.slice A7 (nw (withoutB Y (x:Nat))) c7)
    have hI8:=hI.below hbW8
    have HG:=hideC (HGO.out g W.heap.size (clrQ L2 k x) (.slice (some ⟨gc,0,none⟩) KA.length cc) _ hI8.bel hI8.b2 hO7 (by rw [clrQ_len];omega) (hwf2.clr k x))
    have c78:=hI8.b7.cell 0
    have d7:=onB hb7' d1
    have f7:=hB7.frozen (k*2)
    have l7:=hB7.lt
    have HO7:=Lib.hid hO7;have HB8:=Lib.hid hbW8
    clear hO7 hbW8 HMI d1 s1 hO6 hBc c106
    refine nxtI_op rfl hb7' ?_
    gi_wp2_with fail
    refine nxtI_op rfl hb7' ?_
    gi_wp2_with fail
    refine nxtI_op rfl hb7' ?_
    gi_wp2_with fail
    refine nxtI_nil ?_
    obtain ⟨bo,hbo⟩:∃ b,b=ok (clrQ L2 k x):=⟨_,rfl⟩
    rw [← hbo] at HG
    have hst:stepU ok k L2 x=if bo=true then clrQ L2 k x else L2:=by unfold stepU;rw [← hbo]
    have HST2:=Lib.hid hst
    clear hbo hst
    obtain ⟨W8,hW8⟩:∃ W8,W8=w7.setCell ⟨gc,k*2,none⟩ (.slice A7 (nw (withoutB Y (x:Nat))) c7):=⟨_,rfl⟩
    rw [← hW8] at HG c78 HO7 HB8 hI8 ⊢
    clear hW8 d7 f7 l7 hb7' hb7 hb6 hd hB7
    cases bo with
    | true =>
     have hs3:stepU ok k L2 x=clrQ L2 k x:=by have:=HST2.out;simpa using this
     have HS3:=Lib.hid hs3
     clear hs3
     gi_wp2_with (refine ⟨trivial,?_⟩;gi_at_call 43;refine (CallsIn.inRound ll (callsIn_wide.2 HG.out)).mono ?_;rintro e w9 ⟨rfl,hb9⟩;have hbW9:=HB8.out.trans (hb9.mono HB8.out.size);have h69:=h6.below hbW9 h6.lt;have c69:=h69.cell 0;have f69:=h69.frozen 0;have l69:=h69.lt)
     have hk:=(KeepW.of_below hbW9).trans (KeepW.setCell (p:=⟨g6,0,none⟩) h69 (by decide) (.slice (some ⟨gc,0,none⟩) KA.length cc))
     have hbn:=(hbW9.mono hws).setCell (p:=⟨g6,0,none⟩) hg6w (.slice (some ⟨gc,0,none⟩) KA.length cc)
     have hko:=(KeepsOthers.of_below hbW9).trans (KeepsOthers.setCell w9 ⟨g6,0,none⟩ (.slice (some ⟨gc,0,none⟩) KA.length cc))
     exact ⟨hko.from _,KpA.mk_ hk hbn hpos,⟨_,h69.set_ 0 _,by rw [HSN.out,HS3.out];exact ((HO7.out.below hb9).low hws).put h69 (by decide) (by decide) 0 _⟩,
      (h10.below hbW9 h10.lt).far (p:=⟨g6,0,none⟩) ((h10.below hbW9 h10.lt).ne_ h69 (by decide)) _,(hI.below hbW9).put h69 hg6w (by decide) (by decide) (by decide) 0 _,hKd.others hko⟩
    | false =>
     have hs3:stepU ok k L2 x=L2:=by have:=HST2.out;simpa using this
     have HS3:=Lib.hid hs3
     clear hs3
     gi_wp2_with (refine ⟨trivial,?_⟩;gi_at_call 43;refine (CallsIn.inRound ll (callsIn_wide.2 HG.out)).mono ?_;rintro e w9 ⟨rfl,hb9⟩;have hbW9:=HB8.out.trans (hb9.mono HB8.out.size);have h69:=h6.below hbW9 h6.lt;have c69:=h69.cell 0;have f69:=h69.frozen 0;have l69:=h69.lt)
     have hko:=KeepsOthers.of_below hbW9
     exact ⟨hko.from _,KpA.mk_ (KeepW.of_below hbW9) (hbW9.mono hws) hpos,⟨_,h69,by rw [HSN.out,HS3.out];exact hO.below hbW9⟩,
      h10.below hbW9 h10.lt,hI.below hbW9,hKd.others hko⟩
   case done =>
    rintro Dk W hDk ⟨⟨v',h6,hO⟩,h10,hI,hKd⟩ hKe
    have hM6:=Marks.cons hM5 hKd (by have:=hI5.bel.size;omega) hDk hKe
    rw [← HFO.out,HST.out] at hO
    go_wp2_with fail
    exact ⟨(k+1,v',simB ok KA (k+1)),rfl,⟨by show k+1≤KA.length;omega,rfl,h6,hO,hI,hM6⟩,by show KA.length-(k+1) < KA.length-k;omega⟩
  ·obtain rfl:k=KA.length:=by omega
   obtain rfl:K=L:=by rw [HKE.out,hLe]
   have hLlK:K.length=KA.length:=hLl
   go_upto_region 23 with fail
   have c6:=b6.cell 0
   have d2:=hI.b2.cell 0
   have hbI:=hI.bel
   have HKL:=Lib.hid hLlK
   have HWK:=Lib.hid hwfL
   clear hLl hLlK hwfL hLe
   refine wp_mix (fun V=>Below Vy.heap.size Vy V) 10 (by kernel_rfl) (by kernel_rfl) (Below.refl _ _).drew ?_
   have hr:=(Below.refl Vy.heap.size Vy).drew
   obtain ⟨U,hU⟩:∃ U,U=Vy.drew:=⟨_,rfl⟩
   rw [← hU] at hr ⊢
   clear hU
   have bU:=hbI.trans (hr.mono hbI.size)
   have HC:=hideC (HCW.out U bU)
   have HR:=hideC (HRW.out U bU)
   have hbq:=buildQ_any w.heap.size (.slice A KA.length c) R C K U (hO.below hr) (by rw [HKL.out];omega) hR hC HWK.out.rows1 HWK.out.rows2
   have HB:=hideC hbq
   clear hbq
   (refine m_q 0 (v:=?_) (by kernel_rfl) rfl rfl (fun W hW=>?_) ?_;rotate_left;(have y0:=onB hW d2;have y1:=onB hW c6;go_simp;first | done | with_reducible rfl);simp only [pt1,pt3,pt4,pt5]);(refine m_q 2 (v:=?_) (by kernel_rfl) rfl rfl (fun W hW=>?_) ?_;rotate_left;(have y0:=onB hW d2;have y1:=onB hW c6;go_simp;first | done | with_reducible rfl);simp only [pt1,pt3,pt4,pt5]);(refine m_q 4 (v:=?_) (by kernel_rfl) rfl rfl (fun W hW=>?_) ?_;rotate_left;(have y0:=onB hW d2;have y1:=onB hW c6;go_simp;first | done | with_reducible rfl);simp only [pt1,pt3,pt4,pt5])
   refine m_s1 1 (by kernel_rfl) rfl ?_
   go_wp2_with fail
   with_reducible refine HR.out.mono ?_
   rintro e w' ⟨rfl,rfl⟩
   go_wp2_with fail
   refine m_keep hr ?_
   refine m_s1 3 (by kernel_rfl) rfl ?_
   go_wp2_with fail
   with_reducible refine HC.out.mono ?_
   rintro e w' ⟨rfl,rfl⟩
   go_wp2_with fail
   refine m_keep hr ?_
   refine m_s1 5 (by kernel_rfl) rfl ?_
   go_wp2_with fail
   with_reducible refine HB.out.mono ?_
   rintro e U3 ⟨u3,p3,rfl,hu3,hp3,hb5⟩
   have hr3:=hr.trans (hb5.mono hr.size)
   go_wp2_with fail
   refine m_keep hr3 ?_
   (refine m_q 6 (v:=?_) (by kernel_rfl) rfl rfl (fun W hW=>?_) ?_;rotate_left;(go_simp;first | done | with_reducible rfl);simp only [pt1,pt3,pt4,pt5]);(refine m_q 7 (v:=?_) (by kernel_rfl) rfl rfl (fun W hW=>?_) ?_;rotate_left;(go_simp;first | done | with_reducible rfl);simp only [pt1,pt3,pt4,pt5])
   have hI3:=hI.below hr3
   have k4:=hI3.b4
   have x2:=(k4.set_ 0 (ptr u3)).set_ 1 (ptr p3)
   have xb:=(hI3.bel.setCell (p:=⟨g+2,0,none⟩) (by simp;omega) (ptr u3)).setCell (p:=⟨g+2,1,none⟩) (by simp;omega) (ptr p3)
   have xu:=(hu3.put (i:=0) k4 (by decide) (by decide) (by decide) (ptr u3)).put (i:=1) (k4.set_ 0 (ptr u3)) (by decide) (by decide) (by decide) (ptr p3)
   have xp:=(hp3.put (i:=0) k4 (by decide) (by decide) (by decide) (ptr u3)).put (i:=1) (k4.set_ 0 (ptr u3)) (by decide) (by decide) (by decide) (ptr p3)
   have hM3:=((hM.kd (KeepD.of_below hr3)).others (KeepsOthers.setCell U3 ⟨g+2,0,none⟩ (ptr u3))).others (KeepsOthers.setCell _ ⟨g+2,1,none⟩ (ptr p3))
   have f0:=k4.frozen 0
   have f1:=k4.frozen 1
   have c0:=k4.cell 0
   have c1:=k4.cell 1
   have l2:=k4.lt
   have X2:=Lib.hid x2;have XB:=Lib.hid xb;have XU:=Lib.hid xu;have XP:=Lib.hid xp;have XM:=Lib.hid hM3
   clear x2 xb xu xp hM3 hI3 k4 hr hr3 d2 c6 HB HC HR hb5 hu3 hp3 b6 hO hI hM
   refine m_s1 8 (by kernel_rfl) rfl ?_
   go_wp2_with fail
   refine m_clear (by kernel_rfl) ?_
   (refine m_q 9 (v:=?_) (by kernel_rfl) rfl rfl (fun W hW=>?_) ?_;rotate_left;(go_simp;first | done | with_reducible rfl);simp only [pt1,pt3,pt4,pt5])
   refine m_end (by kernel_rfl) ?_
   go_wp2_with fail
   refine leave_marks (n₀:=w.heap.size) _ _ XM.out fun W' hW'=>?_
   have d0:=Blk.cell (hW'.2 _ _ _ _ X2.out:Blk W' (g+2) 33 _) 0
   have d1:=Blk.cell (hW'.2 _ _ _ _ X2.out:Blk W' (g+2) 33 _) 1
   exact ⟨.tuple #[.agg #[ptr u3,ptr p3],.int .i64 0],by simp [results,Tryz.results12,go_sem,d0,d1],u3,p3,rfl,XU.out.shut hW',XP.out.shut hW',XB.out.trans hW'.1⟩
 ·obtain rfl:i=(m:Int):=by omega
  have HSIM:=Lib.hid hsim
  have HCL:=hideC (cloneQ_any w.heap.size (.slice A L.length c) L V hO (by omega) (by omega))
  have hmn:m < L.length:=by omega
  clear hsim hi
  go_wp2_with fail
  with_reducible refine HCL.out.mono ?_
  rintro e V1 ⟨gc,cc,rfl,hO1,hb1⟩
  have HDE:=hideC (deleteQ_any' V.heap.size (.slice (some ⟨gc,0,none⟩) L.length cc) L m V1 hO1 hmn (by omega))
  clear HCL
  go_wp2_with fail
  with_reducible refine HDE.out.mono ?_
  rintro e V2 ⟨v2,rfl,hO2,hb2⟩
  have hbV:=hb1.trans hb2
  have hI2:=hI.below hbV
  have h62:=b6.below hbV b6.lt
  have hO2':=hO.below hbV
  have hle:(L.eraseIdx m).length≤L.length:=List.length_eraseIdx_le _ _
  have hln:m≤(L.eraseIdx m).length:=by rw [List.length_eraseIdx,if_pos hmn];omega
  have hwf2:=hwf.erase m
  have HG:=hideC (HGO.out g V.heap.size (L.eraseIdx m) v2 V2 hI2.bel hI2.b2 hO2 (by omega) hwf2)
  have c7:=hI2.b7.cell 0
  have hOl:=hO2.low hI.bel.size
  have hs1:simA ok (m+1) L=simA ok m (if ok (L.eraseIdx m)=true then L.eraseIdx m else L):=rfl
  have hsim:=HSIM.out
  rw [hs1] at hsim
  obtain ⟨L2,hL2⟩:∃ L2,L2=L.eraseIdx m:=⟨_,rfl⟩
  rw [← hL2] at HG hle hln hwf2 hsim hOl hO2
  obtain ⟨bo,hbo⟩:∃ b,b=ok L2:=⟨_,rfl⟩
  rw [← hbo] at HG hsim
  obtain ⟨A2,c2,rfl⟩:=hO2.val
  clear HDE hs1 hL2 hbo HSIM hb1 hb2 hO1 c6 b6 hI hO hO2
  go_wp2_with fail
  with_reducible refine HG.out.mono ?_
  rintro e V3 ⟨rfl,hb3⟩
  have hI3:=hI2.below hb3
  have h63:=h62.below hb3 h62.lt
  have hOn0:=hOl.below hb3
  have hOo0:=hO2'.below hb3
  clear HG hI2 h62 hOl hO2' hbV hb3 c7
  cases bo with
  | true =>
   rw [if_pos rfl] at hsim
   have c6:=h63.cell 0
   have f6:=h63.frozen 0
   have l6:=h63.lt
   have hOn:=hOn0.put h63 (by decide) (by decide) 0 (.slice A2 L2.length c2)
   have hIn:=hI3.put h63 hg6w (by decide) (by decide) (by decide) 0 (.slice A2 L2.length c2)
   have h6n:=h63.set_ 0 (.slice A2 L2.length c2)
   have HON:=Lib.hid hOn;have HIN:=Lib.hid hIn;have H6N:=Lib.hid h6n;have HSI:=Lib.hid hsim
   clear hOn hIn h6n hsim hOn0 hOo0 hI3 h63
   go_wp2_with fail
   exact ⟨((m:Int)-1,.slice A2 L2.length c2,L2),rfl,⟨by first | rfl | trivial,⟨m,rfl,hln,HSI.out⟩,H6N.out,HON.out,hwf2,by dsimp only;omega,HIN.out⟩,by show ((m:Int)-1+1).toNat < ((m:Int)+1).toNat;omega⟩
  | false =>
   rw [if_neg (by simp)] at hsim
   have HSI:=Lib.hid hsim
   clear hsim
   go_wp2_with fail
   exact ⟨((m:Int)-1,.slice A L.length c,L),rfl,⟨by first | rfl | trivial,⟨m,rfl,by dsimp only;omega,HSI.out⟩,h63,hOo0,hwf,by dsimp only;omega,hI3⟩,by show ((m:Int)-1+1).toNat < ((m:Int)+1).toNat;omega⟩
end Mix2
end Go.Proofs.YtafpmkdlciioaaaGreatDoor
namespace Go.Proofs.YtafpmkdlciioaaaGreatDoor
open Go.RowKit
theorem valid_role {C D:Nat} {Ns Us Ps:List Nat} (hP:Ps.length≤4096) (hin:rowsIn D Us) (h:validN C Ns D Us C Ps=true) (hU4:Us.length≤4096):validQ C Ns (roleQ D Us Ps Ps.length)=true:=by
 obtain ⟨hD,_,hU,hv⟩:=validN_iff.1 h
 have hl:=roleQ_len D Us Ps Ps.length
 refine (validQ_iff (by omega)).2 fun i hi j=>?_
 rw [← hv i hi j,givQ_get]
 have hg:∀ k,k < Ps.length→(roleQ D Us Ps Ps.length).getD k (0,0)=(mcol D Us (k:Nat),Ps.getD k 0):=fun k hk=>by
  unfold roleQ
  rw [List.getD_eq_getElem?_getD,List.getElem?_map,List.getElem?_range hk];rfl
 constructor
 ·rintro ⟨k,hk,h1,h2⟩
  rw [hl] at hk
  rw [hg k hk] at h1 h2
  refine ⟨k,?_,h2⟩
  rw [testBit_mcol _ _ _ _ hU4,mhas_in (by omega) (by omega)] at h1
  exact h1
 ·rintro ⟨k,h1,h2⟩
  have hk:k < Ps.length:=by
   rw [← hD]
   exact of_low (hin i (by omega)) k h1
  refine ⟨k,by rw [hl];exact hk,?_,by rw [hg k hk];exact h2⟩
  rw [hg k hk,testBit_mcol _ _ _ _ hU4,mhas_in (by omega) (by omega)]
  exact h1
theorem cmpN_zero {N M:Nat}:cmpN N M=0↔N=M:=by
 unfold cmpN
 by_cases h:N=M
 ·simp [h]
 ·rw [if_neg h];cases ltR N M <;> simp [h]
theorem cmpN_neg {N M:Nat}:cmpN N M < 0↔ltR N M=true:=by
 unfold cmpN
 by_cases h:N=M
 ·subst h;simp [ltR_irrefl]
 ·rw [if_neg h];cases ltR N M <;> simp
def ltQ (s t:Nat×Nat):Bool:=ltR s.2 t.2||(decide (s.2=t.2)&&ltR s.1 t.1)
def cmpQ (s t:Nat×Nat):Int:=if cmpN s.2 t.2=0 then cmpN s.1 t.1 else cmpN s.2 t.2
theorem cmpQ_zero {s t:Nat×Nat}:cmpQ s t=0↔s=t:=by
 unfold cmpQ
 by_cases h:cmpN s.2 t.2=0
 ·rw [if_pos h,cmpN_zero]
  rw [cmpN_zero] at h
  exact ⟨fun h1=>Prod.ext h1 h,fun h1=>by rw [h1]⟩
 ·rw [if_neg h]
  exact ⟨fun h1=>absurd h1 h,fun h1=>by rw [h1];exact cmpN_zero.2 rfl⟩
theorem cmpQ_neg {s t:Nat×Nat}:cmpQ s t < 0↔ltQ s t=true:=by
 unfold cmpQ ltQ
 by_cases h:cmpN s.2 t.2=0
 ·rw [if_pos h,cmpN_neg]
  rw [cmpN_zero] at h
  rw [h,ltR_irrefl,decide_eq_true rfl,Bool.false_or,Bool.true_and]
 ·rw [if_neg h,cmpN_neg]
  rw [cmpN_zero] at h
  rw [decide_eq_false h,Bool.false_and,Bool.or_false]
theorem ltQ_irrefl (s:Nat×Nat):ltQ s s=false:=by unfold ltQ;simp [ltR_irrefl]
theorem ltQ_trans {a b c:Nat×Nat} (h:ltQ a b=true) (k:ltQ b c=true):ltQ a c=true:=by
 unfold ltQ at *
 rw [Bool.or_eq_true,Bool.and_eq_true,decide_eq_true_eq] at *
 rcases h with h | ⟨h1,h2⟩
 ·rcases k with k | ⟨k1,k2⟩
  ·exact .inl (ltR_trans _ _ _ h k)
  ·rw [← k1];exact .inl h
 ·rcases k with k | ⟨k1,k2⟩
  ·rw [h1];exact .inl k
  ·exact .inr ⟨h1.trans k1,ltR_trans _ _ _ h2 k2⟩
theorem ltQ_total {a b:Nat×Nat} (hne:a≠b) (h:ltQ a b=false):ltQ b a=true:=by
 unfold ltQ at *
 rw [Bool.or_eq_false_iff] at h
 rw [Bool.or_eq_true,Bool.and_eq_true,decide_eq_true_eq]
 by_cases h2:a.2=b.2
 ·right
  have h1:a.1≠b.1:=fun h1=>hne (Prod.ext h1 h2)
  have hh:=h.2
  rw [decide_eq_true h2,Bool.true_and] at hh
  exact ⟨h2.symm,ltR_total _ _ h1 hh⟩
 ·left;exact ltR_total _ _ h2 h.1
theorem sortedQ_ext:∀ (l m:List (Nat×Nat)),l.Pairwise (fun a b=>ltQ a b=true)→m.Pairwise (fun a b=>ltQ a b=true)→(∀ x,x∈l↔x∈m)→l=m
 | [],[],_,_,_=>rfl
 | [],b :: m,_,_,h=>by have:=(h b).2 (by simp);simp at this
 | a :: l,[],_,_,h=>by have:=(h a).1 (by simp);simp at this
 | a :: l,b :: m,hl,hm,h=>by
  rw [List.pairwise_cons] at hl hm
  have hab:a=b:=by
   rcases List.mem_cons.1 ((h a).1 List.mem_cons_self) with h1 | h1
   ·exact h1
   ·rcases List.mem_cons.1 ((h b).2 List.mem_cons_self) with h2 | h2
    ·exact h2.symm
    ·have:=ltQ_trans (hl.1 b h2) (hm.1 a h1)
     rw [ltQ_irrefl] at this
     cases this
  subst hab
  rw [sortedQ_ext l m hl.2 hm.2 fun x=>?_]
  constructor
  ·intro hx
   rcases List.mem_cons.1 ((h x).1 (List.mem_cons_of_mem _ hx)) with h1 | h1
   ·subst h1
    have:=hl.1 x hx
    rw [ltQ_irrefl] at this
    cases this
   ·exact h1
  ·intro hx
   rcases List.mem_cons.1 ((h x).2 (List.mem_cons_of_mem _ hx)) with h1 | h1
   ·subst h1
    have:=hm.1 x hx
    rw [ltQ_irrefl] at this
    cases this
   ·exact h1
def nonE (s:Nat×Nat):Bool:=!(decide (s.1=0)||decide (s.2=0))
section
variable {α:Type} (f:α→Nat×Nat)
def insU (r:α):List α→List α
 | []=>[r]
 | k :: l=>if cmpQ (f r) (f k)=0 then k :: l else if cmpQ (f r) (f k) < 0 then r :: k :: l else k :: insU r l
theorem insU_mem (r:α):∀ (l:List α) (x:Nat×Nat),x∈(insU f r l).map f↔x=f r∨x∈l.map f
 | [],x=>by simp [insU]
 | k :: l,x=>by
  unfold insU
  by_cases h0:cmpQ (f r) (f k)=0
  ·rw [if_pos h0]
   have:=cmpQ_zero.1 h0
   rw [this]
   simp
  ·rw [if_neg h0]
   split
   ·simp
   ·rw [List.map_cons,List.map_cons,List.mem_cons,List.mem_cons,insU_mem r l x]
    constructor
    ·rintro (h | h | h)
     ·exact .inr (.inl h)
     ·exact .inl h
     ·exact .inr (.inr h)
    ·rintro (h | h | h)
     ·exact .inr (.inl h)
     ·exact .inl h
     ·exact .inr (.inr h)
theorem insU_sorted (r:α):∀ (l:List α),(l.map f).Pairwise (fun a b=>ltQ a b=true)→((insU f r l).map f).Pairwise (fun a b=>ltQ a b=true)
 | [],_=>by simp [insU]
 | k :: l,h=>by
  have h':=h
  rw [List.map_cons,List.pairwise_cons] at h'
  unfold insU
  by_cases h0:cmpQ (f r) (f k)=0
  ·rw [if_pos h0];exact h
  ·rw [if_neg h0]
   by_cases h1:cmpQ (f r) (f k) < 0
   ·rw [if_pos h1,List.map_cons,List.pairwise_cons]
    refine ⟨fun x hx=>?_,h⟩
    have hk:=cmpQ_neg.1 h1
    rcases List.mem_cons.1 (List.map_cons▸hx:x∈f k :: l.map f) with rfl | hx
    ·exact hk
    ·exact ltQ_trans hk (h'.1 x hx)
   ·rw [if_neg h1,List.map_cons,List.pairwise_cons]
    refine ⟨fun x hx=>?_,insU_sorted r l h'.2⟩
    rcases (insU_mem f r l x).1 hx with rfl | hx
    ·refine ltQ_total (fun e=>h0 (cmpQ_zero.2 e)) ?_
     rw [cmpQ_neg] at h1
     simpa using h1
    ·exact h'.1 x hx
theorem insU_len (r:α):∀ (l:List α),(insU f r l).length≤l.length+1
 | []=>by simp [insU]
 | k :: l=>by
  unfold insU
  split
  ·simp
  ·split
   ·simp
   ·have:=insU_len r l
    simp only [List.length_cons];omega
end
def normI (f:Nat→Nat×Nat) (n:Nat):List Nat:=(List.range n).foldl (fun out r=>if nonE (f r)=true then insU f r out else out) []
theorem normI_succ (f:Nat→Nat×Nat) (n:Nat):normI f (n+1)=if nonE (f n)=true then insU f n (normI f n) else normI f n:=by unfold normI;rw [List.range_succ,List.foldl_append];rfl
theorem normI_len (f:Nat→Nat×Nat):∀ n,(normI f n).length≤n
 | 0=>Nat.le_refl _
 | n+1=>by
  have:=normI_len f n
  rw [normI_succ];split
  ·exact Nat.le_trans (insU_len f n _) (by omega)
  ·omega
theorem normI_sorted (f:Nat→Nat×Nat):∀ n,((normI f n).map f).Pairwise (fun a b=>ltQ a b=true)
 | 0=>List.Pairwise.nil
 | n+1=>by
  rw [normI_succ];split
  ·exact insU_sorted f n _ (normI_sorted f n)
  ·exact normI_sorted f n
theorem normI_mem (f:Nat→Nat×Nat) (x:Nat×Nat):∀ n,x∈(normI f n).map f↔nonE x=true∧∃ k,k < n∧f k=x
 | 0=>by
  constructor
  ·intro h;cases h
  ·rintro ⟨_,k,hk,_⟩;omega
 | n+1=>by
  rw [normI_succ]
  have ih:=normI_mem f x n
  split
  ·rename_i hn
   rw [insU_mem,ih]
   constructor
   ·rintro (h | ⟨h1,k,hk,h2⟩)
    ·subst h;exact ⟨hn,n,by omega,rfl⟩
    ·exact ⟨h1,k,by omega,h2⟩
   ·rintro ⟨h1,k,hk,h2⟩
    by_cases e:k=n
    ·subst e;exact .inl h2.symm
    ·exact .inr ⟨h1,k,by omega,h2⟩
  ·rename_i hn
   rw [ih]
   constructor
   ·rintro ⟨h1,k,hk,h2⟩;exact ⟨h1,k,by omega,h2⟩
   ·rintro ⟨h1,k,hk,h2⟩
    refine ⟨h1,k,?_,h2⟩
    by_cases e:k=n
    ·subst e;rw [h2] at hn;exact absurd h1 hn
    ·omega
def atQ (L:List (Nat×Nat)) (k:Nat):Nat×Nat:=L.getD k (0,0)
def normL (L:List (Nat×Nat)):List (Nat×Nat):=(normI (atQ L) L.length).map (atQ L)
theorem normL_len (L:List (Nat×Nat)):(normL L).length≤L.length:=by unfold normL;rw [List.length_map];exact normI_len _ _
theorem normL_sorted (L:List (Nat×Nat)):(normL L).Pairwise (fun a b=>ltQ a b=true):=normI_sorted _ _
theorem mem_normL {L:List (Nat×Nat)} {x:Nat×Nat}:x∈normL L↔x∈L∧nonE x=true:=by
 unfold normL
 rw [normI_mem]
 constructor
 ·rintro ⟨h1,k,hk,rfl⟩;exact ⟨getQ_mem hk,h1⟩
 ·rintro ⟨h1,h2⟩
  obtain ⟨k,hk,rfl⟩:=List.mem_iff_getElem.1 h1
  exact ⟨h2,k,hk,by unfold atQ;rw [List.getD_eq_getElem?_getD,List.getElem?_eq_getElem hk];rfl⟩
theorem normL_ext {L M:List (Nat×Nat)} (hs:M.Pairwise (fun a b=>ltQ a b=true)) (hm:∀ x,x∈M↔x∈L∧nonE x=true):M=normL L :=
 sortedQ_ext M (normL L) hs (normL_sorted L) fun x=>by rw [hm,mem_normL]
theorem WfQ.normL {R C:Nat} {L:List (Nat×Nat)} (h:WfQ R C L):WfQ R C (normL L):=fun s hs=>h s (mem_normL.1 hs).1
theorem givQ_normL {L:List (Nat×Nat)} {i j:Nat}:givQ (normL L) i j↔givQ L i j:=by
 constructor
 ·rintro ⟨s,hs,h⟩;exact ⟨s,(mem_normL.1 hs).1,h⟩
 ·rintro ⟨s,hs,h1,h2⟩
  refine ⟨s,mem_normL.2 ⟨hs,?_⟩,h1,h2⟩
  unfold nonE
  have e1:¬ s.1=0:=fun e=>by rw [e] at h1;simp at h1
  have e2:¬ s.2=0:=fun e=>by rw [e] at h2;simp at h2
  rw [decide_eq_false e1,decide_eq_false e2];rfl
section
variable {C:Nat} {Ns:List Nat}
end
section
variable {R C:Nat} {Ns:List Nat} {K:List (Nat×Nat)}
end
section
variable {C:Nat} {Ns:List Nat}
theorem mem_getDG {l:List Nat} {s:Nat}:s∈l↔∃ k,k < l.length∧l.getD k 0=s:=by
 rw [List.mem_iff_getElem]
 constructor
 ·rintro ⟨k,hk,rfl⟩;exact ⟨k,hk,getD_at hk⟩
 ·rintro ⟨k,hk,rfl⟩;exact ⟨k,hk,(getD_at hk).symm⟩
theorem users_rowsG {M:List Nat} (hM:M.length≤4096):rowsIn M.length (usersN C Ns M):=by
 have:=rows_trans (C:=Ns.length) (Ns:=M.map (havN C Ns)) (by rw [List.length_map];exact hM)
 rwa [List.length_map] at this
theorem greC_len (hin:rowsIn C Ns) (hR:Ns.length≤5) (hC:C≤5):(greC C Ns).length≤25:=by
 unfold greC atL
 rw [List.length_map]
 exact Nat.le_trans (greedyK_len _ _) (cells_25 hR hC hin (under_self Ns))
theorem greC_facts (hl:Ns.length≤4096) (hin:rowsIn C Ns) (hM:(greC C Ns).length≤4096):validN C Ns (greC C Ns).length (usersN C Ns (greC C Ns)) C (greC C Ns)=true∧rowsIn C (greC C Ns):=by
 have hcl0:=allL_clo (C:=C) (Ns:=Ns)
 have hgs:=greedyK_spec (cov_allL (C:=C) hl hin) (cellsOf Ns).length (cellsOf Ns) (fun _ h=>h) (Nat.le_refl _)
 have hclo:∀ s∈greC C Ns,cloN C Ns s=s:=fun s hs=>by
  obtain ⟨k,hk,rfl⟩:=List.mem_map.1 hs
  have hlt:=hgs.1 k hk
  exact hcl0 _ (by rw [getD_at hlt];exact List.getElem_mem hlt)
 have hcov:∀ c∈cellsOf Ns,∃ s∈greC C Ns,inS C Ns s c=true:=fun c hc=>by
  obtain ⟨k,hk,h⟩:=hgs.2 c hc
  exact ⟨_,List.mem_map.2 ⟨k,hk,rfl⟩,h⟩
 obtain ⟨M,hMe⟩:∃ M,M=greC C Ns:=⟨_,rfl⟩
 rw [← hMe] at hM hclo hcov ⊢
 refine ⟨valid_of rfl rfl (by unfold usersN;rw [mtrans_len]) fun i hi j=>?_,fun k hk=>?_⟩
 ·constructor
  ·rintro ⟨k,h1,h2⟩
   obtain ⟨_,q2,q3⟩:=(users_bit hl hM i k).1 h1
   have hm:M.getD k 0∈M:=mem_getDG.2 ⟨k,q2,rfl⟩
   have hcl:=hclo _ hm
   have hjC:j < C:=by rw [← hcl] at h2;exact comN_lt h2
   exact ((testBit_havN C Ns hl _ _).1 q3).2 j h2 hjC
  ·intro h
   obtain ⟨s,hs,he⟩:=hcov (i,j) (mem_cellsOf.2 ⟨hi,h⟩)
   obtain ⟨k,hk,rfl⟩:=mem_getDG.1 hs
   unfold inS at he
   rw [Bool.and_eq_true] at he
   exact ⟨k,(users_bit hl hM i k).2 ⟨hi,hk,he.2⟩,he.1⟩
 ·refine low_of fun j hj=>?_
  have hm:M.getD k 0∈M:=mem_getDG.2 ⟨k,hk,rfl⟩
  rw [← hclo _ hm] at hj
  exact comN_lt hj
end
section
variable {C:Nat} {Ns:List Nat}
theorem min_le (hl:Ns.length≤4096) (hin:rowsIn C Ns) {K:List (Nat×Nat)} (hK:K.length≤4096) (hv:validQ C Ns K=true):sizeM C Ns≤K.length:=by
 have hq:=(validQ_iff hK).1 hv
 refine (sizeM_iff hl hin _).2 ⟨K.map fun r=>(r.1&&&lowN Ns.length,r.2),by simp,fun r hr i j hi hj=>?_,fun c hc=>?_⟩
 ·obtain ⟨s,hs,rfl⟩:=List.mem_map.1 hr
  dsimp only at hi hj
  rw [Nat.testBit_and,testBit_lowN,Bool.and_eq_true,decide_eq_true_eq] at hi
  exact mem_cellsOf.2 ⟨hi.2,(hq i hi.2 j).1 ⟨s,hs,hi.1,hj⟩⟩
 ·obtain ⟨h1,h2⟩:=mem_cellsOf.1 hc
  obtain ⟨s,hs,h3,h4⟩:=(hq c.1 h1 c.2).2 h2
  refine ⟨_,List.mem_map.2 ⟨s,hs,rfl⟩,?_,h4⟩
  dsimp only
  rw [Nat.testBit_and,testBit_lowN,h3,decide_eq_true h1]
  rfl
theorem cov_size (hl:Ns.length≤4096) (hin:rowsIn C Ns) (b:Nat):Cov C Ns b (cellsOf Ns)↔sizeM C Ns≤b:=by
 constructor
 ·rintro ⟨l,h1,h2,h3⟩
  refine (sizeM_iff hl hin _).2 ⟨l.map fun s=>(havN C Ns s,s),by rw [List.length_map];exact h1,fun r hr i j hi hj=>?_,fun c hc=>?_⟩
  ·obtain ⟨s,hs,rfl⟩:=List.mem_map.1 hr
   have hc:=h2 s hs
   have hjC:j < C:=by dsimp only at hj;rw [← hc] at hj;exact comN_lt hj
   obtain ⟨q1,q2⟩:=(testBit_havN C Ns hl _ _).1 hi
   exact mem_cellsOf.2 ⟨q1,q2 j hj hjC⟩
  ·obtain ⟨s,hs,he⟩:=h3 c hc
   unfold inS at he
   rw [Bool.and_eq_true] at he
   exact ⟨_,List.mem_map.2 ⟨s,hs,rfl⟩,he.2,he.1⟩
 ·intro h
  obtain ⟨hm,hcov⟩:=minK_spec (C:=C) hl hin
  exact ⟨minC C Ns,by rw [hm];exact h,fun s hs=>minC_clo s hs,fun c hc=>hcov c hc⟩
theorem least_eq (hl:Ns.length≤4096) (hin:rowsIn C Ns) {b:Nat} (h1:covF C Ns b (cellsOf Ns)=true) (h2:∀ b',b' < b→covF C Ns b' (cellsOf Ns)=false):b=sizeM C Ns:=by
 have h3:=(cov_size hl hin b).1 ((covF_iff _ _ _ _).1 h1)
 rcases Nat.lt_or_ge (sizeM C Ns) b with h | h
 ·have:=h2 _ h
  rw [(covF_iff _ _ _ _).2 ((cov_size hl hin _).2 (Nat.le_refl _))] at this
  cases this
 ·omega
theorem cells_ones:(cellsOf Ns).length=onesTo Ns Ns.length:=by
 unfold cellsOf onesTo
 rw [List.length_flatMap,List.take_length]
 congr 1
 apply List.ext_getElem
 ·simp
 ·intro i h1 h2
  simp only [List.length_map,List.length_range] at h1
  rw [List.getElem_map,List.getElem_map,List.getElem_range,List.length_map,mems_len,List.getD_eq_getElem?_getD,List.getElem?_eq_getElem h1]
  rfl
theorem zero_ones (hl:Ns.length≤4096) (hin:rowsIn C Ns):decide (sizeM C Ns=0)=decide (onesTo Ns Ns.length=0):=by
 rw [← cells_ones]
 exact decide_eq_decide.2 (size_zero hl hin)
theorem min_rowsC:rowsIn C (minC C Ns):=fun k hk=>by
 refine low_of fun j hj=>?_
 have hm:(minC C Ns).getD k 0∈minC C Ns:=mem_getDG.2 ⟨k,hk,rfl⟩
 rw [← minC_clo _ hm] at hj
 exact comN_lt hj
theorem simp_len (hl:Ns.length≤4096) (hin:rowsIn C Ns) (hM:(greC C Ns).length≤4096) :
  sizeM C Ns≤(simQ (validQ C Ns) (roleQ (greC C Ns).length (usersN C Ns (greC C Ns)) (greC C Ns) (greC C Ns).length)).length ∧
   (simQ (validQ C Ns) (roleQ (greC C Ns).length (usersN C Ns (greC C Ns)) (greC C Ns) (greC C Ns).length)).length≤(greC C Ns).length:=by
 have h1:=simQ_len (ok:=validQ C Ns) (roleQ (greC C Ns).length (usersN C Ns (greC C Ns)) (greC C Ns) (greC C Ns).length)
 rw [roleQ_len] at h1
 have hul:(usersN C Ns (greC C Ns)).length≤4096:=by unfold usersN;rw [mtrans_len];exact hl
 exact ⟨min_le hl hin (Nat.le_trans h1 hM) (ok_simQ _ (valid_role hM (users_rowsG hM) (greC_facts hl hin hM).1 hul)),h1⟩
theorem norm_len (hl:Ns.length≤4096) (hin:rowsIn C Ns) (hM:(minC C Ns).length≤4096) :
  (normL (roleQ (minC C Ns).length (usersN C Ns (minC C Ns)) (minC C Ns) (minC C Ns).length)).length=sizeM C Ns:=by
 have h1:=normL_len (roleQ (minC C Ns).length (usersN C Ns (minC C Ns)) (minC C Ns) (minC C Ns).length)
 rw [roleQ_len] at h1
 have hul:(usersN C Ns (minC C Ns)).length≤4096:=by unfold usersN;rw [mtrans_len];exact hl
 have hv:=valid_role hM (users_rowsG hM) (min_valid hl hin hM) hul
 have hq:=(validQ_iff (by rw [roleQ_len];exact hM)).1 hv
 have h2:=min_le hl hin (K:=normL (roleQ (minC C Ns).length (usersN C Ns (minC C Ns)) (minC C Ns) (minC C Ns).length)) (Nat.le_trans h1 hM)
  ((validQ_iff (Nat.le_trans h1 hM)).2 fun i hi j=>(givQ_normL).trans (hq i hi j))
 have h3:=(minK_spec (C:=C) hl hin).1
 omega
end
end Go.Proofs.YtafpmkdlciioaaaGreatDoor
