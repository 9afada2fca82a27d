import Derived.Test.YtafpmkdlciioaaaGreatDoorPk15
import Derived.Test.YtafpmkdlciioaaaGreatDoorPk10
import Derived.Test.YtafpmkdlciioaaaGreatDoorPk04
import Derived.Test.YtafpmkdlciioaaaGreatDoorPk03
import Derived.Test.YtafpmkdlciioaaaGreatDoorPk05
import Derived.Deep.DeepCutAuto
import Derived.Deep.CutBlock
set_option maxHeartbeats 16000000
set_option maxRecDepth 100000
namespace Go.Proofs.YtafpmkdlciioaaaGreatDoor
open Go.RowKit
section
variable {C:Nat} {Ns L:List Nat}
theorem bit_trans (hl:Ns.length≤4096) (i j:Nat):((mtrans C Ns C).getD j 0).testBit i=true↔j < C∧i < Ns.length∧(Ns.getD i 0).testBit j=true:=by
 unfold mtrans
 rw [List.getD_eq_getElem?_getD,List.getElem?_map]
 by_cases hj:j < C
 ·rw [List.getElem?_range hj]
  show (mcol C Ns (j:Nat)).testBit i=true↔_
  rw [testBit_mcol _ _ _ _ hl]
  by_cases hi:i < Ns.length
  ·rw [mhas_in hi hj]
   exact ⟨fun h=>⟨hj,hi,h⟩,fun h=>h.2.2⟩
  ·constructor
   ·intro h
    unfold mhas insideB at h
    simp only [Bool.and_eq_true,decide_eq_true_eq] at h
    omega
   ·intro h;omega
 ·rw [List.getElem?_eq_none (by rw [List.length_range];omega)]
  simp [hj]
theorem cell_col (hin:rowsIn C Ns) {c:Nat×Nat} (h:c∈cellsOf Ns):c.2 < C:=by
 obtain ⟨h1,h2⟩:=mem_cellsOf.1 h
 rw [← hin c.1 h1,Nat.testBit_and,testBit_lowN,Bool.and_eq_true,decide_eq_true_eq] at h2
 exact h2.2
theorem cells_trans (hl:Ns.length≤4096) (hin:rowsIn C Ns) (i j:Nat):(j,i)∈cellsOf (mtrans C Ns C)↔(i,j)∈cellsOf Ns:=by
 rw [mem_cellsOf,mem_cellsOf,mtrans_len,bit_trans hl]
 constructor
 ·rintro ⟨_,_,h2,h3⟩;exact ⟨h2,h3⟩
 ·rintro ⟨h1,h2⟩
  have:=cell_col hin (c:=(i,j)) (mem_cellsOf.2 ⟨h1,h2⟩)
  exact ⟨this,this,h1,h2⟩
theorem rows_trans (hl:Ns.length≤4096):rowsIn Ns.length (mtrans C Ns C):=fun j hj=>by
 refine Nat.eq_of_testBit_eq fun x=>?_
 rw [Nat.testBit_and,testBit_lowN]
 cases hx:((mtrans C Ns C).getD j 0).testBit x with
 | false=>rfl
 | true=>rw [decide_eq_true ((bit_trans hl x j).1 hx).2.1];rfl
def CovRe (Ns:List Nat) (b:Nat):Prop:=∃ l:List (Nat×Nat),l.length≤b∧(∀ r∈l,∀ i j,r.1.testBit i=true→r.2.testBit j=true→(i,j)∈cellsOf Ns)∧∀ c∈cellsOf Ns,∃ r∈l,r.1.testBit c.1=true∧r.2.testBit c.2=true
theorem CovRe.trans (hl:Ns.length≤4096) (hin:rowsIn C Ns) {b:Nat} (h:CovRe Ns b):CovRe (mtrans C Ns C) b:=by
 obtain ⟨l,h1,h2,h3⟩:=h
 refine ⟨l.map fun r=>(r.2,r.1),by rw [List.length_map];exact h1,fun r hr i j hi hj=>?_,fun c hc=>?_⟩
 ·obtain ⟨r',hr',rfl⟩:=List.mem_map.1 hr
  exact (cells_trans hl hin j i).2 (h2 r' hr' j i hj hi)
 ·obtain ⟨r,hr,h4,h5⟩:=h3 (c.2,c.1) ((cells_trans hl hin c.2 c.1).1 hc)
  exact ⟨(r.2,r.1),List.mem_map.2 ⟨r,hr,rfl⟩,h5,h4⟩
theorem CovRe.back (hl:Ns.length≤4096) (hin:rowsIn C Ns) {b:Nat} (h:CovRe (mtrans C Ns C) b):CovRe Ns b:=by
 obtain ⟨l,h1,h2,h3⟩:=h
 refine ⟨l.map fun r=>(r.2,r.1),by rw [List.length_map];exact h1,fun r hr i j hi hj=>?_,fun c hc=>?_⟩
 ·obtain ⟨r',hr',rfl⟩:=List.mem_map.1 hr
  exact (cells_trans hl hin i j).1 (h2 r' hr' j i hj hi)
 ·obtain ⟨r,hr,h4,h5⟩:=h3 (c.2,c.1) ((cells_trans hl hin c.1 c.2).2 hc)
  exact ⟨(r.2,r.1),List.mem_map.2 ⟨r,hr,rfl⟩,h5,h4⟩
theorem CovK.rect (hl:Ns.length≤4096) {b:Nat} (h:CovK C Ns (allL C Ns) 0 b (cellsOf Ns)):CovRe Ns b:=by
 obtain ⟨ks,h1,h2,h3⟩:=h
 refine ⟨ks.map fun k=>(havN C Ns ((allL C Ns).getD k 0),(allL C Ns).getD k 0),by rw [List.length_map];exact h1,fun r hr i j hi hj=>?_,fun c hc=>?_⟩
 ·obtain ⟨k,hk,rfl⟩:=List.mem_map.1 hr
  have hm:(allL C Ns).getD k 0∈allL C Ns:=by rw [List.getD_eq_getElem?_getD,List.getElem?_eq_getElem (h2 k hk).2];exact List.getElem_mem _
  have hc:=allL_clo _ hm
  have hjC:j < C:=by dsimp only at hj;rw [← hc] at hj;exact comN_lt hj
  obtain ⟨q1,q2⟩:=(testBit_havN C Ns hl _ _).1 hi
  exact mem_cellsOf.2 ⟨q1,q2 j hj hjC⟩
 ·obtain ⟨k,hk,he⟩:=h3 c hc
  unfold inS at he
  rw [Bool.and_eq_true] at he
  exact ⟨_,List.mem_map.2 ⟨k,hk,rfl⟩,he.2,he.1⟩
theorem CovRe.con (hl:Ns.length≤4096) (hin:rowsIn C Ns) {b:Nat} (h:CovRe Ns b):CovK C Ns (allL C Ns) 0 b (cellsOf Ns):=by
 obtain ⟨l,h1,h2,h3⟩:=h
 have key:∀ l':List (Nat×Nat),(∀ r∈l',∀ i j,r.1.testBit i=true→r.2.testBit j=true→(i,j)∈cellsOf Ns) →
   ∃ ks:List Nat,ks.length≤l'.length∧(∀ k∈ks,0≤k∧k < (allL C Ns).length)∧∀ c∈cellsOf Ns,(∃ r∈l',r.1.testBit c.1=true∧r.2.testBit c.2=true)→∃ k∈ks,inS C Ns ((allL C Ns).getD k 0) c=true:=by
  intro l'
  induction l' with
  | nil=>intro _;exact ⟨[],by simp,by simp,fun c _ ⟨r,hr,_⟩=>by cases hr⟩
  | cons r l' ih =>
   intro hr
   obtain ⟨ks,k1,k2,k3⟩:=ih fun r' hr'=>hr r' (.tail _ hr')
   by_cases hz:∃ i j,r.1.testBit i=true∧r.2.testBit j=true
   ·obtain ⟨i,j,hi,hj⟩:=hz
    have hrow:∀ x,r.1.testBit x=true→(havN C Ns (cloN C Ns r.2)).testBit x=true:=fun x hx=>by
     rw [hav_clo hl,testBit_havN C Ns hl]
     refine ⟨(mem_cellsOf.1 (hr r (.head _) x j hx hj)).1,fun y hy _=>(mem_cellsOf.1 (hr r (.head _) x y hx hy)).2⟩
    have hcol:∀ y,r.2.testBit y=true→(cloN C Ns r.2).testBit y=true:=fun y hy=>clo_sup hl (cell_col hin (hr r (.head _) i y hi hy)) hy
    have hm:cloN C Ns r.2∈allL C Ns:=by
     refine (mem_allTo (2 ^ C)).2 ⟨clo_lt C Ns _,fun e=>?_,?_⟩
     ·have:=hcol j hj;rw [e] at this;simp at this
     ·unfold oneS
      rw [Bool.and_eq_true]
      refine ⟨decide_eq_true (clo_clo hl _),?_⟩
      rw [Bool.not_eq_true',decide_eq_false_iff_not]
      intro e;have:=hrow i hi;rw [e] at this;simp at this
    obtain ⟨k,hk⟩:=List.mem_iff_getElem?.1 hm
    refine ⟨k :: ks,by rw [List.length_cons,List.length_cons];omega,fun k' hk'=>?_,fun c hc ⟨r',hr',e1,e2⟩=>?_⟩
    ·rcases List.mem_cons.1 hk' with rfl | hk'
     ·exact ⟨Nat.zero_le _,(List.getElem?_eq_some_iff.1 hk).1⟩
     ·exact k2 k' hk'
    ·rcases List.mem_cons.1 hr' with rfl | hr'
     ·refine ⟨k,.head _,?_⟩
      rw [List.getD_eq_getElem?_getD,hk]
      show inS C Ns (cloN C Ns r'.2) c=true
      unfold inS
      rw [hcol _ e2,hrow _ e1];rfl
     ·obtain ⟨k',hk',he⟩:=k3 c hc ⟨r',hr',e1,e2⟩
      exact ⟨k',.tail _ hk',he⟩
   ·refine ⟨ks,by rw [List.length_cons];omega,k2,fun c hc ⟨r',hr',e1,e2⟩=>?_⟩
    rcases List.mem_cons.1 hr' with rfl | hr'
    ·exact absurd ⟨c.1,c.2,e1,e2⟩ hz
    ·exact k3 c hc ⟨r',hr',e1,e2⟩
 obtain ⟨ks,k1,k2,k3⟩:=key l h2
 exact ⟨ks,Nat.le_trans k1 h1,k2,fun c hc=>k3 c hc (h3 c hc)⟩
theorem sizeM_iff (hl:Ns.length≤4096) (hin:rowsIn C Ns) (b:Nat):sizeM C Ns≤b↔CovRe Ns b:=by
 have hs:=sizeF_spec (C:=C) (Ns:=Ns) (L:=allL C Ns) (n:=Ns.length) (b:=0) (by rw [Nat.zero_add];exact cov_rows hl hin)
 constructor
 ·intro h
  exact (CovK.mono hs.2.2.1 h).rect hl
 ·intro h
  refine Nat.le_of_not_lt fun hlt=>hs.2.2.2 b (Nat.zero_le _) hlt (h.con hl hin)
theorem sizeM_trans (hl:Ns.length≤4096) (hC:C≤4096) (hin:rowsIn C Ns):sizeM Ns.length (mtrans C Ns C)=sizeM C Ns:=by
 have hl':(mtrans C Ns C).length≤4096:=by rw [mtrans_len];exact hC
 have h1:=sizeM_iff (C:=Ns.length) (Ns:=mtrans C Ns C) hl' (rows_trans hl)
 have h2:=sizeM_iff (C:=C) (Ns:=Ns) hl hin
 refine Nat.le_antisymm ((h1 _).2 (((h2 _).1 (Nat.le_refl _)).trans hl hin)) ((h2 _).2 (((h1 _).1 (Nat.le_refl _)).back hl hin))
theorem leastK_cov:∀ (n k b:Nat) (o:List (Nat×Nat)),k+n=L.length→CovK C Ns L k b o→(leastK C Ns L n k b o).length≤b∧∀ c∈o,∃ j∈leastK C Ns L n k b o,inS C Ns (L.getD j 0) c=true
 | 0,k,b,o,hk,h=>by
  rw [leastK]
  refine ⟨Nat.zero_le _,fun c hc=>?_⟩
  obtain ⟨ks,_,h2,h3⟩:=h
  obtain ⟨j,hj,_⟩:=h3 c hc
  have:=h2 j hj
  omega
 | n+1,k,b,o,hk,h=>by
  rw [leastK]
  by_cases hb:b=0
  ·rw [if_pos hb]
   refine ⟨Nat.zero_le _,fun c hc=>?_⟩
   obtain ⟨ks,h1,_,h3⟩:=h
   obtain ⟨j,hj,_⟩:=h3 c hc
   cases ks with
   | nil=>cases hj
   | cons=>rw [hb] at h1;simp at h1
  rw [if_neg hb]
  by_cases hc:covK C Ns L (k+1) (b-1) (lessL C Ns o (L.getD k 0))=true
  ·rw [if_pos hc]
   obtain ⟨i1,i2⟩:=leastK_cov n (k+1) (b-1) _ (by omega) ((covK_iff _ _).1 hc)
   refine ⟨by rw [List.length_cons];omega,fun c hc=>?_⟩
   cases hi:inS C Ns (L.getD k 0) c with
   | true=>exact ⟨k,.head _,hi⟩
   | false =>
    obtain ⟨j,hj,he⟩:=i2 c (mem_lessL.2 ⟨hc,hi⟩)
    exact ⟨j,.tail _ hj,he⟩
  ·rw [if_neg hc]
   refine leastK_cov n (k+1) b o (by omega) ?_
   obtain ⟨ks,h1,h2,h3⟩:=h
   have hnk:k ∉ ks:=fun hk'=>hc ((covK_iff _ _).2 ⟨ks.filter (fun j=>decide (j≠k)),?_,fun j hj=>?_,fun c hc=>?_⟩)
   ·refine ⟨ks,h1,fun j hj=>?_,h3⟩
    have h4:=h2 j hj
    have h5:j≠k:=fun e=>hnk (e▸hj)
    omega
   ·have hlt:(ks.filter fun j=>decide (j≠k)).length < ks.length:=by
     refine Nat.lt_of_le_of_ne (List.length_filter_le _ _) fun e=>?_
     have:=(List.filter_eq_self.1 (List.filter_sublist.eq_of_length e)) k hk'
     simp at this
    omega
   ·rw [List.mem_filter,decide_eq_true_eq] at hj
    have h4:=h2 j hj.1
    omega
   ·obtain ⟨hc1,hc2⟩:=mem_lessL.1 hc
    obtain ⟨j,hj,he⟩:=h3 c hc1
    refine ⟨j,List.mem_filter.2 ⟨hj,decide_eq_true fun e=>?_⟩,he⟩
    rw [e,hc2] at he;cases he
theorem minK_spec (hl:Ns.length≤4096) (hin:rowsIn C Ns):(minC C Ns).length=sizeM C Ns∧∀ c∈cellsOf Ns,∃ s∈minC C Ns,inS C Ns s c=true:=by
 have hs:=sizeF_spec (C:=C) (Ns:=Ns) (L:=allL C Ns) (n:=Ns.length) (b:=0) (by rw [Nat.zero_add];exact cov_rows hl hin)
 obtain ⟨h1,h2⟩:=leastK_cov (C:=C) (Ns:=Ns) (L:=allL C Ns) (allL C Ns).length 0 (sizeM C Ns) (cellsOf Ns) (by omega) hs.2.2.1
 have hlt:=minK_lt C Ns
 have hlen:(minC C Ns).length=(minK C Ns).length:=by unfold minC atL;rw [List.length_map]
 refine ⟨?_,fun c hc=>?_⟩
 ·rw [hlen]
  refine Nat.le_antisymm h1 (Nat.le_of_not_lt fun hlt2=>?_)
  exact sizeM_no hl hin hlt2 ⟨minK C Ns,Nat.le_refl _,fun k hk=>⟨Nat.zero_le _,hlt k hk⟩,h2⟩
 ·obtain ⟨j,hj,he⟩:=h2 c hc
  exact ⟨_,List.mem_map.2 ⟨j,hj,rfl⟩,he⟩
theorem valid_of {D E:Nat} {Us Ps:List Nat} (hD:D=Ps.length) (hE:E=C) (hU:Us.length=Ns.length) (h:∀ i,i < Ns.length→∀ j,(∃ k,(Us.getD i 0).testBit k=true∧(Ps.getD k 0).testBit j=true)↔(Ns.getD i 0).testBit j=true):validN C Ns D Us E Ps=true:=by
 unfold validN
 have hb:∀ i,i < Ns.length→(mprod Us Ps Us.length).getD i 0=Ns.getD i 0:=fun i hi=>by
  refine Nat.eq_of_testBit_eq fun j=>?_
  rw [Bool.eq_iff_iff,mprod_bit (by rw [hU];exact hi)]
  exact h i hi j
 rw [decide_eq_true hD,Bool.true_and,decide_eq_true_eq]
 refine ⟨hE,by rw [mprod_len,hU],fun i hi=>?_,fun i hi=>?_⟩
 ·rw [mprod_len,hU] at hi
  rw [hb i hi,Nat.and_self]
 ·rw [hb i hi,Nat.and_self]
theorem users_bit (_hl:Ns.length≤4096) {M:List Nat} (hM:M.length≤4096) (i k:Nat):((usersN C Ns M).getD i 0).testBit k=true↔i < Ns.length∧k < M.length∧(havN C Ns (M.getD k 0)).testBit i=true:=by
 unfold usersN
 rw [bit_trans (by rw [List.length_map];exact hM),List.length_map]
 constructor
 ·rintro ⟨h1,h2,h3⟩
  refine ⟨h1,h2,?_⟩
  rw [List.getD_eq_getElem?_getD,List.getElem?_map,List.getElem?_eq_getElem h2] at h3
  rw [List.getD_eq_getElem?_getD,List.getElem?_eq_getElem h2]
  exact h3
 ·rintro ⟨h1,h2,h3⟩
  refine ⟨h1,h2,?_⟩
  rw [List.getD_eq_getElem?_getD,List.getElem?_map,List.getElem?_eq_getElem h2]
  rw [List.getD_eq_getElem?_getD,List.getElem?_eq_getElem h2] at h3
  exact h3
theorem mem_getD {l:List Nat} {s:Nat}:s∈l↔∃ k,k < l.length∧l.getD k 0=s:=by
 constructor
 ·intro h
  obtain ⟨k,hk⟩:=List.mem_iff_getElem?.1 h
  obtain ⟨h1,rfl⟩:=List.getElem?_eq_some_iff.1 hk
  exact ⟨k,h1,by rw [List.getD_eq_getElem?_getD,hk];rfl⟩
 ·rintro ⟨k,hk,rfl⟩
  rw [List.getD_eq_getElem?_getD,List.getElem?_eq_getElem hk]
  exact List.getElem_mem _
theorem min_ones (hl:Ns.length≤4096) (hin:rowsIn C Ns) (i j:Nat):(∃ k,k < (minC C Ns).length∧(havN C Ns ((minC C Ns).getD k 0)).testBit i=true∧((minC C Ns).getD k 0).testBit j=true)↔i < Ns.length∧(Ns.getD i 0).testBit j=true:=by
 constructor
 ·rintro ⟨k,hk,h1,h2⟩
  have hm:(minC C Ns).getD k 0∈minC C Ns:=mem_getD.2 ⟨k,hk,rfl⟩
  have hc:=minC_clo _ hm
  have hjC:j < C:=by rw [← hc] at h2;exact comN_lt h2
  obtain ⟨q1,q2⟩:=(testBit_havN C Ns hl _ _).1 h1
  exact ⟨q1,q2 j h2 hjC⟩
 ·rintro ⟨h1,h2⟩
  obtain ⟨s,hs,he⟩:=(minK_spec hl hin).2 (i,j) (mem_cellsOf.2 ⟨h1,h2⟩)
  obtain ⟨k,hk,rfl⟩:=mem_getD.1 hs
  unfold inS at he
  rw [Bool.and_eq_true] at he
  exact ⟨k,hk,he.2,he.1⟩
theorem min_valid (hl:Ns.length≤4096) (hin:rowsIn C Ns) (hM:(minC C Ns).length≤4096):validN C Ns (minC C Ns).length (usersN C Ns (minC C Ns)) C (minC C Ns)=true:=by
 refine valid_of rfl rfl (by unfold usersN;rw [mtrans_len]) fun i hi j=>?_
 rw [show ((Ns.getD i 0).testBit j=true)↔(i < Ns.length∧(Ns.getD i 0).testBit j=true) from ⟨fun h=>⟨hi,h⟩,fun h=>h.2⟩,← min_ones hl hin]
 constructor
 ·rintro ⟨k,h1,h2⟩
  obtain ⟨_,q2,q3⟩:=(users_bit hl hM i k).1 h1
  exact ⟨k,q2,q3,h2⟩
 ·rintro ⟨k,h1,h2,h3⟩
  exact ⟨k,(users_bit hl hM i k).2 ⟨hi,h1,h2⟩,h3⟩
end
section
variable {α:Type}
theorem bs_pickL_assoc (a x y:List α):pickL (pickL a x) y=pickL a (pickL x y):=by
 unfold pickL
 by_cases h1:a.length < x.length <;> by_cases h2:x.length < y.length <;> simp only [h1,h2,if_true,if_false]
 ·rw [if_pos (by omega)]
 ·split <;> first | rfl | (exfalso;omega)
theorem bs_pickL_keep {a x:List α} (h:x.length≤a.length):pickL a x=a:=by unfold pickL;rw [if_neg (by omega)]
def bs_bestR (ok:List α→α→Bool):List α→List α→List α→List α
 | [],_,out=>out
 | c :: r,l,out=>if ok l c=true then bs_bestR ok r l (pickL out (bs_bestR ok r (l ++ [c]) (l ++ [c]))) else bs_bestR ok r l out
theorem bs_bestR_pick (ok:List α→α→Bool) (b:List α):∀ (ones l out:List α),pickL b (bs_bestR ok ones l out)=bs_bestR ok ones l (pickL b out)
 | [],_,_=>rfl
 | c :: r,l,out=>by
  unfold bs_bestR
  split
  ·rw [bs_bestR_pick ok b r l,bs_pickL_assoc]
  ·exact bs_bestR_pick ok b r l out
theorem bs_bestR_len (ok:List α→α→Bool):∀ (ones l out:List α),(bs_bestR ok ones l out).length≤max out.length (l.length+ones.length)
 | [],_,_=>by unfold bs_bestR;omega
 | c :: r,l,out=>by
  unfold bs_bestR
  split
  ·have h1:=bs_bestR_len ok r l (pickL out (bs_bestR ok r (l ++ [c]) (l ++ [c])))
   have h2:=bs_bestR_len ok r (l ++ [c]) (l ++ [c])
   rw [pickL_len] at h1
   simp only [List.length_append,List.length_cons,List.length_nil] at h2 ⊢
   omega
  ·have h1:=bs_bestR_len ok r l out
   simp only [List.length_cons]
   omega
theorem bs_bestR_cut (ok:List α→α→Bool):∀ (ones l out:List α),l.length+ones.length≤out.length→bs_bestR ok ones l out=out
 | [],_,_,_=>rfl
 | c :: r,l,out,h=>by
  simp only [List.length_cons] at h
  unfold bs_bestR
  split
  ·have h2:=bs_bestR_len ok r (l ++ [c]) (l ++ [c])
   simp only [List.length_append,List.length_cons,List.length_nil] at h2
   rw [bs_pickL_keep (by omega)]
   exact bs_bestR_cut ok r l out (by omega)
  ·exact bs_bestR_cut ok r l out (by omega)
theorem bs_bestR_filter (good:α→α→Bool) (p:α→Bool):∀ (ones l out:List α),(∀ c∈ones,p c=false→l.all (fun b=>good b c)=false) →
  bs_bestR (fun l c=>l.all fun b=>good b c) (ones.filter p) l out=bs_bestR (fun l c=>l.all fun b=>good b c) ones l out
 | [],_,_,_=>rfl
 | c :: r,l,out,h=>by
  have hr:∀ l':List α,(∀ b∈l,b∈l')→∀ d∈r,p d=false→l'.all (fun b=>good b d)=false:=fun l' hl d hd hp=>by
   have:=h d (List.mem_cons_of_mem _ hd) hp
   rw [List.all_eq_false] at this ⊢
   obtain ⟨x,hx,hg⟩:=this
   exact ⟨x,hl x hx,hg⟩
  have i1:=fun out=>bs_bestR_filter good p r l out (hr l fun _ h=>h)
  have i2:=bs_bestR_filter good p r (l ++ [c]) (l ++ [c]) (hr _ fun _ h=>List.mem_append_left _ h)
  cases hp:p c with
  | true =>
   rw [List.filter_cons_of_pos hp]
   conv=>lhs;unfold bs_bestR
   conv=>rhs;unfold bs_bestR
   rw [i1,i1,i2]
  | false =>
   rw [List.filter_cons_of_neg (by rw [hp];simp),i1]
   conv=>rhs;unfold bs_bestR
   rw [if_neg (by rw [h c List.mem_cons_self hp];simp)]
theorem bs_bestE_eq (good ind:α→α→Bool) (hgi:∀ a b,good a b=true→ind a b=true):∀ (n:Nat) (ones l best:List α),ones.length≤n→ones.Pairwise (fun a b=>ind a b=true→good a b=true)→(∀ c∈ones,l.all (fun b=>good b c)=true)→l.length≤best.length →
  bestE ind n ones l best=bs_bestR (fun l c=>l.all fun b=>good b c) ones l best
 | 0,ones,l,best,hn,_,_,_=>by
  obtain rfl:ones=[]:=List.length_eq_zero_iff.1 (by omega)
  rfl
 | n+1,[],l,best,_,_,_,_=>rfl
 | n+1,c :: r,l,best,hn,hp,hok,hl=>by
  simp only [List.length_cons] at hn
  rw [List.pairwise_cons] at hp
  conv=>lhs;unfold bestE
  split
  ·rename_i h
   rw [bs_bestR_cut _ _ _ _ (by simpa using h)]
  ·conv=>rhs;unfold bs_bestR
   rw [if_pos (hok c List.mem_cons_self)]
   have hf:∀ d∈r,ind c d=false→(l ++ [c]).all (fun b=>good b d)=false:=fun d _ hi=>by
    rw [List.all_eq_false]
    exact ⟨c,by simp,fun hg=>by rw [hgi _ _ hg] at hi;cases hi⟩
   have e1:bestE ind n (r.filter (ind c)) (l ++ [c]) (pickL best (l ++ [c]))=pickL best (bs_bestR (fun l c=>l.all fun b=>good b c) r (l ++ [c]) (l ++ [c])):=by
    rw [bs_bestE_eq good ind hgi n _ _ _ (Nat.le_trans (List.length_filter_le _ _) (by omega)) (hp.2.sublist List.filter_sublist) (fun d hd=>?_) (by rw [pickL_len];omega),← bs_bestR_pick,bs_bestR_filter good (ind c) r _ _ hf]
    obtain ⟨h1,h2⟩:=List.mem_filter.1 hd
    rw [List.all_append,Bool.and_eq_true]
    refine ⟨hok d (List.mem_cons_of_mem _ h1),?_⟩
    simpa using hp.1 d h1 h2
   rw [e1]
   exact bs_bestE_eq good ind hgi n r l _ (by omega) hp.2 (fun d hd=>hok d (List.mem_cons_of_mem _ hd)) (by rw [pickL_len];omega)
theorem bs_bestR_good (good:α→α→Bool) (S:α→Prop):∀ (ones l out:List α),(∀ c∈ones,S c)→((∀ c∈l,S c)∧l.Pairwise fun a b=>good a b=true)→((∀ c∈out,S c)∧out.Pairwise fun a b=>good a b=true) →
  (∀ c∈bs_bestR (fun l c=>l.all fun b=>good b c) ones l out,S c)∧(bs_bestR (fun l c=>l.all fun b=>good b c) ones l out).Pairwise fun a b=>good a b=true
 | [],_,_,_,_,ho=>ho
 | c :: r,l,out,hs,hl,ho=>by
  unfold bs_bestR
  have hr:=fun d hd=>hs d (List.mem_cons_of_mem c hd)
  split
  ·rename_i h
   have hlc:(∀ d∈l ++ [c],S d)∧(l ++ [c]).Pairwise fun a b=>good a b=true:=by
    refine ⟨fun d hd=>?_,?_⟩
    ·rcases List.mem_append.1 hd with h | h
     ·exact hl.1 d h
     ·rw [List.mem_singleton.1 h];exact hs c List.mem_cons_self
    ·rw [List.pairwise_append]
     refine ⟨hl.2,List.pairwise_singleton _ _,fun a ha b hb=>?_⟩
     rw [List.mem_singleton.1 hb]
     exact List.all_eq_true.1 h a ha
   have h1:=bs_bestR_good good S r (l ++ [c]) (l ++ [c]) hr hlc hlc
   refine bs_bestR_good good S r l _ hr hl ?_
   unfold pickL
   split
   ·exact h1
   ·exact ho
  ·exact bs_bestR_good good S r l out hr hl ho
end
section
variable {C:Nat} {Ns:List Nat}
theorem indep_symm (a b:Int×Int):indep C Ns a b=indep C Ns b a:=by unfold indep;rw [Bool.or_comm]
theorem ones_nodup (Os:List Nat):(cellsOf Os).Nodup:=by
 have hm:∀ N,(mems N).Nodup:=fun N=>by
  obtain ⟨k,hk⟩:=mems_is N
  rw [hk k (Nat.le_refl _)]
  exact List.nodup_range.filter _
 have h1:∀ k,((List.range k).flatMap fun i=>(mems (Os.getD i 0)).map fun j=>(i,j)).Nodup:=by
  intro k
  induction k with
  | zero=>simp
  | succ k ih =>
   rw [List.range_succ,List.flatMap_append,List.nodup_append]
   refine ⟨ih,?_,?_⟩
   ·simp only [List.flatMap_cons,List.flatMap_nil,List.append_nil]
    exact List.Pairwise.map _ (fun a b h e=>h (by injection e)) (hm _)
   ·rintro a ha b hb rfl
    rw [List.mem_flatMap] at ha hb
    obtain ⟨x,hx,h⟩:=ha
    obtain ⟨y,hy,h'⟩:=hb
    obtain ⟨_,_,rfl⟩:=List.mem_map.1 h
    obtain ⟨_,_,e⟩:=List.mem_map.1 h'
    rw [List.mem_range] at hx
    simp at hy
    injection e with e _
    omega
 exact h1 _
theorem bestP_le (hl:Ns.length≤4096) (hin:rowsIn C Ns):(bestP C Ns).length≤sizeM C Ns:=by
 obtain ⟨hm,hcov⟩:=minK_spec (C:=C) hl hin
 rw [← hm]
 unfold bestP
 split
 ·exact Nat.zero_le _
 ·have hnd:(cz (cellsOf Ns)).Pairwise (fun a b=>indep C Ns a b=true→(decide (b≠a)&&indep C Ns a b)=true):=by
   unfold cz
   rw [List.pairwise_map]
   refine (List.nodup_iff_pairwise_ne.1 (ones_nodup Ns)).imp fun {a b} hne hi=>?_
   rw [hi,Bool.and_true,decide_eq_true_eq]
   intro e
   injection e with e1 e2
   exact hne (Prod.ext (by omega) (by omega))
  unfold searchP
  rw [show pickL ([]:List (Int×Int)) []=[] from rfl,bs_bestE_eq (fun a b=>decide (b≠a)&&indep C Ns a b) _ (fun a b h=>by rw [Bool.and_eq_true] at h;exact h.2) _ _ _ _ (Nat.le_refl _) hnd (fun _ _=>rfl) (Nat.le_refl _)]
  obtain ⟨h1,h2⟩:=bs_bestR_good (fun a b=>decide (b≠a)&&indep C Ns a b) (fun c=>∃ d∈cellsOf Ns,c=((d.1:Int),(d.2:Int))) (cz (cellsOf Ns)) [] [] (fun c hc=>by
   obtain ⟨d,hd,rfl⟩:=List.mem_map.1 hc
   exact ⟨d,hd,rfl⟩) ⟨by simp,by simp⟩ ⟨by simp,by simp⟩
  generalize bs_bestR _ _ _ _=B at h1 h2
  have h3:=fool_le (C:=C) hl (minC C Ns) (B.map fun c=>(c.1.toNat,c.2.toNat)) minC_clo (by
   rw [List.pairwise_map]
   refine h2.imp_of_mem fun {a b} ha hb hg=>?_
   obtain ⟨d,_,rfl⟩:=h1 a ha
   obtain ⟨e,_,rfl⟩:=h1 b hb
   rw [Bool.and_eq_true,decide_eq_true_eq] at hg
   refine ⟨fun q=>hg.1 ?_,?_⟩
   ·injection q with q1 q2
    simp only [Int.toNat_natCast] at q1 q2
    rw [q1,q2]
   ·simp only [Int.toNat_natCast]
    rw [indep_symm];exact hg.2) (fun c hc=>by
   obtain ⟨b,hb,rfl⟩:=List.mem_map.1 hc
   obtain ⟨d,hd,rfl⟩:=h1 b hb
   simp only [Int.toNat_natCast]
   exact hcov d hd)
  rwa [List.length_map] at h3
theorem size_zero (hl:Ns.length≤4096) (hin:rowsIn C Ns):sizeM C Ns=0↔(cellsOf Ns).length=0:=by
 constructor
 ·intro h
  obtain ⟨hm,hcov⟩:=minK_spec (C:=C) hl hin
  rw [h] at hm
  rcases Nat.eq_zero_or_pos (cellsOf Ns).length with e | e
  ·exact e
  ·obtain ⟨c,hc⟩:=List.exists_mem_of_ne_nil _ (List.length_pos_iff.1 e)
   obtain ⟨s,hs,_⟩:=hcov c hc
   rw [List.eq_nil_of_length_eq_zero hm] at hs
   cases hs
 ·intro h
  rcases Nat.eq_zero_or_pos (sizeM C Ns) with e | e
  ·exact e
  ·refine absurd ?_ (sizeM_no hl hin e)
   rw [List.eq_nil_of_length_eq_zero h]
   exact ⟨[],Nat.le_refl _,by simp,by simp⟩
end
namespace Mix2
end Mix2
def flatQ (L:List (Nat×Nat)):List Nat:=L.flatMap fun s=>[s.1,s.2]
theorem flatQ_len (L:List (Nat×Nat)):(flatQ L).length=L.length*2:=by
 induction L with
 | nil=>rfl
 | cons s L ih=>unfold flatQ at ih ⊢;rw [List.flatMap_cons,List.length_append,ih,List.length_cons];simp;omega
theorem flatQ_app (L M:List (Nat×Nat)):flatQ (L ++ M)=flatQ L ++ flatQ M:=by unfold flatQ;rw [List.flatMap_append]
theorem flatQ_snoc (L:List (Nat×Nat)) (s:Nat×Nat):flatQ (L ++ [s])=flatQ L ++ [s.1] ++ [s.2]:=by rw [flatQ_app,List.append_assoc];rfl
theorem flatQ_get:∀ (L:List (Nat×Nat)) (k:Nat) (s:Nat×Nat),L[k]?=some s→(flatQ L)[k*2]?=some s.1∧(flatQ L)[k*2+1]?=some s.2
 | [],k,s,h=>by simp at h
 | t :: L,0,s,h=>by
  cases h
  exact ⟨rfl,rfl⟩
 | t :: L,k+1,s,h=>by
  have:=flatQ_get L k s (by simpa using h)
  rw [show (k+1)*2=k*2+1+1 by omega]
  exact this
def IsQ (w:World) (v:Value) (L:List (Nat×Nat)):Prop:=∃ A c vs,v=.slice A L.length c∧Row w A vs∧Sets w vs (flatQ L)∧L.length≤c∧L.length≤1000000
def OwnQ (w:World) (base:Nat) (v:Value) (L:List (Nat×Nat)):Prop:=∃ vs,w.ownsRow base 98 2 v L.length vs∧Sets w vs (flatQ L)
section
variable {w w':World} {base:Nat} {v:Value} {L:List (Nat×Nat)}
theorem OwnQ.below (h:OwnQ w base v L) (hb:Below w.heap.size w w'):OwnQ w' base v L:=by
 obtain ⟨vs,h1,h2⟩:=h
 exact ⟨vs,own_below h1 hb,h2.below hb⟩
theorem OwnQ.low {b0:Nat} (h:OwnQ w base v L) (hb:b0≤base):OwnQ w b0 v L:=by
 obtain ⟨vs,h1,h2⟩:=h
 exact ⟨vs,own_low h1 hb,h2⟩
theorem OwnQ.nil (w:World) (base:Nat):OwnQ w base (.slice none 0 0) []:=⟨[],World.ownsRow_nil _ _ _ _,Sets.nil _⟩
theorem OwnQ.isQ (h:OwnQ w base v L) (hl:L.length≤1000000):IsQ w v L:=by
 obtain ⟨vs,h1,h2⟩:=h
 obtain ⟨A,c,e,hr⟩:=RowN.of_own h1
 exact ⟨A,c,vs,e,hr.1,h2,hr.2.1,hl⟩
theorem IsQ.at {A:Option Addr} {n c k:Nat} {s:Nat×Nat} (h:IsQ w (.slice A n c) L) (hk:L[k]?=some s) :
  ∃ g off A1 c1 A2 c2,A=some ⟨g,off,none⟩∧g < w.heap.size∧w.cell? ⟨g,off+k*2,none⟩=some (.slice A1 (nw s.1) c1)∧w.cell? ⟨g,off+k*2+1,none⟩=some (.slice A2 (nw s.2) c2) ∧
   IsSet w (.slice A1 (nw s.1) c1) s.1∧IsSet w (.slice A2 (nw s.2) c2) s.2:=by
 obtain ⟨A',c',vs,e,h1,h2,h3⟩:=h
 cases e
 have hlt:=(List.getElem?_eq_some_iff.1 hk).1
 have hvl:vs.length=L.length*2:=by rw [h2.1,flatQ_len]
 obtain ⟨k1,k2⟩:=flatQ_get L k s hk
 obtain ⟨g,off,rfl,hg,hc⟩:=h1 (by omega)
 obtain ⟨v1,hv1⟩:∃ x,vs[k*2]?=some x:=⟨_,List.getElem?_eq_getElem (by omega)⟩
 obtain ⟨v2,hv2⟩:∃ x,vs[k*2+1]?=some x:=⟨_,List.getElem?_eq_getElem (by omega)⟩
 have s1:=h2.2 _ _ _ hv1 k1
 have s2:=h2.2 _ _ _ hv2 k2
 obtain ⟨A1,c1,rfl,_⟩:=id s1
 obtain ⟨A2,c2,rfl,_⟩:=id s2
 have e2:=hc _ _ hv2
 rw [← Nat.add_assoc] at e2
 exact ⟨g,off,A1,c1,A2,c2,rfl,hg,hc _ _ hv1,e2,s1,s2⟩
theorem OwnQ.mk_ {n:Nat} {s:Nat×Nat} {vs:List Value} {v1 v2:Value} (h:w.ownsRow base 98 2 v n (vs ++ [v1,v2])) (hn:n=L.length+1) (hs:Sets w vs (flatQ L)) (h1:IsSet w v1 s.1) (h2:IsSet w v2 s.2):OwnQ w base v (L ++ [s]):=by
 refine ⟨vs ++ [v1,v2],by rw [List.length_append,List.length_singleton,← hn];exact h,?_⟩
 rw [flatQ_snoc,show vs ++ [v1,v2]=vs ++ [v1] ++ [v2] by simp]
 exact (hs.snoc h1).snoc h2
end
theorem OwnQ.push {W W':World} {base n:Nat} {s:Nat×Nat} {v v' v1 v2:Value} {L:List (Nat×Nat)} {vs:List Value} (hs:Sets W vs (flatQ L)) (hown:W.ownsRow base 98 2 v n vs) (hg:W.grownBy W' v.ownBlock)
  (hown':W'.ownsRow base 98 2 v' (n+1) (vs ++ [v1,v2])) (hn:n=L.length) (h1:IsSet W v1 s.1) (h2:IsSet W v2 s.2):OwnQ W' base v' (L ++ [s])∧KeepW W W':=by
 have hk:=KeepW.grown hg hown (by decide)
 exact ⟨OwnQ.mk_ hown' (by rw [hn]) (hs.keep hk) (h1.keep hk) (h2.keep hk),hk⟩
theorem OwnQ.put {W:World} {base g:Nat} {v:Value} {L:List (Nat×Nat)} {t:TypeId} {cs:Array Value} (h:OwnQ W base v L) (hB:Blk W g t cs) (ht:t≠98) (ht2:146≠t) (i:Nat) (u:Value):OwnQ (W.setCell ⟨g,i,none⟩ u) base v L:=by
 obtain ⟨vs,h1,h2⟩:=h
 exact ⟨vs,ownsRow_setCell_other h1 (a:=⟨g,i,none⟩) (fun e=>own_ne h1 hB ht e.symm) u,h2.keep (KeepW.setCell (p:=⟨g,i,none⟩) hB ht2 u)⟩
theorem OwnQ.val {w:World} {base:Nat} {v:Value} {L:List (Nat×Nat)} (h:OwnQ w base v L):∃ A c,v=.slice A L.length c:=by
 obtain ⟨vs,h1,_⟩:=h
 obtain ⟨A,c,e,_⟩:=RowN.of_own h1
 exact ⟨A,c,e⟩
theorem buildQ_any (base:Nat) (v:Value) (R C:Nat) (M:List (Nat×Nat)) (w:World) (hK:OwnQ w base v M) (hM:M.length≤256) (hR:R≤256) (hC:C≤256) (hr1:rowsIn R (M.map (·.1))) (hr2:rowsIn C (M.map (·.2))) :
  Calls Tryz.prog 33 #[.int .i64 R,.int .i64 C,v] w fun e w'=>∃ u p,e=.returned (.tuple #[.agg #[ptr u,ptr p],.int .i64 0])∧IsMO w' u M.length (mtrans R (M.map (·.1)) R)∧IsMO w' p C (M.map (·.2))∧Below w.heap.size w w':=by
 obtain ⟨i0,hi0,hz0,hz1,hz2⟩:=info_parts info_set
 obtain ⟨A,c,rfl⟩:=hK.val
 have HK:=Lib.hid hK
 have HR1:=Lib.hid (hr1)
 have HR2:=Lib.hid (hr2)
 clear hK hr1 hr2
 go_enter Tryz.func33,Tryz.ntmps33
 go_upto_region 2 with fail
 refine abs1 fun W0 h6 hb0 hz=>?_
 clear hz
 obtain ⟨g6,hg6⟩:∃ x,x=w.heap.size:=⟨_,rfl⟩
 have hgw:w.heap.size≤g6:=by omega
 rw [← hg6] at h6 ⊢
 clear hg6
 go_wp2_with fail
 refine wp_loopF (β:=Nat×Value×Value) (fun x f=>#[.int .i64 (R:Int),.int .i64 (C:Int),f 2,f 3,f 4,f 5,ptr g6,.int .i64 0,x.2.1,x.2.2,f 10,f 11,f 12,f 13,f 14,.slice A M.length c,.int .i64 (M.length:Int),.int .i64 (x.1:Int),f 18,f 19,f 20,f 21,f 22,f 23,f 24,f 25,f 26,f 27,f 28,f 29,f 30,f 31,f 32,f 33,f 34,f 35,f 36,f 37,f 38,f 39,f 40,f 41,f 42,f 43,f 44,f 45,f 46,f 47,f 48,f 49,f 50,f 51,f 52,f 53,f 54,f 55])
  (fun x ds W=>ds=[]∧x.1≤M.length∧Below w.heap.size w W∧Blk W g6 33 #[.pointer none,.pointer none]∧OwnO W w.heap.size x.2.1 ((M.take x.1).map (·.1))∧OwnO W w.heap.size x.2.2 ((M.take x.1).map (·.2))∧∀ g,x.2.1.ownBlock=some g→x.2.2.ownBlock≠some g) (fun x=>M.length-x.1) (0,.slice none 0 0,.slice none 0 0) rfl
  ⟨rfl,Nat.zero_le _,hb0,h6,OwnO.nil _ _,OwnO.nil _ _,fun g hg=>(by cases hg)⟩ ?_
 rintro ⟨k,v8,v9⟩ f ds W ⟨rfl,hk,hb,k6,hU,hP,hne⟩
 dsimp only at hk hU hP hne ⊢
 by_cases hlt:k < M.length
 ·obtain ⟨s,hs⟩:∃ s,M[k]?=some s:=⟨_,List.getElem?_eq_getElem hlt⟩
  obtain ⟨gr,off,A1,c1,A2,c2,rfl,hgr,d0,d1,s1,s2⟩:=((HK.out.below hb).isQ (by omega)).at hs
  obtain ⟨X,Y⟩:=s
  dsimp only at d0 d1 s1 s2
  have htk:M.take (k+1)=M.take k ++ [(X,Y)]:=by rw [List.take_add_one,hs];rfl
  have htm:(M.take (k+1)).map (·.1)=(M.take k).map (·.1) ++ [X]:=by rw [htk,List.map_append];rfl
  have htn:(M.take (k+1)).map (·.2)=(M.take k).map (·.2) ++ [Y]:=by rw [htk,List.map_append];rfl
  have htl:(M.take k).length=k:=by rw [List.length_take];omega
  obtain ⟨vu,hU0,hUs⟩:=hU
  obtain ⟨vp,hP0,hPs⟩:=hP
  rw [List.length_map,htl] at hU0
  rw [List.length_map,htl] at hP0
  have HTK:=Lib.hid htn;have HTM:=Lib.hid htm;have HTL:=Lib.hid htl;have HUS:=Lib.hid hUs;have HPS:=Lib.hid hPs
  clear htk htm htn htl hUs hPs hs
  go_upto_region 5 with fail
  refine abs1 fun W1 h11 hb1 hz=>?_
  clear hz
  have b1:=hb.trans (hb1.mono hb.size)
  obtain ⟨g11,hg11⟩:∃ x,x=W.heap.size:=⟨_,rfl⟩
  rw [← hg11] at h11 ⊢
  clear hg11
  have c0:=h11.cell 0
  have k61:=k6.below hb1 k6.lt
  obtain ⟨A8,c8,rfl,-⟩:=RowN.of_own hU0
  obtain ⟨A9,c9,rfl,-⟩:=RowN.of_own hP0
  have hba:Below W1.heap.size W1 (W1.alloc (.cells #[.slice A1 (nw X) c1] 58)):=(Below.refl _ _).alloc (Nat.le_refl _) _
  have hU1:=own_below (own_below hU0 hb1) hba
  have hP1:=own_below (own_below hP0 hb1) hba
  have hb1a:=hb1.trans (hba.mono hb1.size)
  have s1a:=s1.below hb1a
  have s2a:=s2.below hb1a
  have b2:=b1.trans (hba.mono b1.size)
  have k62:=k61.below hba k61.lt
  have h112:=h11.below hba h11.lt
  have HUS1:=Lib.hid (HUS.out.below hb1a)
  have HPS1:=Lib.hid (HPS.out.below hb1a)
  have hsz:=b1.size
  have hgP:∀ g,(Value.slice A9 k c9).ownBlock=some g→g < W1.heap.size:=fun g hg=>by
   obtain ⟨cs,hB⟩:=own_kind (own_below hP0 hb1) g hg
   exact hB.lt
  clear hU0 hP0 d0 d1 s1 s2 k6 k61 hb1 hb hb1a
  go_wp2_with (at_builtin;refine wpList_append_lies _ rfl _ _ 67 rfl w.heap.size 58 i0 (.agg #[.slice none 0 0]) 1 24 Tryz.underlying67 hi0 hz0 hz1 hz2 rfl (by decide) _ _ _ rfl hU1 ⟨W1.heap.size,0,none⟩ 1 1 [.slice A1 (nw X) c1] rfl rfl (World.news_of_block (Blk.new _ _ _)) (by simp [Value.oneCell']) (by omega) (by unfold maxLen;omega) (by omega) (by first | omega | (simp;omega)) _ rfl ?_)
  intro gu cu w5 hU5 hgrow5 hlies5 hlt5
  have hgu:gu < w5.heap.size∧(Value.slice A9 k c9).ownBlock≠some gu:=by
   refine ⟨?_,?_⟩
   ·obtain ⟨cs,hB⟩:=own_kind hU5 gu rfl
    exact hB.lt
   ·rcases hlies5 with h | h
    ·exact hne gu h
    ·intro e
     have h1:=hgP gu e
     have h2:=hba.size
     omega
  have hP5:=own_but hP1 (But.grown hgrow5) (fun g hg e=>hne g e.symm hg)
  have hkw5:=KeepW.grown hgrow5 hU1 (by decide)
  have h115:=h112.grown hgrow5 (own_ne hU1 h112 (by decide))
  have k65:=k62.grown hgrow5 (own_ne hU1 k62 (by decide))
  have b5:=b2.grown hgrow5 b2.size (fun q hq=>(hU1.lt q hq).1)
  have hgP5:∀ g,(Value.slice A9 k c9).ownBlock=some g→g < w5.heap.size:=fun g hg=>Nat.lt_of_lt_of_le (hgP g hg) (Nat.le_trans hba.size hgrow5.size)
  have s1b:=s1a.keep hkw5
  have s2b:=s2a.keep hkw5
  have HUS5:=Lib.hid (HUS1.out.keep hkw5)
  have HPS5:=Lib.hid (HPS1.out.keep hkw5)
  have hba2:Below w5.heap.size w5 (w5.alloc (.cells #[.slice A2 (nw Y) c2] 58)):=(Below.refl _ _).alloc (Nat.le_refl _) _
  have hP6:=own_below hP5 hba2
  have hU6:=own_below hU5 hba2
  have b6:=b5.trans (hba2.mono b5.size)
  have k66:=k65.below hba2 k65.lt
  have HGU:=Lib.hid hgu
  have c1':=h115.cell 1
  have n115:=h115.lt
  have hsz5:=b5.size
  clear hgrow5 hlies5 hlt5 hU1 hP1 s1a s2a k62 h112 b2 hgu hkw5 hba hne hgP c0
  go_wp2_with (at_builtin;refine wpList_append_lies _ rfl _ _ 67 rfl w.heap.size 58 i0 (.agg #[.slice none 0 0]) 1 24 Tryz.underlying67 hi0 hz0 hz1 hz2 rfl (by decide) _ _ _ rfl hP6 ⟨w5.heap.size,0,none⟩ 1 1 [.slice A2 (nw Y) c2] rfl rfl (World.news_of_block (Blk.new _ _ _)) (by simp [Value.oneCell']) (by omega) (by unfold maxLen;omega) (by omega) (by first | omega | (simp;omega)) _ rfl ?_)
  intro gp cp w7 hP7 hgrow7 hlies7 hlt7
  have hgp:gu≠gp:=fun e=>by
   subst e
   rcases hlies7 with h | h
   ·exact HGU.out.2 h
   ·have:=HGU.out.1
    have h2:=hba2.size
    omega
  have hU7:=own_but hU6 (But.grown hgrow7) (fun g hg e=>by
   cases hg
   exact HGU.out.2 e.symm)
  have hkw7:=(KeepW.of_below hba2).trans (KeepW.grown hgrow7 hP6 (by decide))
  have k67:=k66.grown hgrow7 (own_ne hP6 k66 (by decide))
  have b7:=b6.grown hgrow7 b6.size (fun q hq=>(hP6.lt q hq).1)
  have s1c:=s1b.keep hkw7
  have s2c:=s2b.keep hkw7
  have hus7:=(HUS5.out.keep hkw7).snoc s1c
  have hps7:=(HPS5.out.keep hkw7).snoc s2c
  rw [← HTM.out] at hus7
  rw [← HTK.out] at hps7
  have hlu:((M.take (k+1)).map (·.1)).length=k+1:=by rw [List.length_map,List.length_take];omega
  have hlp:((M.take (k+1)).map (·.2)).length=k+1:=by rw [List.length_map,List.length_take];omega
  go_wp2_with fail
  exact ⟨(k+1,.slice (some ⟨gu,0,none⟩) (k+1) cu,.slice (some ⟨gp,0,none⟩) (k+1) cp),rfl,⟨by first | rfl | trivial,by show k+1≤M.length;omega,b7,k67,⟨_,by rw [hlu];exact hU7,hus7⟩,⟨_,by rw [hlp];exact hP7,hps7⟩,fun g hg e=>hgp (by
   have h1:gu=g:=Option.some.inj hg
   have h2:gp=g:=Option.some.inj e
   omega)⟩,by show M.length-(k+1) < M.length-k;omega⟩
 ·obtain rfl:k=M.length:=by omega
  rw [List.take_length] at hU hP
  obtain ⟨vu,hU0,hUs⟩:=hU
  obtain ⟨vp,hP0,hPs⟩:=hP
  obtain ⟨A8,c8,rfl,hru,-⟩:=RowN.of_own hU0
  obtain ⟨A9,c9,rfl,hrp,-⟩:=RowN.of_own hP0
  rw [List.length_map] at hU0 hP0
  have hof:=ofm_own A8 c8 R vu (M.map (·.1)) W hru hUs hR (by rw [List.length_map];exact hM)
  rw [List.length_map] at hof
  have HOF:=hideC hof
  have hml:(List.map (·.1) M).length=M.length:=List.length_map ..
  have hml2:(List.map (·.2) M).length=M.length:=List.length_map ..
  rw [hml,hml2]
  clear hof hne hml hml2
  go_wp2_with fail
  with_reducible refine HOF.out.mono ?_
  rintro e W1 (⟨rfl,hno,_⟩ | ⟨q,rfl,-,hq,-,hb1⟩)
  ·exact absurd HR1.out hno
  have b1:=hb.trans (hb1.mono hb.size)
  have k61:=k6.below hb1 k6.lt
  have hog:=ofm_own A9 c9 C vp (M.map (·.2)) W1 (hrp.below hb1) (hPs.below hb1) hC (by rw [List.length_map];exact hM)
  rw [List.length_map] at hog
  have HOG:=hideC hog
  clear hog
  clear HOF
  go_wp2_with fail
  with_reducible refine HOG.out.mono ?_
  rintro e W2 (⟨rfl,hno,_⟩ | ⟨p,rfl,-,hp,-,hb2⟩)
  ·exact absurd HR2.out hno
  have b2:=b1.trans (hb2.mono b1.size)
  have k62:=k61.below hb2 k61.lt
  have HTR:=hideC (trans_own q R (M.map (·.1)) W2 (hq.mat.below hb2))
  clear HOG
  go_wp2_with fail
  with_reducible refine HTR.out.mono ?_
  rintro e W3 ⟨u,rfl,hu,hb3⟩
  rw [List.length_map] at hu
  have b3:=b2.trans (hb3.mono b2.size)
  have k63:=k62.below hb3 k62.lt
  have f0:=k63.frozen 0
  have f1:=k63.frozen 1
  have c0:=k63.cell 0
  have c1:=k63.cell 1
  have l6:=k63.lt
  go_wp2_with fail
  have hf:=(k63.set_ 0 (ptr u)).set_ 1 (ptr p)
  have cX:=hf.cell 0
  have cY:=hf.cell 1
  have kk:∀ (r D:Nat) (Ms:List Nat),IsMO W3 r D Ms→IsMO ((W3.setCell ⟨g6,0,none⟩ (ptr u)).setCell ⟨g6,1,none⟩ (ptr p)) r D Ms:=fun r D Ms h=>(h.put (i:=0) k63 (by decide) (by decide) (by decide) (ptr u)).put (i:=1) (k63.set_ 0 (ptr u)) (by decide) (by decide) (by decide) (ptr p)
  refine bodyPost_ret (v:=.tuple #[.agg #[ptr u,ptr p],.int .i64 0]) (by simp [results,Tryz.results33,go_sem,cX,cY]) rfl ⟨u,p,rfl,kk _ _ _ hu,kk _ _ _ (hp.below hb3),(b3.setCell (p:=⟨g6,0,none⟩) hgw _).setCell (p:=⟨g6,1,none⟩) hgw _⟩
def roleQ (D:Nat) (Us Ps:List Nat) (k:Nat):List (Nat×Nat):=(List.range k).map fun i=>(mcol D Us (i:Nat),Ps.getD i 0)
theorem roleQ_len (D:Nat) (Us Ps:List Nat) (k:Nat):(roleQ D Us Ps k).length=k:=by unfold roleQ;simp
theorem roleQ_succ (D:Nat) (Us Ps:List Nat) (k:Nat):roleQ D Us Ps (k+1)=roleQ D Us Ps k ++ [(mcol D Us (k:Nat),Ps.getD k 0)]:=by unfold roleQ;rw [List.range_succ,List.map_append];rfl
namespace Mix2
theorem list48_any (u p D C:Nat) (Us Ps:List Nat) (w:World) (hu:IsMat w u D Us) (hp:IsMat w p C Ps) (hl:Ps.length≤256) :
  Calls Tryz.prog 42 #[.agg #[ptr u,ptr p]] w fun e w'=>∃ v,e=.returned v∧OwnQ w' w.heap.size v (roleQ D Us Ps Ps.length)∧Below w.heap.size w w':=by
 obtain ⟨i0,hi0,hz0,hz1,hz2⟩:=info_parts info_con
 have hsuc:=roleQ_succ D Us Ps
 have hlen:=roleQ_len D Us Ps
 have h0:roleQ D Us Ps 0=[]:=rfl
 have HCO:=Lib.hid (fun W (k:Nat) (hb:Below w.heap.size w W)=>col_any u D Us (k:Nat) W (hu.below hb))
 have HRO:=Lib.hid (fun W (k:Nat) (hb:Below w.heap.size w W)=>by
  have q:=row_any p C Ps (k:Nat) W (hp.below hb)
  rwa [show mrow Ps ((k:Nat):Int)=Ps.getD k 0 by unfold mrow;rw [if_pos (Int.natCast_nonneg _),Int.toNat_natCast]] at q)
 have HRW:=Lib.hid (fun W (hb:Below w.heap.size w W)=>rows_any p C Ps W (hp.below hb))
 generalize roleQ D Us Ps=T at hsuc hlen h0 ⊢
 have HSU:=Lib.hid hsuc;have HLE:=Lib.hid hlen;have H0:=Lib.hid h0
 clear hsuc hlen h0 hu hp
 go_enter Tryz.func42,Tryz.ntmps42
 go_wp2_with fail
 refine absC1 fun W0 hX0 hb0 hz=>?_
 obtain ⟨X,hXe⟩:∃ g,g=w.heap.size:=⟨_,rfl⟩
 rw [← hXe] at hX0 ⊢
 clear hXe hz
 have HR0:=hideC (HRW.out W0 hb0)
 with_reducible refine HR0.out.mono ?_
 rintro e w' ⟨rfl,rfl⟩
 clear HR0 HRW
 go_wp2_with fail
 refine wp_loopF (β:=Nat×Value) (fun x f=>#[f 0,.pointer (some ⟨X,0,none⟩),.slice none 0 0,x.2,f 4,f 5,f 6,.int .i64 (Ps.length:Int),.int .i64 (x.1:Int),f 9,f 10,f 11,f 12,f 13,f 14,f 15,f 16,f 17,f 18,f 19,f 20,f 21,f 22,f 23,f 24])
  (fun x ds W=>x.1≤Ps.length∧ds=[]∧Below W0.heap.size W0 W∧OwnQ W W0.heap.size x.2 (T x.1)) (fun x=>Ps.length-x.1) (0,.slice none 0 0) rfl
  ⟨Nat.zero_le _,rfl,Below.refl _ _,by dsimp only;rw [H0.out];exact OwnQ.nil _ _⟩ ?_
 rintro ⟨k,v3⟩ f ds W ⟨hk,rfl,hbW,hown⟩
 dsimp only at hk hown ⊢
 have bW:=hb0.trans (hbW.mono hb0.size)
 have hXW:=hX0.below hbW hX0.lt
 by_cases hlt:k < Ps.length
 ·have p0:=hX0.cell 0
  have p1:=hX0.cell 1
  have hle:=HLE.out k
  have hro:=fun W hb=>HRO.out W k hb
  have hco:=fun W hb=>HCO.out W k hb
  have hsu:=HSU.out k
  obtain ⟨N2,hN2⟩:∃ s,s=Ps.getD k 0:=⟨_,rfl⟩
  obtain ⟨N1,hN1⟩:∃ s,s=mcol D Us (k:Nat):=⟨_,rfl⟩
  rw [← hN2] at hro hsu
  rw [← hN1] at hco hsu
  have HRK:=Lib.hid hro;have HCK:=Lib.hid hco;have HSK:=Lib.hid hsu
  clear hro hco hsu hN1 hN2
  obtain ⟨vs,hown0,hsets⟩:=hown
  rw [hle] at hown0
  obtain ⟨A3,c3,rfl,-⟩:=RowN.of_own hown0
  go_upto_region 5 with fail
  refine wp_mix (fun V=>Below W0.heap.size W0 V) 13 (by kernel_rfl) (by kernel_rfl) hbW.drew ?_
  have hr:=(Below.refl W.heap.size W).drew
  obtain ⟨U,hU⟩:∃ U,U=W.drew:=⟨_,rfl⟩
  rw [← hU] at hr ⊢
  clear hU
  (refine m_q 0 (v:=?_) (by kernel_rfl) rfl rfl (fun W hW=>?_) ?_;rotate_left;(go_simp;first | done | with_reducible rfl);simp only [pt1,pt3,pt4,pt5])
  (refine m_q 1 (v:=?_) (by kernel_rfl) rfl rfl (fun W hW=>?_) ?_;rotate_left;(have y0:=onB hW p0;have y1:=onB hW p1;go_simp;first | done | with_reducible rfl);simp only [pt1,pt3,pt4,pt5]);(refine m_q 2 (v:=?_) (by kernel_rfl) rfl rfl (fun W hW=>?_) ?_;rotate_left;(have y0:=onB hW p0;have y1:=onB hW p1;go_simp;first | done | with_reducible rfl);simp only [pt1,pt3,pt4,pt5]);(refine m_q 3 (v:=?_) (by kernel_rfl) rfl rfl (fun W hW=>?_) ?_;rotate_left;(have y0:=onB hW p0;have y1:=onB hW p1;go_simp;first | done | with_reducible rfl);simp only [pt1,pt3,pt4,pt5]);(refine m_q 5 (v:=?_) (by kernel_rfl) rfl rfl (fun W hW=>?_) ?_;rotate_left;(have y0:=onB hW p0;have y1:=onB hW p1;go_simp;first | done | with_reducible rfl);simp only [pt1,pt3,pt4,pt5]);(refine m_q 6 (v:=?_) (by kernel_rfl) rfl rfl (fun W hW=>?_) ?_;rotate_left;(have y0:=onB hW p0;have y1:=onB hW p1;go_simp;first | done | with_reducible rfl);simp only [pt1,pt3,pt4,pt5]);(refine m_q 7 (v:=?_) (by kernel_rfl) rfl rfl (fun W hW=>?_) ?_;rotate_left;(have y0:=onB hW p0;have y1:=onB hW p1;go_simp;first | done | with_reducible rfl);simp only [pt1,pt3,pt4,pt5])
  have H1:=hideC (HCK.out U (bW.trans (hr.mono bW.size)))
  refine m_s1 4 (by kernel_rfl) rfl ?_
  go_wp2_with fail
  with_reducible refine H1.out.mono ?_
  rintro e U1 ⟨v1,rfl,hv1,hu1⟩
  have hr1:=hr.trans (hu1.mono hr.size)
  obtain ⟨B1,d1,rfl,_⟩:=id hv1
  go_wp2_with fail
  refine m_keep (hbW.trans (hr1.mono hbW.size)) ?_
  have H2:=hideC (HRK.out U1 (bW.trans (hr1.mono bW.size)))
  refine m_s1 8 (by kernel_rfl) rfl ?_
  go_wp2_with fail
  with_reducible refine H2.out.mono ?_
  rintro e U2 ⟨v2,rfl,hv2,hu2⟩
  have hr2:=hr1.trans (hu2.mono hr1.size)
  obtain ⟨B2,d2,rfl,_⟩:=id hv2
  go_wp2_with fail
  refine m_keep (hbW.trans (hr2.mono hbW.size)) ?_
  (refine m_q 9 (v:=?_) (by kernel_rfl) rfl rfl (fun W hW=>?_) ?_;rotate_left;(go_simp;first | done | with_reducible rfl);simp only [pt1,pt3,pt4,pt5])
  refine m_s1 10 (by kernel_rfl) rfl ?_
  go_wp2_with fail
  refine absN fun U3 hB hb3 hz=>?_
  clear hz
  have hr3:=hr2.trans (hb3.mono hr2.size)
  have hlocs:=own_below hown0 hr3
  have b3:=bW.trans (hr3.mono bW.size)
  have bW3:=hbW.trans (hr3.mono hbW.size)
  have s1:=(hv1.below hu2).below hb3
  have s2:=hv2.below hb3
  have hse:=hsets.below hr3
  obtain ⟨gB,hgB⟩:∃ x,x=U2.heap.size:=⟨_,rfl⟩
  rw [← hgB] at hB ⊢
  clear hgB
  refine m_keep bW3 ?_
  have hsz:=bW3.size
  have HNW:=hideC (World.news_of_block hB)
  refine m_s1 11 (by kernel_rfl) rfl ?_
  go_wp2_with (at_builtin;refine wpList_append_own _ rfl _ _ 80 rfl (W0.heap.size) 98 i0 (.agg #[.slice none 0 0,.slice none 0 0]) 2 48 Tryz.underlying80 hi0 hz0 hz1 hz2 rfl (by decide) _ _ _ rfl (hlocs) ⟨gB,0,none⟩ 1 1 [.slice B1 (nw N1) d1,.slice B2 (nw N2) d2] rfl rfl (HNW.out) (by simp [Value.oneCell']) (by unfold maxLen;omega) (by omega) (by first | omega | (simp;omega)) ?_;intro v' w3 hown' hgrow _)
  obtain ⟨hK,hkw⟩:=OwnQ.push (s:=(N1,N2)) hse hlocs hgrow hown' hle.symm s1 s2
  rw [← HSK.out] at hK
  have b4:=bW3.grown hgrow hsz (fun q hq=>(hlocs.lt q hq).1)
  refine m_keep b4 ?_
  refine m_s1 12 (by kernel_rfl) rfl ?_
  go_wp2_with fail
  refine m_keep b4 ?_
  refine m_end (by kernel_rfl) ?_
  clear p0 p1 hown' hlocs hgrow HNW hB
  go_wp2_with fail
  exact ⟨(k+1,v'),rfl,⟨by show k+1≤Ps.length;omega,by first | rfl | trivial,b4,hK⟩,by show Ps.length-(k+1) < Ps.length-k;omega⟩
 ·obtain rfl:k=Ps.length:=by omega
  go_wp2_with fail
  go_ret
  exact ⟨v3,rfl,hown.low hb0.size,bW⟩
end Mix2
def validQ (C:Nat) (Ns:List Nat) (L:List (Nat×Nat)):Bool:=validN C Ns L.length (mtrans Ns.length (L.map (·.1)) Ns.length) C (L.map (·.2))
def Bo2 (w W:World) (g:Nat):Prop:=Blk W g 33 #[.pointer none,.pointer none]∧w.heap.size≤g
theorem Bo2.mk' {w W:World} {g:Nat} (h:Blk W g 33 #[.pointer none,.pointer none]) (hl:w.heap.size≤g):Bo2 w W g:=⟨h,hl⟩
theorem Bo2.lt {w W:World} {g:Nat} (h:Bo2 w W g):g < W.heap.size:=h.1.lt
theorem Bo2.below {w W W':World} {g:Nat} (h:Bo2 w W g) (hb:Below W.heap.size W W'):Bo2 w W' g:=⟨h.1.below hb h.1.lt,h.2⟩
theorem users_rowsQ {R:Nat} {L:List (Nat×Nat)} (hM:L.length≤4096):rowsIn L.length (mtrans R (L.map (·.1)) R):=by
 have:=rows_trans (C:=R) (Ns:=L.map (·.1)) (by rw [List.length_map];exact hM)
 rwa [List.length_map] at this
namespace Mix2
theorem good_any (g2 q base C:Nat) (Ns:List Nat) (L:List (Nat×Nat)) (v:Value) (tb:TypeId) (w:World) (h2:Blk w g2 tb #[ptr q]) (hm:IsMat w q C Ns) (hL:OwnQ w base v L) (hLl:L.length≤256) (hC:C≤256) (hR:Ns.length≤256) (hr1:rowsIn Ns.length (L.map (·.1))) (hr2:rowsIn C (L.map (·.2))) (hT:Tab w) :
  Calls Tryz.prog 43 #[v,ptr g2] w fun e w'=>e=.returned (.bool (validQ C Ns L))∧Below w.heap.size w w':=by
 obtain ⟨A,c,rfl⟩:=hL.val
 have i0:=h2.cell 0
 have HBU:=Lib.hid (fun W (hb:Below w.heap.size w W)=>buildQ_any base (.slice A L.length c) Ns.length C L W (hL.below hb) hLl hR hC hr1 hr2)
 have HRW:=Lib.hid (fun W (hb:Below w.heap.size w W)=>rows_any q C Ns W (hm.below hb))
 have HCW:=Lib.hid (fun W (hb:Below w.heap.size w W)=>cols_any q C Ns W (hm.below hb))
 go_enter Tryz.func43,Tryz.ntmps43
 go_upto_region 1 with fail
 go_cut [4,5] (fun s4 s5 wx=>∃ (g u p:Nat),s4=ptr g∧s5=.int .i64 0∧Blk wx g 33 #[ptr u,ptr p]∧IsMO wx u L.length (mtrans Ns.length (L.map (·.1)) Ns.length)∧IsMO wx p C (L.map (·.2))∧Below w.heap.size w wx)
 case first =>
  refine wp_mix (fun V=>Below w.heap.size w V) 12 (by kernel_rfl) (by kernel_rfl) (Below.refl _ _).drew ?_
  have b:=(Below.refl w.heap.size w).drew
  obtain ⟨W,hWW⟩:∃ V,V=w.drew:=⟨_,rfl⟩
  rw [← hWW] at b ⊢
  clear hWW
  (refine m_q 0 (v:=?_) (by kernel_rfl) rfl rfl (fun W hW=>?_) ?_;rotate_left;(have z0:=onB hW i0;go_simp;first | done | with_reducible rfl);simp only [pt1,pt3,pt4,pt5]);(refine m_q 2 (v:=?_) (by kernel_rfl) rfl rfl (fun W hW=>?_) ?_;rotate_left;(have z0:=onB hW i0;go_simp;first | done | with_reducible rfl);simp only [pt1,pt3,pt4,pt5]);(refine m_q 4 (v:=?_) (by kernel_rfl) rfl rfl (fun W hW=>?_) ?_;rotate_left;(have z0:=onB hW i0;go_simp;first | done | with_reducible rfl);simp only [pt1,pt3,pt4,pt5])
  clear i0
  refine m_join (β:=Nat×Nat×Nat) #[true,true,true,true,true,true,true,true,true,true,false,false] 2 (fun b f=>#[Value.slice A L.length c,ptr g2,undef,Value.bool false,ptr b.2.2,f 5,.tuple #[.agg #[ptr b.1,ptr b.2.1],.int .i64 0],ptr q,.int .i64 (Ns.length:Int),ptr q,.int .i64 (C:Int),Value.slice A L.length c,.tuple #[.agg #[ptr b.1,ptr b.2.1],.int .i64 0],.agg #[ptr b.1,ptr b.2.1],.int .i64 0,undef,undef,undef,undef,undef,undef,undef]) (fun b ds W=>ds=[]∧Below w.heap.size w W∧IsMO W b.1 L.length (mtrans Ns.length (L.map (·.1)) Ns.length)∧IsMO W b.2.1 C (L.map (·.2))∧Bo2 w W b.2.2) ?_ ?_
  ·rintro ⟨u,p,g⟩ f ds W ⟨rfl,b,T1,T2,X4⟩
   try dsimp only at b T1 T2 X4 ⊢
   have e0:=X4.1.cell 0;have e1:=X4.1.cell 1;have f0:=X4.1.frozen 0;have f1:=X4.1.frozen 1;have lg:=X4.lt
   have t1:=(T1.put (i:=0) X4.1 (by decide) (by decide) (by decide) (ptr u)).put (i:=1) (X4.1.set_ 0 (ptr u)) (by decide) (by decide) (by decide) (ptr p)
   have t2:=(T2.put (i:=0) X4.1 (by decide) (by decide) (by decide) (ptr u)).put (i:=1) (X4.1.set_ 0 (ptr u)) (by decide) (by decide) (by decide) (ptr p)
   have bb:=(b.setCell (p:=⟨g,0,none⟩) X4.2 (ptr u)).setCell (p:=⟨g,1,none⟩) X4.2 (ptr p)
   have xx:=(X4.1.set_ 0 (ptr u)).set_ 1 (ptr p)
   have TT1:=Lib.hid t1;have TT2:=Lib.hid t2;have BB:=Lib.hid bb;have XX:=Lib.hid xx
   clear t1 t2 bb xx T1 T2 b X4
   refine m_s1 10 (by kernel_rfl) rfl ?_
   go_wp2_with fail
   refine m_keep BB.out ?_
   (refine m_q 11 (v:=?_) (by kernel_rfl) rfl rfl (fun W hW=>?_) ?_;rotate_left;(go_simp;first | done | with_reducible rfl);simp only [pt1,pt3,pt4,pt5])
   refine m_end (by kernel_rfl) ?_
   go_wp2_with fail
   go_meet
   exact ⟨g,u,p,rfl,rfl,XX.out,TT1.out,TT2.out,BB.out⟩
  intro H3_9
  refine m_join (β:=Nat×Nat×Nat) #[true,true,true,true,true,true,true,true,true,false,false,false] 3 (fun b f=>#[Value.slice A L.length c,ptr g2,undef,Value.bool false,f 4,f 5,.tuple #[.agg #[ptr b.1,ptr b.2.1],.int .i64 0],ptr q,.int .i64 (Ns.length:Int),ptr q,.int .i64 (C:Int),Value.slice A L.length c,.tuple #[.agg #[ptr b.1,ptr b.2.1],.int .i64 0],.agg #[ptr b.1,ptr b.2.1],.int .i64 0,undef,undef,undef,undef,undef,undef,undef]) (fun b ds W=>ds=[]∧Below w.heap.size w W∧IsMO W b.1 L.length (mtrans Ns.length (L.map (·.1)) Ns.length)∧IsMO W b.2.1 C (L.map (·.2))) ?_ ?_
  ·rintro ⟨u,p,g⟩ f ds W ⟨rfl,b,T1,T2⟩
   try dsimp only at b T1 T2 ⊢
   refine m_s1 9 (by kernel_rfl) rfl ?_
   go_wp2_with fail
   refine absN fun wn hB hb _=>?_
   refine m_keep (b.trans (hb.mono b.size)) ?_
   exact H3_9 ⟨u,p,_⟩ _ _ _ (by kernel_rfl) rfl ⟨rfl,b.trans (hb.mono b.size),T1.below hb,T2.below hb,.mk' hB b.size⟩
  intro H3_
  refine m_join (β:=Nat×Nat×Nat) #[true,true,true,true,true,false,false,false,false,true,false,false] 6 (fun b f=>#[Value.slice A L.length c,ptr g2,undef,Value.bool false,ptr b.2.2,f 5,f 6,ptr q,.int .i64 (Ns.length:Int),ptr q,.int .i64 (C:Int),Value.slice A L.length c,f 12,f 13,f 14,undef,undef,undef,undef,undef,undef,undef]) (fun b ds W=>ds=[]∧Below w.heap.size w W∧Bo2 w W b.2.2) ?_ ?_
  ·rintro ⟨u,p,g⟩ f ds W ⟨rfl,b,X4⟩
   try dsimp only at b X4 ⊢
   refine m_s1 5 (by kernel_rfl) rfl ?_
   go_wp2_with fail
   refine (HBU.out _ b).mono ?_
   rintro e wn ⟨u,p,rfl,T1,T2,hb⟩
   have b:=b.trans (hb.mono b.size)
   go_wp2_with fail
   refine m_keep b ?_
   (refine m_q 6 (v:=?_) (by kernel_rfl) rfl rfl (fun W hW=>?_) ?_;rotate_left;(go_simp;first | done | with_reducible rfl);simp only [pt1,pt3,pt4,pt5]);(refine m_q 7 (v:=?_) (by kernel_rfl) rfl rfl (fun W hW=>?_) ?_;rotate_left;(go_simp;first | done | with_reducible rfl);simp only [pt1,pt3,pt4,pt5]);(refine m_q 8 (v:=?_) (by kernel_rfl) rfl rfl (fun W hW=>?_) ?_;rotate_left;(go_simp;first | done | with_reducible rfl);simp only [pt1,pt3,pt4,pt5])
   exact H3_9 ⟨u,p,g⟩ _ _ _ (by kernel_rfl) rfl ⟨rfl,b,T1,T2,X4.below hb⟩
  intro H2_9
  refine m_join (β:=Nat×Nat×Nat) #[true,true,true,true,true,false,false,false,false,false,false,false] 7 (fun b f=>#[Value.slice A L.length c,ptr g2,undef,Value.bool false,f 4,f 5,f 6,ptr q,.int .i64 (Ns.length:Int),ptr q,.int .i64 (C:Int),Value.slice A L.length c,f 12,f 13,f 14,undef,undef,undef,undef,undef,undef,undef]) (fun b ds W=>ds=[]∧Below w.heap.size w W) ?_ ?_
  ·rintro ⟨u,p,g⟩ f ds W ⟨rfl,b⟩
   try dsimp only at b ⊢
   refine m_s2 5 9 (by kernel_rfl) rfl rfl ?_ ?_
   ·go_wp2_with fail
    refine (HBU.out _ b).mono ?_
    rintro e wn ⟨u,p,rfl,T1,T2,hb⟩
    have b:=b.trans (hb.mono b.size)
    go_wp2_with fail
    refine m_keep b ?_
    (refine m_q 6 (v:=?_) (by kernel_rfl) rfl rfl (fun W hW=>?_) ?_;rotate_left;(go_simp;first | done | with_reducible rfl);simp only [pt1,pt3,pt4,pt5]);(refine m_q 7 (v:=?_) (by kernel_rfl) rfl rfl (fun W hW=>?_) ?_;rotate_left;(go_simp;first | done | with_reducible rfl);simp only [pt1,pt3,pt4,pt5]);(refine m_q 8 (v:=?_) (by kernel_rfl) rfl rfl (fun W hW=>?_) ?_;rotate_left;(go_simp;first | done | with_reducible rfl);simp only [pt1,pt3,pt4,pt5])
    exact H3_ ⟨u,p,0⟩ _ _ _ (by kernel_rfl) rfl ⟨rfl,b,T1,T2⟩
   ·go_wp2_with fail
    refine absN fun wn hB hb _=>?_
    refine m_keep (b.trans (hb.mono b.size)) ?_
    exact H2_9 ⟨0,0,_⟩ _ _ _ (by kernel_rfl) rfl ⟨rfl,b.trans (hb.mono b.size),.mk' hB b.size⟩
  intro H2_
  refine m_join (β:=Nat×Nat×Nat) #[true,true,true,false,true,false,false,false,false,true,false,false] 7 (fun b f=>#[Value.slice A L.length c,ptr g2,undef,Value.bool false,ptr b.2.2,f 5,f 6,ptr q,.int .i64 (Ns.length:Int),ptr q,f 10,Value.slice A L.length c,f 12,f 13,f 14,undef,undef,undef,undef,undef,undef,undef]) (fun b ds W=>ds=[]∧Below w.heap.size w W∧Bo2 w W b.2.2) ?_ ?_
  ·rintro ⟨u,p,g⟩ f ds W ⟨rfl,b,X4⟩
   try dsimp only at b X4 ⊢
   refine m_s1 3 (by kernel_rfl) rfl ?_
   go_wp2_with fail
   refine (HCW.out _ b).mono ?_
   rintro e w' ⟨rfl,rfl⟩
   have hb:=Below.refl W.heap.size W
   have b:=b.trans (hb.mono b.size)
   go_wp2_with fail
   refine m_keep b ?_
   exact H2_9 ⟨0,0,g⟩ _ _ _ (by kernel_rfl) rfl ⟨rfl,b,X4.below hb⟩
  intro H1_9
  refine m_join (β:=Nat×Nat×Nat) #[true,true,true,false,true,false,false,false,false,false,false,false] 8 (fun b f=>#[Value.slice A L.length c,ptr g2,undef,Value.bool false,f 4,f 5,f 6,ptr q,.int .i64 (Ns.length:Int),ptr q,f 10,Value.slice A L.length c,f 12,f 13,f 14,undef,undef,undef,undef,undef,undef,undef]) (fun b ds W=>ds=[]∧Below w.heap.size w W) ?_ ?_
  ·rintro ⟨u,p,g⟩ f ds W ⟨rfl,b⟩
   try dsimp only at b ⊢
   refine m_s2 3 9 (by kernel_rfl) rfl rfl ?_ ?_
   ·go_wp2_with fail
    refine (HCW.out _ b).mono ?_
    rintro e w' ⟨rfl,rfl⟩
    have hb:=Below.refl W.heap.size W
    have b:=b.trans (hb.mono b.size)
    go_wp2_with fail
    refine m_keep b ?_
    exact H2_ ⟨0,0,0⟩ _ _ _ (by kernel_rfl) rfl ⟨rfl,b⟩
   ·go_wp2_with fail
    refine absN fun wn hB hb _=>?_
    refine m_keep (b.trans (hb.mono b.size)) ?_
    exact H1_9 ⟨0,0,_⟩ _ _ _ (by kernel_rfl) rfl ⟨rfl,b.trans (hb.mono b.size),.mk' hB b.size⟩
  intro H1_
  refine m_join (β:=Nat×Nat×Nat) #[true,false,true,false,true,false,false,false,false,true,false,false] 8 (fun b f=>#[Value.slice A L.length c,ptr g2,undef,Value.bool false,ptr b.2.2,f 5,f 6,ptr q,f 8,ptr q,f 10,Value.slice A L.length c,f 12,f 13,f 14,undef,undef,undef,undef,undef,undef,undef]) (fun b ds W=>ds=[]∧Below w.heap.size w W∧Bo2 w W b.2.2) ?_ ?_
  ·rintro ⟨u,p,g⟩ f ds W ⟨rfl,b,X4⟩
   try dsimp only at b X4 ⊢
   refine m_s1 1 (by kernel_rfl) rfl ?_
   go_wp2_with fail
   refine (HRW.out _ b).mono ?_
   rintro e w' ⟨rfl,rfl⟩
   have hb:=Below.refl W.heap.size W
   have b:=b.trans (hb.mono b.size)
   go_wp2_with fail
   refine m_keep b ?_
   exact H1_9 ⟨0,0,g⟩ _ _ _ (by kernel_rfl) rfl ⟨rfl,b,X4.below hb⟩
  intro H0_9
  refine m_s2 1 9 (by kernel_rfl) rfl rfl ?_ ?_
  ·go_wp2_with fail
   refine (HRW.out _ b).mono ?_
   rintro e w' ⟨rfl,rfl⟩
   have hb:=Below.refl W.heap.size W
   have b:=b.trans (hb.mono b.size)
   go_wp2_with fail
   refine m_keep b ?_
   exact H1_ ⟨0,0,0⟩ _ _ _ (by kernel_rfl) rfl ⟨rfl,b⟩
  ·go_wp2_with fail
   refine absN fun wn hB hb _=>?_
   refine m_keep (b.trans (hb.mono b.size)) ?_
   exact H0_9 ⟨0,0,_⟩ _ _ _ (by kernel_rfl) rfl ⟨rfl,b.trans (hb.mono b.size),.mk' hB b.size⟩
 case rest =>
  obtain ⟨g,u,p,hs4,hs5,hg,hu,hp,hb⟩:=hcut
  subst hs4;subst hs5
  have k2:=h2.below hb h2.lt
  have i0:=k2.cell 0
  have e0:=hg.cell 0
  have e1:=hg.cell 1
  have hva:=valid_any q u p C L.length C Ns _ _ wc (hm.below hb) hu.mat hp.mat (users_rowsQ (by omega)) (hT.below hb)
  have HVA:=hideC hva
  clear hva
  go_wp2_with fail
  with_reducible refine HVA.out.mono ?_
  rintro e w2 ⟨rfl,hb2⟩
  go_wp2_with fail
  go_ret
  exact ⟨rfl,hb.trans (hb2.mono hb.size)⟩
end Mix2
end Go.Proofs.YtafpmkdlciioaaaGreatDoor
