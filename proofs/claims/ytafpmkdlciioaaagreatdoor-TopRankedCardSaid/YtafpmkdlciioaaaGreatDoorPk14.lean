import Derived.Test.YtafpmkdlciioaaaGreatDoorPk13
set_option maxHeartbeats 16000000
set_option maxRecDepth 100000
namespace Go.Proofs.YtafpmkdlciioaaaGreatDoor
open Go.RowKit
def KeepN (gs gp:Nat) (w w':World):Prop:=w.heap.size≤w'.heap.size∧∀ (g:Nat) t cs,t≠95→g≠gs→g≠gp→Blk w g t cs→Blk w' g t cs
section
variable {gs gp:Nat} {w w' w'':World}
theorem KeepN.trans (h:KeepN gs gp w w') (k:KeepN gs gp w' w''):KeepN gs gp w w'':=⟨Nat.le_trans h.1 k.1,fun g t cs h1 h2 h3 hb=>k.2 g t cs h1 h2 h3 (h.2 g t cs h1 h2 h3 hb)⟩
theorem KeepN.of_below (h:Below w.heap.size w w'):KeepN gs gp w w':=⟨h.size,fun _ _ _ _ _ _ hb=>hb.below h hb.lt⟩
theorem KeepN.grown {base n size:Nat} {v:Value} {xs:List Value} (hg:w.grownBy w' v.ownBlock) (h:w.ownsRow base 95 size v n xs):KeepN gs gp w w' :=
 ⟨hg.size,fun g _ _ h1 _ _ hb=>(hg.block g hb.lt (own_ne h hb h1)).trans hb⟩
theorem KeepN.set_gs (w:World) (i:Nat) (u:Value):KeepN gs gp w (w.setCell ⟨gs,i,none⟩ u):=⟨by simp [World.setCell],fun g _ _ _ h2 _ hb=>hb.far (p:=⟨gs,i,none⟩) (by simpa using h2) u⟩
theorem KeepN.set_gp (w:World) (i:Nat) (u:Value):KeepN gs gp w (w.setCell ⟨gp,i,none⟩ u):=⟨by simp [World.setCell],fun g _ _ _ _ h3 hb=>hb.far (p:=⟨gp,i,none⟩) (by simpa using h3) u⟩
theorem own_kn {base n size:Nat} {e ts tp:TypeId} {v:Value} {xs:List Value} {cs cp:Array Value} (h:w.ownsRow base e size v n xs) (k:KeepN gs gp w w') (h1:e≠95) (hs:Blk w gs ts cs) (hp:Blk w gp tp cp) (h2:e≠ts) (h3:e≠tp):w'.ownsRow base e size v n xs:=by
 refine ⟨h.1,h.2.imp id ?_⟩
 rintro ⟨g,cap,cur,hv,hg,hb,r⟩
 have hb':Blk w g e cur:=hb
 exact ⟨g,cap,cur,hv,hg,k.2 g e cur h1 (fun e'=>by subst e';exact hb'.ne_ hs h2 rfl) (fun e'=>by subst e';exact hb'.ne_ hp h3 rfl) hb',r⟩
theorem KeepN.keep {ts tp:TypeId} {cs cp:Array Value} (k:KeepN gs gp w w') (hs:Blk w gs ts cs) (hp:Blk w gp tp cp) (h2:146≠ts) (h3:146≠tp):KeepW w w' :=
 ⟨k.1,fun g cs' hb=>k.2 g _ cs' (by decide) (fun e=>by subst e;exact hb.ne_ hs h2 rfl) (fun e=>by subst e;exact hb.ne_ hp h3 rfl) hb⟩
theorem OwnO.kn {base:Nat} {v:Value} {Os:List Nat} {cs cp:Array Value} (h:OwnO w base v Os) (k:KeepN gs gp w w') (hs:Blk w gs 85 cs) (hp:Blk w gp 91 cp):OwnO w' base v Os:=by
 obtain ⟨vs,h1,h2⟩:=h
 exact ⟨vs,own_kn h1 k (by decide) hs hp (by decide) (by decide),h2.keep (k.keep hs hp (by decide) (by decide))⟩
theorem OwnK.kn {base:Nat} {v:Value} {C:Nat} {Ns L:List Nat} {cs cp:Array Value} (h:OwnK w base v C Ns L) (k:KeepN gs gp w w') (hs:Blk w gs 85 cs) (hp:Blk w gp 91 cp):OwnK w' base v C Ns L:=by
 obtain ⟨vs,h1,h2⟩:=h
 exact ⟨vs,own_kn h1 k (by decide) hs hp (by decide) (by decide),h2.keep (k.keep hs hp (by decide) (by decide))⟩
theorem OwnX.kn {base:Nat} {v:Value} {ks:List Nat} {cs cp:Array Value} (h:OwnX w base v ks) (k:KeepN gs gp w w') (hs:Blk w gs 85 cs) (hp:Blk w gp 91 cp):OwnX w' base v ks:=own_kn h k (by decide) hs hp (by decide) (by decide)
end
section
variable {gs:Nat} {w w':World} {base:Nat} {v:Value} {P:List Nd} {vss:List (List Value)} {vs:List Value} {x:Nd}
theorem GN.far {g i:Nat} {t:TypeId} {cs:Array Value} (h:GN w base v P vss) (hB:Blk w g t cs) (h1:t≠95) (h2:t≠3) (h3:t≠117) (u:Value):GN (w.setCell ⟨g,i,none⟩ u) base v P vss:=by
 refine ⟨h.len,fun k x hx=>?_,h.dist,ownsRow_setCell_other h.own (fun e=>own_ne h.own hB h1 e.symm) u⟩
 obtain ⟨vs,e,v3,v4,e2,q3,q4⟩:=h.nodes k x hx
 exact ⟨vs,e,v3,v4,e2,ownsRow_setCell_other q3 (fun e=>own_ne q3 hB h2 e.symm) u,ownsRow_setCell_other q4 (fun e=>own_ne q4 hB h3 e.symm) u⟩
theorem GN.val (h:GN w base v P vss):∃ A c,v=.slice A P.length c:=by
 obtain ⟨A,c,e,_⟩:=RowN.of_own h.own
 exact ⟨A,c,e⟩
end
theorem IsSr.kn {w w':World} {gs gp base q C:Nat} {vL:Value} {Ns L:List Nat} {nd nd':Int} {cp:Array Value} (h:IsSr w gs base vL q C Ns L nd) (k:KeepN gs gp w w') (hp:Blk w gp 91 cp) (hB:Blk w' gs 85 #[ptr q,vL,.int .i64 nd']):IsSr w' gs base vL q C Ns L nd' :=
 ⟨hB,h.2.kn k h.1 hp⟩
theorem OwnO.setT {W:World} {base g i:Nat} {v:Value} {Os:List Nat} {t:TypeId} {cs:Array Value} (h:OwnO W base v Os) (hB:Blk W g t cs) (ht:t≠58) (ht2:146≠t) (u:Value):OwnO (W.setCell ⟨g,i,none⟩ u) base v Os:=by
 obtain ⟨vs,h1,h2⟩:=h
 exact ⟨vs,ownsRow_setCell_other h1 (a:=⟨g,i,none⟩) (fun e=>own_ne h1 hB ht e.symm) u,h2.keep (KeepW.setCell (p:=⟨g,i,none⟩) hB ht2 u)⟩
theorem OwnK.setT {W:World} {base g i:Nat} {v:Value} {C:Nat} {Ns L:List Nat} {t:TypeId} {cs:Array Value} (h:OwnK W base v C Ns L) (hB:Blk W g t cs) (ht:t≠98) (ht2:146≠t) (u:Value):OwnK (W.setCell ⟨g,i,none⟩ u) base v C Ns L:=h.put hB ht ht2 i u
theorem OwnK.grownT {W W':World} {base base2 size2 m:Nat} {e2:TypeId} {v u:Value} {C:Nat} {Ns L:List Nat} {ys:List Value} (h:OwnK W base v C Ns L) (hu:W.ownsRow base2 e2 size2 u m ys) (hne:98≠e2) (hne2:146≠e2) (hg:W.grownBy W' u.ownBlock):OwnK W' base v C Ns L:=by
 obtain ⟨vs,h1,h2⟩:=h
 exact ⟨vs,own_grownT h1 hu hne hg,h2.keep (KeepW.grown hg hu hne2)⟩
theorem KidsQ.len {R:Nat→Nat→List Nd→Prop}:∀ {l:List Nat} {off:Nat} {K:List Nd} {ch:List Int},KidsQ R off l K ch→ch.length=l.length
 | [],_,_,_,h=>by rw [h.2];rfl
 | _ :: l,_,_,_,h=>by
  obtain ⟨_,_,_,_,h2,_,rfl⟩:=h
  rw [List.length_cons,h2.len,List.length_cons]
theorem KeepN.kid {gs gp:Nat} {w W W':World} {u:Value} (k:KeepN gs gp w W) (hg:W.grownBy W' u.ownBlock) (hne:∀ g,u.ownBlock=some g→w.heap.size≤g):KeepN gs gp w W' :=
 ⟨Nat.le_trans k.1 hg.size,fun g t cs h1 h2 h3 hb=>by
  have hW:=k.2 g t cs h1 h2 h3 hb
  exact (hg.block g hW.lt (fun e=>by have:=hne g e.symm;have:=hb.lt;omega)).trans hW⟩
theorem KeepN.setN {gs gp g0 i:Nat} {W:World} {cs:Array Value} (hB:Blk W g0 95 cs) (u:Value):KeepN gs gp W (W.setCell ⟨g0,i,none⟩ u) :=
 ⟨by simp [World.setCell],fun g t cs' h1 _ _ hb=>hb.far (p:=⟨g0,i,none⟩) (by show g≠g0;intro e;subst e;exact hb.ne_ hB h1 rfl) u⟩
def ChOK (m:Nat) (u:Value) (vs:List Value):Prop:=∀ g,chG vs=some g→m≤g∧u.ownBlock≠some g
theorem grow_rd {P nd TB ndt t K:Nat} (hP:P+(1+8*TB)≤5000) (hnd:nd+(1+8*TB)≤1000000) (ht:t < 8) (h:ndt≤nd+1+t*TB) (hK:K≤t*TB):P+1+K+TB≤5000∧ndt+TB≤1000000∧(∀ nd',nd'≤ndt+TB→nd'≤nd+1+(t+1)*TB)∧∀ Q,Q≤TB→K+Q≤(t+1)*TB:=by
 have h1:(t+1)*TB≤8*TB:=Nat.mul_le_mul_right _ ht
 rw [Nat.add_mul,Nat.one_mul] at h1 ⊢
 refine ⟨by omega,by omega,fun nd' h2=>by omega,fun Q h2=>by omega⟩
def Q_ar (P K Q:Nat):Prop:=P < Q∧Q≤P+1+K
theorem grow_end {nd TB ndt t K:Nat} (ht:t≤8) (h:ndt≤nd+1+t*TB) (hK:K≤t*TB):ndt≤nd+(1+8*TB)∧K+1≤1+8*TB:=by
 have h1:t*TB≤8*TB:=Nat.mul_le_mul_right _ ht
 constructor <;> omega
theorem grow_ar {P nd T:Nat} (hP:P+T≤5000) (hnd:nd+T≤1000000) (hT:1≤T):¬ (5000:Int) < (P:Int)∧¬ (1000000:Int) < (nd:Int)+1∧wrap64 ((nd:Int)+1)=(nd:Int)+1∧P≤4999∧decide ((5000:Int) < (P:Int))=false∧decide ((1000000:Int) < (nd:Int)+1)=false:=by
 have h1:¬ (5000:Int) < (P:Int):=by omega
 have h2:=nd_ok (nd:=nd) (by omega)
 exact ⟨h1,h2,IntWalk.wrap64_in _ ⟨by omega,by omega⟩,by omega,decide_eq_false h1,decide_eq_false h2⟩
namespace Mix2
theorem growc_any (gs gp base baseL:Nat) (vL:Value) (q C:Nat) (Ns L:List Nat) (w0:World) (hg:w0.heap.size≤gs) (hgp:w0.heap.size≤gp) (hbase:w0.heap.size≤base) (hgne:gs≠gp) (hT0:Tab w0) (hM0:IsMat w0 q C Ns) (hR:Ns.length≤5) (hC:C≤5) (hin:rowsIn C Ns) (hL:L.length≤4096) (hcl:∀ s∈L,cloN C Ns s=s) (hfew:Few C Ns L) :
  ∀ (b:Nat) (bi:Int) (nd:Nat) (v:Value) (P:List Nd) (vss:List (List Value)) (Os:List Nat) (base':Nat) (vo:Value) (w:World),bi=b→b≤4096→P.length+callsT b≤5000→nd+callsT b≤1000000→Below w0.heap.size w0 w→base≤w.heap.size→IsSr w gs baseL vL q C Ns L nd→Blk w gp 91 #[ptr gs,v]→GN w base v P vss→OwnO w base' vo Os→Under Ns Os→¬ CovK C Ns L 0 b (cellsOf Os) →
   Calls Tryz.prog 32 #[ptr gp,vo,.int .i64 bi] w fun e w'=>e=.returned (.tuple #[])∧∃ (Q:List Nd) (vss2:List (List Value)) (v':Value) (nd':Nat),GN w' base v' (P ++ Q) (vss ++ vss2)∧(∀ vs∈vss2,∀ g,chG vs=some g→w.heap.size≤g)∧Blk w' gp 91 #[ptr gs,v']∧IsSr w' gs baseL vL q C Ns L nd'∧nd'≤nd+callsT b∧GQ C Ns L b P.length (cellsOf Os) Q∧Q.length≤callsT b∧KeepN gs gp w w'∧Below w0.heap.size w0 w':=by
 obtain ⟨i0,hi0,hz0,hz1,hz2⟩:=info_parts info_knode
 intro b
 induction b with
 | zero =>
  intro bi nd v P vss Os base' vo w hbi hb hPl hnd hw0 hbw hS hBp hN hO hU hcov
  have hTe:callsT 0=1:=rfl
  rw [hTe] at hPl hnd ⊢
  clear hTe
  obtain ⟨-,-,hw1,hP4,hn5',hn6'⟩:=grow_ar hPl hnd (Nat.le_refl 1)
  have hne:=cov_ne hcov
  have hub:=under_cells hU
  have hfp:=fool_pos hin hub hne
  have hcs:=cells_small hR hC hin hU
  have hO5:Os.length≤5:=by rw [hU.1];exact hR
  have hl:Ns.length≤4096:=Nat.le_trans hR (by decide)
  have HVL:=Lib.hid hN.len
  have HCV:=Lib.hid hcov;have HNE:=Lib.hid hne;have HUB:=Lib.hid hub;have HU:=Lib.hid hU;have HFP:=Lib.hid hfp;have HCS:=Lib.hid hcs;have HBI:=Lib.hid hbi;have HCL:=Lib.hid hcl;have HFW:=Lib.hid hfew;have HIN:=Lib.hid hin;have HPL:=Lib.hid hPl;have HND:=Lib.hid hnd
  clear hcov hne hub hU hfp hcs hcl hfew hin hPl hnd hbi
  obtain ⟨Ap,cp,rfl⟩:=hN.val
  obtain ⟨A,c,rfl⟩:=hO.val
  obtain ⟨hB,hK⟩:=id hS
  have p0:=hBp.cell 0
  have p1:=hBp.cell 1
  have s2:=hB.cell 2
  have f2:=hB.frozen 2
  have l2:=hB.lt
  have np:=hBp.lt
  go_enter Tryz.func32,Tryz.ntmps32
  go_upto_region 3 with fail
  obtain ⟨W1,hW1⟩:∃ V,V=w.setCell ⟨gs,2,none⟩ (.int .i64 ((nd:Int)+1)):=⟨_,rfl⟩
  have hS1:IsSr W1 gs baseL vL q C Ns L ((nd:Int)+1):=by rw [hW1];exact hS.node _
  have hBp1:Blk W1 gp 91 #[ptr gs,.slice Ap P.length cp]:=by rw [hW1];exact hBp.far (p:=⟨gs,2,none⟩) (by simpa using Ne.symm hgne) _
  have hN1:GN W1 base (.slice Ap P.length cp) P vss:=by rw [hW1];exact hN.far hB (by decide) (by decide) (by decide) _
  have hO1:OwnO W1 base' (.slice A Os.length c) Os:=by rw [hW1];exact hO.but hB (by decide) (by decide) (But.setCell w ⟨gs,2,none⟩ _)
  have kn1:KeepN gs gp w W1:=by rw [hW1];exact KeepN.set_gs w 2 _
  have hw1':Below w0.heap.size w0 W1:=by rw [hW1];exact hw0.setCell (p:=⟨gs,2,none⟩) hg _
  rw [← hW1]
  clear hW1 hS hBp hN hO p0 p1 s2 f2 l2 np hw0 hK hB
  have hsz1:w.heap.size≤W1.heap.size:=kn1.1
  have p0:=hBp1.cell 0
  have p1:=hBp1.cell 1
  have hfl:=MixI.fooling_any gs baseL base' vL q C Ns L Os _ _ W1 (hM0.below hw1') hS1 hO1 (by omega) HCS.out (hT0.below hw1')
  obtain ⟨F,hF⟩:∃ F,F=foolL C Ns (cellsOf Os):=⟨_,rfl⟩
  rw [← hF] at hfl
  have HFL:=hideC hfl;have HF:=Lib.hid hF
  clear hfl hF
  go_wp2_with fail
  with_reducible refine HFL.out.mono ?_
  rintro e W2 ⟨v7,rfl,hX,hb2⟩
  have hS2:=hS1.below hb2
  have hBp2:=hBp1.below hb2 hBp1.lt
  have hN2:=hN1.below hb2
  have hO2:=hO1.below hb2
  have kn2:=kn1.trans (KeepN.of_below hb2)
  have hw2':=hw1'.trans (hb2.mono hw1'.size)
  have hsz2:w.heap.size≤W2.heap.size:=kn2.1
  have hXb:OwnP W2 w.heap.size v7 (cz F):=hX.low hsz1
  clear hS1 hBp1 hN1 hO1 kn1 hw1' hX hb2 p0 p1 HFL
  obtain ⟨A7,c7,rfl⟩:∃ A c,v7=.slice A (cz F).length c:=by obtain ⟨A,c,e,_⟩:=RowN.of_own hXb;exact ⟨A,c,e⟩
  have p0:=hBp2.cell 0
  have p1:=hBp2.cell 1
  have hbi:bi=0:=HBI.out
  subst hbi
  have hFp:0 < F.length:=by rw [HF.out];exact HFP.out
  have hd:(0:Int) < ((cz F).length:Int):=by rw [cz_len];omega
  have hd2:decide ((0:Int) < ((cz F).length:Int))=true:=decide_eq_true hd
  have HFP2:=Lib.hid hFp
  have HCG:=Lib.hid (show CellsG C Ns 0 (cellsOf Os) F by unfold CellsG;rw [if_neg (fun h=>absurd h.1 (by decide))];exact HF.out)
  have hF0:¬ (cz F).length=0:=by rw [cz_len];omega
  clear hd hFp
  have hba:Below W2.heap.size W2 (W2.alloc (.cells #[.int .u8 2,.int .i64 0,.int .i64 0,.slice none 0 0,.slice A7 (cz F).length c7] 95)):=(Below.refl _ _).alloc (Nat.le_refl _) _
  have hN4:=hN2.below hba
  have hlocs:=hN4.own
  have hBp4:=hBp2.below hba hBp2.lt
  have hX4:=hXb.below hba
  have hsz:base≤W2.heap.size:=Nat.le_trans hbw hsz2
  have kn4:=kn2.trans (KeepN.of_below hba)
  have hw4':=hw2'.trans (hba.mono hw2'.size)
  have hS4:=hS2.below hba
  have HN4:=Lib.hid hN4
  clear hN4 hN2 hXb
  have l4:=hBp2.lt
  go_wp2_with (at_builtin;refine wpList_append_own _ rfl _ _ 34 rfl (base) 95 i0 (.agg #[.int .u8 0,.int .i64 0,.int .i64 0,.slice none 0 0,.slice none 0 0]) 5 72 Tryz.underlying34 hi0 hz0 hz1 hz2 rfl (by decide) _ _ _ rfl (hlocs) ⟨W2.heap.size,0,none⟩ 1 1 [.int .u8 2,.int .i64 0,.int .i64 0,.slice none 0 0,.slice A7 (cz F).length c7] rfl rfl (World.news_of_block (Blk.new _ _ _)) (by simp [Value.oneCell']) (by unfold maxLen;omega) (by omega) (by first | omega | (simp;omega)) ?_;intro v' w3 hown' hgrow _;obtain ⟨g9,cap9,rfl⟩:=own_succP hown';have hBp5:=hBp4.grown hgrow (own_ne hlocs hBp4 (by decide));have p5:=hBp5.cell 1;have f5:=hBp5.frozen 1;have l5:=hBp5.lt)
  have hkg:=hgrow.size
  have kn5:=kn4.trans ((KeepN.grown hgrow hlocs).trans (KeepN.set_gp w3 1 (.slice (some ⟨g9,0,none⟩) (P.length+1) cap9)))
  have hw5':=(hw4'.grown hgrow hw4'.size (fun q hq=>Nat.le_trans hbase (hlocs.lt q hq).1)).setCell (p:=⟨gp,1,none⟩) hgp (.slice (some ⟨g9,0,none⟩) (P.length+1) cap9)
  have hS5:=hS4.kn ((KeepN.grown hgrow hlocs).trans (KeepN.set_gp w3 1 (.slice (some ⟨g9,0,none⟩) (P.length+1) cap9))) hBp4 ((hS4.1.grown hgrow (own_ne hlocs hS4.1 (by decide))).far (p:=⟨gp,1,none⟩) (by simpa using hgne) _)
  have hN5:=(HN4.out.app (x:=⟨2,0,0,[],cz F⟩) ⟨_,_,rfl,World.ownsRow_nil _ _ _ _,hX4.low hbw⟩ rfl hgrow hown').far (i:=1) hBp5 (by decide) (by decide) (by decide) (.slice (some ⟨g9,0,none⟩) (P.length+1) cap9)
  (try simp only [Exit.inBlock,Exit.then])
  refine bodyPost_ret (results_none rfl _ _ _) rfl ⟨rfl,_,_,_,nd+1,hN5,fun vs hvs g hg=>?_,hBp5.set_ 1 _,hS5,Nat.le_refl _,⟨F,HCG.out,HFP2.out,rfl⟩,Nat.le_refl 1,kn5,hw5'⟩
  rw [List.mem_singleton.1 hvs] at hg
  cases hg
 | succ b ih =>
  intro bi nd v P vss Os base' vo w hbi hb hPl hnd hw0 hbw hS hBp hN hO hU hcov
  have hT1:=callsT_pos b
  have hTe:callsT (b+1)=1+8*callsT b:=rfl
  rw [hTe] at hPl hnd ⊢
  obtain ⟨TB,hTB⟩:∃ x,x=callsT b:=⟨_,rfl⟩
  rw [← hTB] at hPl hnd hT1 ih ⊢
  clear hTB hTe
  have HIH:=Lib.hid ih
  clear ih
  obtain ⟨-,-,hw1,hP4,hn5',hn6'⟩:=grow_ar hPl hnd (Nat.le_add_right 1 _)
  have hne:=cov_ne hcov
  have hub:=under_cells hU
  have hfp:=fool_pos hin hub hne
  have hcs:=cells_small hR hC hin hU
  have hO5:Os.length≤5:=by rw [hU.1];exact hR
  have hl:Ns.length≤4096:=Nat.le_trans hR (by decide)
  have HVL:=Lib.hid hN.len
  have HCV:=Lib.hid hcov;have HNE:=Lib.hid hne;have HUB:=Lib.hid hub;have HU:=Lib.hid hU;have HFP:=Lib.hid hfp;have HCS:=Lib.hid hcs;have HBI:=Lib.hid hbi;have HCL:=Lib.hid hcl;have HFW:=Lib.hid hfew;have HIN:=Lib.hid hin;have HPL:=Lib.hid hPl;have HND:=Lib.hid hnd
  clear hcov hne hub hU hfp hcs hcl hfew hin hPl hnd hbi
  obtain ⟨Ap,cp,rfl⟩:=hN.val
  obtain ⟨A,c,rfl⟩:=hO.val
  obtain ⟨hB,hK⟩:=id hS
  have p0:=hBp.cell 0
  have p1:=hBp.cell 1
  have s2:=hB.cell 2
  have f2:=hB.frozen 2
  have l2:=hB.lt
  have np:=hBp.lt
  go_enter Tryz.func32,Tryz.ntmps32
  go_upto_region 3 with fail
  obtain ⟨W1,hW1⟩:∃ V,V=w.setCell ⟨gs,2,none⟩ (.int .i64 ((nd:Int)+1)):=⟨_,rfl⟩
  have hS1:IsSr W1 gs baseL vL q C Ns L ((nd:Int)+1):=by rw [hW1];exact hS.node _
  have hBp1:Blk W1 gp 91 #[ptr gs,.slice Ap P.length cp]:=by rw [hW1];exact hBp.far (p:=⟨gs,2,none⟩) (by simpa using Ne.symm hgne) _
  have hN1:GN W1 base (.slice Ap P.length cp) P vss:=by rw [hW1];exact hN.far hB (by decide) (by decide) (by decide) _
  have hO1:OwnO W1 base' (.slice A Os.length c) Os:=by rw [hW1];exact hO.but hB (by decide) (by decide) (But.setCell w ⟨gs,2,none⟩ _)
  have kn1:KeepN gs gp w W1:=by rw [hW1];exact KeepN.set_gs w 2 _
  have hw1':Below w0.heap.size w0 W1:=by rw [hW1];exact hw0.setCell (p:=⟨gs,2,none⟩) hg _
  rw [← hW1]
  clear hW1 hS hBp hN hO p0 p1 s2 f2 l2 np hw0 hK hB
  have hsz1:w.heap.size≤W1.heap.size:=kn1.1
  have p0:=hBp1.cell 0
  have p1:=hBp1.cell 1
  have hfl:=MixI.fooling_any gs baseL base' vL q C Ns L Os _ _ W1 (hM0.below hw1') hS1 hO1 (by omega) HCS.out (hT0.below hw1')
  obtain ⟨F,hF⟩:∃ F,F=foolL C Ns (cellsOf Os):=⟨_,rfl⟩
  rw [← hF] at hfl
  have HFL:=hideC hfl;have HF:=Lib.hid hF
  clear hfl hF
  go_wp2_with fail
  with_reducible refine HFL.out.mono ?_
  rintro e W2 ⟨v7,rfl,hX,hb2⟩
  have hS2:=hS1.below hb2
  have hBp2:=hBp1.below hb2 hBp1.lt
  have hN2:=hN1.below hb2
  have hO2:=hO1.below hb2
  have kn2:=kn1.trans (KeepN.of_below hb2)
  have hw2':=hw1'.trans (hb2.mono hw1'.size)
  have hsz2:w.heap.size≤W2.heap.size:=kn2.1
  have hXb:OwnP W2 w.heap.size v7 (cz F):=hX.low hsz1
  clear hS1 hBp1 hN1 hO1 kn1 hw1' hX hb2 p0 p1 HFL
  obtain ⟨A7,c7,rfl⟩:∃ A c,v7=.slice A (cz F).length c:=by obtain ⟨A,c,e,_⟩:=RowN.of_own hXb;exact ⟨A,c,e⟩
  have p0:=hBp2.cell 0
  have p1:=hBp2.cell 1
  obtain ⟨cb,hcb⟩:∃ cb,cb=decide (b=0∧F.length < 2):=⟨_,rfl⟩
  have HCB:=Lib.hid hcb
  clear hcb
  go_upto_region 4 with fail
  go_cut [52] (fun s wx=>s=.bool cb∧wx=W2)
  case first =>
   by_cases hb0:b=0
   ·have hbi:bi=1:=by rw [HBI.out,hb0];rfl
    subst hbi
    by_cases hF2:F.length < 2
    ·have hcb:=HCB.out
     rw [decide_eq_true ⟨hb0,hF2⟩] at hcb
     have hF3:(cz F).length < 2:=by rw [cz_len];exact hF2
     have HC2:=Lib.hid hcb
     have hd:decide (((cz F).length:Int) < 2)=true:=decide_eq_true (by omega)
     clear hb0 hF2 hcb
     go_wp2_with fail
     go_meet
     rw [HC2.out]
     exact ⟨by first | rfl | rw [hd],rfl⟩
    ·have hcb:=HCB.out
     rw [decide_eq_false (fun h=>hF2 h.2)] at hcb
     have hF3:¬ (cz F).length < 2:=by rw [cz_len];exact hF2
     have HC2:=Lib.hid hcb
     have hd:decide (((cz F).length:Int) < 2)=false:=decide_eq_false (by omega)
     clear hb0 hF2 hcb
     go_wp2_with fail
     go_meet
     rw [HC2.out]
     exact ⟨by first | rfl | rw [hd],rfl⟩
   ·have hcb:=HCB.out
    rw [decide_eq_false (fun h=>hb0 h.1)] at hcb
    have hbi:(bi == 1)=false:=by rw [beq_eq_false_iff_ne,HBI.out];omega
    have hbi2:¬ bi=1:=by rw [HBI.out];omega
    have HC2:=Lib.hid hcb
    clear hb0 hcb
    go_wp2_with fail
    go_meet
    rw [HC2.out]
    exact ⟨rfl,rfl⟩
  case rest =>
  obtain ⟨hs52,hwc⟩:=hcut
  subst hs52
  rw [hwc]
  clear hwc
  go_upto_if 52 with fail
  go_cut [7] (fun s wx=>∃ A c cells,s=.slice A (cz cells).length c∧CellsG C Ns (b+1) (cellsOf Os) cells∧OwnP wx w.heap.size s (cz cells)∧Below W2.heap.size W2 wx)
  case first =>
   cases cb with
   | true =>
    have hcb:=of_decide_eq_true HCB.out.symm
    have hPA:=pair_any gs baseL base' vL q C Ns L Os _ _ W2 (hM0.below hw2') hS2 hO2 (Nat.le_trans hO5 (by decide)) (hT0.below hw2')
    have HPA:=hideC hPA
    have HCG:=Lib.hid (fun l (h:PairOK C Ns (cellsOf Os) l)=>(show CellsG C Ns (b+1) (cellsOf Os) l by unfold CellsG;rw [← HF.out,if_pos ⟨by omega,hcb.2⟩];exact h))
    clear hPA hcb
    go_wp2_with fail
    with_reducible refine HPA.out.mono ?_
    rintro e W3 ⟨v8,l8,rfl,hp8,hX8,hb3⟩
    obtain ⟨A8,c8,rfl⟩:∃ A c,v8=.slice A (cz l8).length c:=by obtain ⟨A,c,e,_⟩:=RowN.of_own hX8;exact ⟨A,c,e⟩
    go_wp2_with fail
    go_meet
    exact ⟨A8,c8,l8,rfl,HCG.out l8 hp8,hX8.low hsz2,hb3⟩
   | false =>
    have hcb:=of_decide_eq_false HCB.out.symm
    have HCG:=Lib.hid (show CellsG C Ns (b+1) (cellsOf Os) F by unfold CellsG;rw [← HF.out,if_neg (fun h=>hcb ⟨by omega,h.2⟩)])
    clear hcb
    go_wp2_with fail
    go_meet
    exact ⟨A7,c7,F,rfl,HCG.out,hXb,Below.refl _ _⟩
  case rest =>
  obtain ⟨A9,c9,cells,hs7,hCG,hXc,hb3⟩:=hcut
  subst hs7
  have hS3:=hS2.below hb3
  have hBp3:=hBp2.below hb3 hBp2.lt
  have hN3:=hN2.below hb3
  have hO3:=hO2.below hb3
  have kn3:=kn2.trans (KeepN.of_below hb3)
  have hw3':=hw2'.trans (hb3.mono hw2'.size)
  have hsz3:w.heap.size≤wc.heap.size:=kn3.1
  have HCG:=Lib.hid hCG
  obtain ⟨W3,hW3⟩:∃ V,V=wc:=⟨_,rfl⟩
  rw [← hW3] at hS3 hBp3 hN3 hO3 kn3 hw3' hsz3 hXc ⊢
  clear hW3 hS2 hBp2 hN2 hO2 kn2 hw2' hXb hCG hb3 p0 p1 HCB hsz2
  have p0:=hBp3.cell 0
  have p1:=hBp3.cell 1
  by_cases hlt:b+1 < cells.length
  ·have hd:bi < ((cz cells).length:Int):=by rw [HBI.out,cz_len];omega
   have hd2:decide (bi < ((cz cells).length:Int))=true:=decide_eq_true hd
   clear hd
   have HLT:=Lib.hid hlt
   clear hlt
   have hba:Below W3.heap.size W3 (W3.alloc (.cells #[.int .u8 2,.int .i64 0,.int .i64 0,.slice none 0 0,.slice A9 (cz cells).length c9] 95)):=(Below.refl _ _).alloc (Nat.le_refl _) _
   have hN4:=hN3.below hba
   have hlocs:=hN4.own
   have hBp4:=hBp3.below hba hBp3.lt
   have hX4:=hXc.below hba
   have hsz:base≤W3.heap.size:=Nat.le_trans hbw hsz3
   have kn4:=kn3.trans (KeepN.of_below hba)
   have hw4':=hw3'.trans (hba.mono hw3'.size)
   have hS4:=hS3.below hba
   have HN4:=Lib.hid hN4
   clear hN4 hN3 hXc
   have l4:=hBp3.lt
   go_wp2_with (at_builtin;refine wpList_append_own _ rfl _ _ 34 rfl (base) 95 i0 (.agg #[.int .u8 0,.int .i64 0,.int .i64 0,.slice none 0 0,.slice none 0 0]) 5 72 Tryz.underlying34 hi0 hz0 hz1 hz2 rfl (by decide) _ _ _ rfl (hlocs) ⟨W3.heap.size,0,none⟩ 1 1 [.int .u8 2,.int .i64 0,.int .i64 0,.slice none 0 0,.slice A9 (cz cells).length c9] rfl rfl (World.news_of_block (Blk.new _ _ _)) (by simp [Value.oneCell']) (by unfold maxLen;omega) (by omega) (by first | omega | (simp;omega)) ?_;intro v' w3 hown' hgrow _;obtain ⟨g9,cap9,rfl⟩:=own_succP hown';have hBp5:=hBp4.grown hgrow (own_ne hlocs hBp4 (by decide));have p5:=hBp5.cell 1;have f5:=hBp5.frozen 1;have l5:=hBp5.lt)
   have hkg:=hgrow.size
   have kn5:=kn4.trans ((KeepN.grown hgrow hlocs).trans (KeepN.set_gp w3 1 (.slice (some ⟨g9,0,none⟩) (P.length+1) cap9)))
   have hw5':=(hw4'.grown hgrow hw4'.size (fun q hq=>Nat.le_trans hbase (hlocs.lt q hq).1)).setCell (p:=⟨gp,1,none⟩) hgp (.slice (some ⟨g9,0,none⟩) (P.length+1) cap9)
   have hS5:=hS4.kn ((KeepN.grown hgrow hlocs).trans (KeepN.set_gp w3 1 (.slice (some ⟨g9,0,none⟩) (P.length+1) cap9))) hBp4 ((hS4.1.grown hgrow (own_ne hlocs hS4.1 (by decide))).far (p:=⟨gp,1,none⟩) (by simpa using hgne) _)
   have hN5:=(HN4.out.app (x:=⟨2,0,0,[],cz cells⟩) ⟨_,_,rfl,World.ownsRow_nil _ _ _ _,hX4.low hbw⟩ rfl hgrow hown').far (i:=1) hBp5 (by decide) (by decide) (by decide) (.slice (some ⟨g9,0,none⟩) (P.length+1) cap9)
   (try simp only [Exit.inBlock,Exit.then])
   refine bodyPost_ret (results_none rfl _ _ _) rfl ⟨rfl,_,_,_,nd+1,hN5,fun vs hvs g hg=>?_,hBp5.set_ 1 _,hS5,Nat.add_le_add_left (Nat.le_add_right 1 _) _,⟨cells,HCG.out,.inl ⟨HLT.out,rfl⟩⟩,Nat.le_add_right 1 _,kn5,hw5'⟩
   rw [List.mem_singleton.1 hvs] at hg
   cases hg
  ·have hd:¬ bi < ((cz cells).length:Int):=by rw [HBI.out,cz_len];omega
   have hd2:decide (bi < ((cz cells).length:Int))=false:=decide_eq_false hd
   clear hd
   have HLT:=Lib.hid hlt
   clear hlt
   have hbo:=bound_any gs baseL base' vL q C Ns L Os _ _ (b+1) W3 hS3 hO3 HU.out.1 hl (Nat.le_trans hC (by decide)) hL HCL.out hb (hT0.below hw3')
   rw [← HBI.out] at hbo
   have HBO:=hideC hbo
   clear hbo
   go_wp2_with fail
   with_reducible refine HBO.out.mono ?_
   rintro e W4 ⟨rfl,hb4⟩
   replace hS3:=hS3.below hb4
   replace hBp3:=hBp3.below hb4 hBp3.lt
   replace hN3:=hN3.below hb4
   replace hO3:=hO3.below hb4
   replace kn3:=kn3.trans (KeepN.of_below hb4)
   replace hw3':=hw3'.trans (hb4.mono hw3'.size)
   replace hsz3:=Nat.le_trans hsz3 hb4.size
   clear hb4 HBO p0 p1 hXc
   have p0:=hBp3.cell 0
   have p1:=hBp3.cell 1
   by_cases hgn:(b+1)*gainM C Ns L (cellsOf Os) < (cellsOf Os).length
   ·have HGN:=Lib.hid hgn
    rw [decide_eq_true hgn]
    clear hgn
    have hba:Below W4.heap.size W4 (W4.alloc (.cells #[.int .u8 3,.int .i64 0,.int .i64 0,.slice none 0 0,.slice none 0 0] 95)):=(Below.refl _ _).alloc (Nat.le_refl _) _
    have hN4:=hN3.below hba
    have hlocs:=hN4.own
    have hBp4:=hBp3.below hba hBp3.lt
    have hsz:base≤W4.heap.size:=Nat.le_trans hbw hsz3
    have kn4:=kn3.trans (KeepN.of_below hba)
    have hw4':=hw3'.trans (hba.mono hw3'.size)
    have hS4:=hS3.below hba
    have HN4:=Lib.hid hN4
    have l4:=hBp3.lt
    clear hN4 hN3
    go_wp2_with (at_builtin;refine wpList_append_own _ rfl _ _ 34 rfl (base) 95 i0 (.agg #[.int .u8 0,.int .i64 0,.int .i64 0,.slice none 0 0,.slice none 0 0]) 5 72 Tryz.underlying34 hi0 hz0 hz1 hz2 rfl (by decide) _ _ _ rfl (hlocs) ⟨W4.heap.size,0,none⟩ 1 1 [.int .u8 3,.int .i64 0,.int .i64 0,.slice none 0 0,.slice none 0 0] rfl rfl (World.news_of_block (Blk.new _ _ _)) (by simp [Value.oneCell']) (by unfold maxLen;omega) (by omega) (by first | omega | (simp;omega)) ?_;intro v' w3 hown' hgrow _;obtain ⟨g9,cap9,rfl⟩:=own_succP hown';have hBp5:=hBp4.grown hgrow (own_ne hlocs hBp4 (by decide));have p5:=hBp5.cell 1;have f5:=hBp5.frozen 1;have l5:=hBp5.lt)
    have hkg:=hgrow.size
    have kn5:=kn4.trans ((KeepN.grown hgrow hlocs).trans (KeepN.set_gp w3 1 (.slice (some ⟨g9,0,none⟩) (P.length+1) cap9)))
    have hw5':=(hw4'.grown hgrow hw4'.size (fun q hq=>Nat.le_trans hbase (hlocs.lt q hq).1)).setCell (p:=⟨gp,1,none⟩) hgp (.slice (some ⟨g9,0,none⟩) (P.length+1) cap9)
    have hS5:=hS4.kn ((KeepN.grown hgrow hlocs).trans (KeepN.set_gp w3 1 (.slice (some ⟨g9,0,none⟩) (P.length+1) cap9))) hBp4 ((hS4.1.grown hgrow (own_ne hlocs hS4.1 (by decide))).far (p:=⟨gp,1,none⟩) (by simpa using hgne) _)
    have hN5:=(HN4.out.app (x:=⟨3,0,0,[],[]⟩) ⟨_,_,rfl,World.ownsRow_nil _ _ _ _,OwnP.nil _ _⟩ rfl hgrow hown').far (i:=1) hBp5 (by decide) (by decide) (by decide) (.slice (some ⟨g9,0,none⟩) (P.length+1) cap9)
    (try simp only [Exit.inBlock,Exit.then])
    refine bodyPost_ret (results_none rfl _ _ _) rfl ⟨rfl,_,_,_,nd+1,hN5,fun vs hvs g hg=>?_,hBp5.set_ 1 _,hS5,Nat.add_le_add_left (Nat.le_add_right 1 _) _,⟨cells,HCG.out,.inr ⟨HLT.out,.inl ⟨HGN.out,rfl⟩⟩⟩,Nat.le_add_right 1 _,kn5,hw5'⟩
    rw [List.mem_singleton.1 hvs] at hg
    cases hg
   ·have HGN:=Lib.hid hgn
    rw [decide_eq_false hgn]
    clear hgn
    obtain ⟨pc,hpc,hpo,_⟩:=pickK_mem (arK C Ns L 0) HNE.out
    have hce:=cell_any gs baseL base' vL q C Ns L Os _ _ 0 W4 hS3 hO3 hL (Nat.le_trans hO5 (by decide)) (hT0.below hw3')
    rw [hpc] at hce
    have hl8:=few_len HFW.out HUB.out HCV.out hpc
    have hmem:=fun k (hk:k∈arK C Ns L 0 pc)=>(mem_arK.1 hk).1
    have hck:=fun k (hk:k∈arK C Ns L 0 pc)=>cov_kid HCV.out hk
    have HPC:=Lib.hid hpc
    obtain ⟨l,hle⟩:∃ l,l=arK C Ns L 0 pc:=⟨_,rfl⟩
    have hce2:Calls Tryz.prog 78 #[ptr gs,.slice A Os.length c,.int .i64 0] W4 fun e w'=>∃ A c,e=.returned (.tuple #[.int .i64 (pc.1:Int),.int .i64 (pc.2:Int),.slice A (arK C Ns L 0 pc).length c]) ∧
      OwnX w' W4.heap.size (.slice A (arK C Ns L 0 pc).length c) (arK C Ns L 0 pc)∧Below W4.heap.size W4 w':=hce
    rw [← hle] at hce2 hl8 hmem hck
    have HCE:=hideC hce2;have HME:=Lib.hid hmem;have HCK:=Lib.hid hck;have HLE:=Lib.hid hle
    clear hce hce2 hmem hck hle hpc hpo
    go_wp2_with fail
    with_reducible refine HCE.out.mono ?_
    rintro e W5 ⟨A5,c5,rfl,hX,hb5⟩
    replace hS3:=hS3.below hb5
    replace hBp3:=hBp3.below hb5 hBp3.lt
    replace hN3:=hN3.below hb5
    replace hO3:=hO3.below hb5
    replace kn3:=kn3.trans (KeepN.of_below hb5)
    replace hw3':=hw3'.trans (hb5.mono hw3'.size)
    replace hsz3:=Nat.le_trans hsz3 hb5.size
    have hXlo:=hX
    clear hb5 HCE p0 p1
    have p0:=hBp3.cell 0
    have p1:=hBp3.cell 1
    have hba:Below W5.heap.size W5 (W5.alloc (.cells #[.int .u8 1,.int .i64 (pc.1:Int),.int .i64 (pc.2:Int),.slice none 0 0,.slice none 0 0] 95)):=(Below.refl _ _).alloc (Nat.le_refl _) _
    have hN4:=hN3.below hba
    have hlocs:=hN4.own
    have hBp4:=hBp3.below hba hBp3.lt
    have hsz:base≤W5.heap.size:=Nat.le_trans hbw hsz3
    have kn4:=kn3.trans (KeepN.of_below hba)
    have hw4':=hw3'.trans (hba.mono hw3'.size)
    have hS4:=hS3.below hba
    have hX4:=hX.below hba
    have hO4:=hO3.below hba
    have HN4:=Lib.hid hN4
    have l4:=hBp3.lt
    clear hN4 hN3
    obtain ⟨i1,hi1,hy0,hy1,hy2⟩:=info_parts info_int
    go_wp2_with (at_builtin;refine wpList_append_own _ rfl _ _ 34 rfl (base) 95 i0 (.agg #[.int .u8 0,.int .i64 0,.int .i64 0,.slice none 0 0,.slice none 0 0]) 5 72 Tryz.underlying34 hi0 hz0 hz1 hz2 rfl (by decide) _ _ _ rfl (hlocs) ⟨W5.heap.size,0,none⟩ 1 1 [.int .u8 1,.int .i64 (pc.1:Int),.int .i64 (pc.2:Int),.slice none 0 0,.slice none 0 0] rfl rfl (World.news_of_block (Blk.new _ _ _)) (by simp [Value.oneCell']) (by unfold maxLen;omega) (by omega) (by first | omega | (simp;omega)) ?_;intro v' w3 hown' hgrow _;obtain ⟨g9,cap9,rfl⟩:=own_succP hown';have hBp5:=hBp4.grown hgrow (own_ne hlocs hBp4 (by decide));have p5:=hBp5.cell 1;have f5:=hBp5.frozen 1;have l5:=hBp5.lt)
    have hkg:=hgrow.size
    have kn45:KeepN gs gp (W5.alloc (.cells #[.int .u8 1,.int .i64 (pc.1:Int),.int .i64 (pc.2:Int),.slice none 0 0,.slice none 0 0] 95)) (w3.setCell ⟨gp,1,none⟩ (.slice (some ⟨g9,0,none⟩) (P.length+1) cap9)):=(KeepN.grown hgrow hlocs).trans (KeepN.set_gp w3 1 (.slice (some ⟨g9,0,none⟩) (P.length+1) cap9))
    have kn5:=kn4.trans kn45
    have hw5':=(hw4'.grown hgrow hw4'.size (fun q hq=>Nat.le_trans hbase (hlocs.lt q hq).1)).setCell (p:=⟨gp,1,none⟩) hgp (.slice (some ⟨g9,0,none⟩) (P.length+1) cap9)
    have hS5:=hS4.kn kn45 hBp4 ((hS4.1.grown hgrow (own_ne hlocs hS4.1 (by decide))).far (p:=⟨gp,1,none⟩) (by simpa using hgne) _)
    have hX5:=hX4.kn kn45 hS4.1 hBp4
    have hO5':=hO4.kn kn45 hS4.1 hBp4
    have hN5:=(HN4.out.app (x:=⟨1,(pc.1:Int),(pc.2:Int),[],[]⟩) ⟨_,_,rfl,World.ownsRow_nil _ _ _ _,OwnP.nil _ _⟩ rfl hgrow hown').far (i:=1) hBp5 (by decide) (by decide) (by decide) (.slice (some ⟨g9,0,none⟩) (P.length+1) cap9)
    have hBp6:=hBp5.set_ 1 (.slice (some ⟨g9,0,none⟩) (P.length+1) cap9)
    have hgl:∀ g,(Value.slice A5 l.length c5).ownBlock=some g→g < (w3.setCell ⟨gp,1,none⟩ (.slice (some ⟨g9,0,none⟩) (P.length+1) cap9)).heap.size:=fun g hg=>by
     obtain ⟨cs,hB⟩:=own_kind hX5 g hg
     exact hB.lt
    obtain ⟨W6,hW6⟩:∃ V,V=w3.setCell ⟨gp,1,none⟩ (.slice (some ⟨g9,0,none⟩) (P.length+1) cap9):=⟨_,rfl⟩
    rw [← hW6] at kn5 hw5' hS5 hX5 hO5' hN5 hBp6 hgl ⊢
    clear hW6 kn45 hBp5 p5 f5 l5 hown' hgrow hkg hS4 hX4 hO4 hBp4 hw4' kn4 hlocs hba HN4 l4 hX hS3 hBp3 hO3 kn3 hw3' p0 p1 hsz
    have hsz6:w.heap.size≤W6.heap.size:=kn5.1
    have hHND:=HND.out
    refine wp_loopF (β:=Nat×Value×List Nd×List Int×List Value×List (List Value)×Nat) (fun x f=>#[ptr gp,.slice A Os.length c,.int .i64 bi,f 3,f 4,f 5,.int .i64 (P.length:Int),f 7,f 8,f 9,f 10,f 11,f 12,f 13,f 14,f 15,f 16,f 17,f 18,f 19,f 20,f 21,f 22,f 23,f 24,f 25,f 26,f 27,f 28,f 29,f 30,f 31,f 32,f 33,f 34,f 35,f 36,f 37,f 38,f 39,f 40,f 41,f 42,f 43,f 44,f 45,f 46,f 47,f 48,f 49,f 50,f 51,f 52,f 53,f 54,f 55,f 56,f 57,f 58,f 59,f 60,f 61,f 62,f 63,f 64,f 65,f 66,f 67,f 68,f 69,f 70,f 71,f 72,f 73,f 74,f 75,f 76,f 77,f 78,f 79,f 80,f 81,f 82,f 83,f 84,f 85,f 86,f 87,f 88,f 89,f 90,f 91,f 92,f 93,f 94,f 95,f 96,f 97,f 98,f 99,f 100,f 101,f 102,f 103,f 104,f 105,f 106,f 107,f 108,f 109,f 110,f 111,f 112,.slice A5 l.length c5,.int .i64 (l.length:Int),.int .i64 (x.1:Int),f 116,f 117,f 118,f 119,f 120,f 121,f 122,f 123,f 124,f 125,f 126,f 127,f 128,f 129,f 130,f 131,f 132,f 133,f 134,f 135,f 136,f 137,f 138,f 139,f 140,f 141,f 142,f 143,f 144,f 145,f 146,f 147,f 148,f 149,f 150,f 151,f 152,f 153,f 154,f 155,f 156,f 157])
     (fun x ds W=>ds=[]∧x.1≤l.length∧GN W base x.2.1 (P ++ (⟨1,(pc.1:Int),(pc.2:Int),x.2.2.2.1,[]⟩ :: x.2.2.1)) (vss ++ (x.2.2.2.2.1 :: x.2.2.2.2.2.1))∧(∀ vs∈x.2.2.2.2.1 :: x.2.2.2.2.2.1,ChOK w.heap.size (.slice A5 l.length c5) vs)∧OwnX W W4.heap.size (.slice A5 l.length c5) l∧Blk W gp 91 #[ptr gs,x.2.1] ∧
      IsSr W gs baseL vL q C Ns L (x.2.2.2.2.2.2:Nat)∧OwnO W base' (.slice A Os.length c) Os∧KeepN gs gp w W∧W6.heap.size≤W.heap.size∧Below w0.heap.size w0 W∧x.2.2.2.2.2.2≤nd+1+x.1*TB∧x.2.2.1.length≤x.1*TB∧KidsQ (fun off k Q=>GQ C Ns L b off (lessL C Ns (cellsOf Os) (L.getD k 0)) Q) (P.length+1) (l.take x.1) x.2.2.1 x.2.2.2.1) (fun x=>l.length-x.1)
     (0,.slice (some ⟨g9,0,none⟩) (P.length+1) cap9,[],[],[.int .u8 1,.int .i64 (pc.1:Int),.int .i64 (pc.2:Int),.slice none 0 0,.slice none 0 0],[],nd+1) rfl
     ⟨rfl,Nat.zero_le _,hN5,(fun vs hvs g hg=>by rw [List.mem_singleton.1 hvs] at hg;cases hg),hX5,hBp6,hS5,hO5',kn5,Nat.le_refl _,hw5',Nat.le_add_right _ _,Nat.zero_le _,⟨rfl,rfl⟩⟩ ?_
    clear hN5 hX5 hBp6 hS5 hO5' kn5 hw5'
    rintro ⟨t,v,K,ch,vn,vss2,ndt⟩ f ds W ⟨rfl,ht,hN,hch,hXW,hBW,hSW,hOW,knW,hszW,hwW,hn2,hKl,hkq⟩
    dsimp only at ht hN hch hBW hSW hn2 hKl hkq ⊢
    by_cases hlt:t < l.length
    ·obtain ⟨k,hk⟩:∃ k,l[t]?=some k:=⟨_,List.getElem?_eq_getElem hlt⟩
     have hkm:=List.mem_of_getElem? hk
     have hkL:=HME.out k hkm
     obtain ⟨gX,oX,rfl,hgX,dX⟩:=hXW.at hk
     obtain ⟨s,hs⟩:∃ s,L[k]?=some s:=⟨_,List.getElem?_eq_getElem hkL⟩
     have hgd:L.getD k 0=s:=by rw [List.getD_eq_getElem?_getD,hs];rfl
     obtain ⟨hq1,hq2,hq3,hq4⟩:=grow_rd HPL.out hHND (Nat.lt_of_lt_of_le hlt hl8) hn2 hKl
     have htk:l.take (t+1)=l.take t ++ [k]:=by rw [List.take_add_one,hk];rfl
     have hcks:=HCK.out k hkm
     rw [hgd,← cellsOf_less] at hcks
     have hQn:(P ++ (⟨1,(pc.1:Int),(pc.2:Int),ch,[]⟩ :: K))[P.length]?=some ⟨1,(pc.1:Int),(pc.2:Int),ch,[]⟩:=by rw [List.getElem?_append_right (Nat.le_refl _),Nat.sub_self];rfl
     have hQl:(P ++ ((⟨1,(pc.1:Int),(pc.2:Int),ch,[]⟩:Nd) :: K)).length=P.length+1+K.length:=by simp;omega
     have hQset:(P ++ ((⟨1,(pc.1:Int),(pc.2:Int),ch,[]⟩:Nd) :: K)).set P.length ⟨1,(pc.1:Int),(pc.2:Int),ch ++ [((P.length+1+K.length:Nat):Int)],[]⟩=P ++ ((⟨1,(pc.1:Int),(pc.2:Int),ch ++ [((P.length+1+K.length:Nat):Int)],[]⟩:Nd) :: K):=by
      rw [List.set_append_right _ _ (Nat.le_refl _),Nat.sub_self];rfl
     obtain ⟨gq,cap,v3,v4,hveq,h1,h3,h4,hcell,⟨csq,hBq⟩,hbg,hcap⟩:=hN.cells hQn
     have hvn:vn=[.int .u8 1,.int .i64 (pc.1:Int),.int .i64 (pc.2:Int),v3,v4]:=by
      have h1':=h1
      rw [List.getElem?_append_right (by rw [HVL.out];exact Nat.le_refl _),HVL.out,Nat.sub_self] at h1'
      simpa using h1'
     subst hveq
     dsimp only at h1 h3 h4
     have hchl:=hkq.len
     rw [List.length_take] at hchl
     have hch8:ch.length≤8:=by omega
     have hQk:Q_ar P.length K.length (P ++ ((⟨1,(pc.1:Int),(pc.2:Int),ch,[]⟩:Nd) :: K)).length:=⟨by rw [hQl];omega,by rw [hQl];omega⟩
     obtain ⟨Q,hQ⟩:∃ Q,Q=P ++ ((⟨1,(pc.1:Int),(pc.2:Int),ch,[]⟩:Nd) :: K):=⟨_,rfl⟩
     rw [← hQ] at hN hQn hQl hQset hBW hQk
     have hPQ:P.length < Q.length:=hQk.1
     have hQset2:Q.set P.length ⟨1,(pc.1:Int),(pc.2:Int),ch ++ [(Q.length:Int)],[]⟩=P ++ ((⟨1,(pc.1:Int),(pc.2:Int),ch ++ [((P.length+1+K.length:Nat):Int)],[]⟩:Nd) :: K):=by rw [hQl];exact hQset
     obtain ⟨A3,c3,rfl,hc3⟩:=own5 h3
     have hch0:=hch vn (.head _)
     have hchv:∀ g,(Value.slice A3 ch.length c3).ownBlock=some g→w.heap.size≤g∧(Value.slice (some ⟨gX,oX,none⟩) l.length c5).ownBlock≠some g:=fun g hg=>hch0 g (by rw [hvn];exact hg)
     have hQ5:Q.length≤5000:=by rw [hQl];omega
     have p0:=hBW.cell 0
     have p1:=hBW.cell 1
     have HQ1:=Lib.hid hq1;have HQ2:=Lib.hid hq2;have HQ3:=Lib.hid hq3;have HQ4:=Lib.hid hq4;have HTK:=Lib.hid htk;have HCKS:=Lib.hid hcks;have HQN:=Lib.hid hQn;have HQL:=Lib.hid hQl;have HQS:=Lib.hid hQset2;have HQE:=Lib.hid hQ;have HVN:=Lib.hid hvn;have HCH:=Lib.hid hch;have HCV2:=Lib.hid hchv;have HS:=Lib.hid hs;have HGD:=Lib.hid hgd;have HKQ:=Lib.hid hkq;have HN2:=Lib.hid hn2;have HKL:=Lib.hid hKl;have HN:=Lib.hid hN;have H1:=Lib.hid h1
     clear hq1 hq2 hq3 hq4 htk hcks hQn hQl hQset hQset2 hQ hvn hch hchv hs hgd hkq hn2 hKl hchl hch0 hQk hk hkm hN h1
     go_wp2_with fail
     refine wp_mix (fun V=>V.cell? ⟨gp,1,none⟩=some (.slice (some ⟨gq,0,none⟩) Q.length cap)∧V.cell? ⟨gq,P.length*5+3,none⟩=some (.slice A3 ch.length c3)) 23 (by kernel_rfl) (by kernel_rfl) ⟨p1,hcell⟩ ?_
     have hr:=(Below.refl W.heap.size W).drew
     obtain ⟨u,hu⟩:∃ V,V=W.drew:=⟨_,rfl⟩
     rw [← hu] at hr ⊢
     clear hu
     (refine m_q 0 (v:=?_) (by kernel_rfl) rfl rfl (fun W hW=>?_) ?_;rotate_left;(obtain ⟨z1,z2⟩:=hW;go_simp;first | done | with_reducible rfl);simp only [pt1,pt3,pt4,pt5]);(refine m_q 1 (v:=?_) (by kernel_rfl) rfl rfl (fun W hW=>?_) ?_;rotate_left;(obtain ⟨z1,z2⟩:=hW;go_simp;first | done | with_reducible rfl);simp only [pt1,pt3,pt4,pt5]);(refine m_q 2 (v:=?_) (by kernel_rfl) rfl rfl (fun W hW=>?_) ?_;rotate_left;(obtain ⟨z1,z2⟩:=hW;go_simp;first | done | with_reducible rfl);simp only [pt1,pt3,pt4,pt5]);(refine m_q 3 (v:=?_) (by kernel_rfl) rfl rfl (fun W hW=>?_) ?_;rotate_left;(obtain ⟨z1,z2⟩:=hW;go_simp;first | done | with_reducible rfl);simp only [pt1,pt3,pt4,pt5]);(refine m_q 4 (v:=?_) (by kernel_rfl) rfl rfl (fun W hW=>?_) ?_;rotate_left;(obtain ⟨z1,z2⟩:=hW;go_simp;first | done | with_reducible rfl);simp only [pt1,pt3,pt4,pt5]);(refine m_q 5 (v:=?_) (by kernel_rfl) rfl rfl (fun W hW=>?_) ?_;rotate_left;(obtain ⟨z1,z2⟩:=hW;go_simp;first | done | with_reducible rfl);simp only [pt1,pt3,pt4,pt5]);(refine m_q 6 (v:=?_) (by kernel_rfl) rfl rfl (fun W hW=>?_) ?_;rotate_left;(obtain ⟨z1,z2⟩:=hW;go_simp;first | done | with_reducible rfl);simp only [pt1,pt3,pt4,pt5]);(refine m_q 7 (v:=?_) (by kernel_rfl) rfl rfl (fun W hW=>?_) ?_;rotate_left;(obtain ⟨z1,z2⟩:=hW;go_simp;first | done | with_reducible rfl);simp only [pt1,pt3,pt4,pt5]);(refine m_q 8 (v:=?_) (by kernel_rfl) rfl rfl (fun W hW=>?_) ?_;rotate_left;(obtain ⟨z1,z2⟩:=hW;go_simp;first | done | with_reducible rfl);simp only [pt1,pt3,pt4,pt5]);(refine m_q 9 (v:=?_) (by kernel_rfl) rfl rfl (fun W hW=>?_) ?_;rotate_left;(obtain ⟨z1,z2⟩:=hW;go_simp;first | done | with_reducible rfl);simp only [pt1,pt3,pt4,pt5]);(refine m_q 10 (v:=?_) (by kernel_rfl) rfl rfl (fun W hW=>?_) ?_;rotate_left;(obtain ⟨z1,z2⟩:=hW;go_simp;first | done | with_reducible rfl);simp only [pt1,pt3,pt4,pt5]);(refine m_q 11 (v:=?_) (by kernel_rfl) rfl rfl (fun W hW=>?_) ?_;rotate_left;(obtain ⟨z1,z2⟩:=hW;go_simp;first | done | with_reducible rfl);simp only [pt1,pt3,pt4,pt5]);(refine m_q 12 (v:=?_) (by kernel_rfl) rfl rfl (fun W hW=>?_) ?_;rotate_left;(obtain ⟨z1,z2⟩:=hW;go_simp;first | done | with_reducible rfl);simp only [pt1,pt3,pt4,pt5]);(refine m_q 13 (v:=?_) (by kernel_rfl) rfl rfl (fun W hW=>?_) ?_;rotate_left;(obtain ⟨z1,z2⟩:=hW;go_simp;first | done | with_reducible rfl);simp only [pt1,pt3,pt4,pt5]);(refine m_q 14 (v:=?_) (by kernel_rfl) rfl rfl (fun W hW=>?_) ?_;rotate_left;(obtain ⟨z1,z2⟩:=hW;go_simp;first | done | with_reducible rfl);simp only [pt1,pt3,pt4,pt5]);(refine m_q 15 (v:=?_) (by kernel_rfl) rfl rfl (fun W hW=>?_) ?_;rotate_left;(obtain ⟨z1,z2⟩:=hW;go_simp;first | done | with_reducible rfl);simp only [pt1,pt3,pt4,pt5]);(refine m_q 16 (v:=?_) (by kernel_rfl) rfl rfl (fun W hW=>?_) ?_;rotate_left;(obtain ⟨z1,z2⟩:=hW;go_simp;first | done | with_reducible rfl);simp only [pt1,pt3,pt4,pt5]);(refine m_q 17 (v:=?_) (by kernel_rfl) rfl rfl (fun W hW=>?_) ?_;rotate_left;(obtain ⟨z1,z2⟩:=hW;go_simp;first | done | with_reducible rfl);simp only [pt1,pt3,pt4,pt5])
     refine m_s1 18 (by kernel_rfl) rfl ?_
     go_wp2_with fail
     refine absN fun u1 hL hb1 hz=>?_
     clear hz
     obtain ⟨gL,hgL⟩:∃ x,x=u.heap.size:=⟨_,rfl⟩
     rw [← hgL] at hL ⊢
     clear hgL
     have hr1:=hr.trans (hb1.mono hr.size)
     refine m_keep ⟨onB hr1 p1,onB hr1 hcell⟩ ?_
     have hown3:=own_below h3 hr1
     have hsz1:base≤u1.heap.size:=Nat.le_trans hbw (Nat.le_trans knW.1 hr1.size)
     have HNW:=hideC (World.news_of_block hL)
     have hBq1:=hBq.below hr1 hBq.lt
     have hBW1:=hBW.below hr1 hBW.lt
     refine m_s1 19 (by kernel_rfl) rfl ?_
     go_wp2_with (at_builtin;refine wpList_append_lies _ rfl _ _ 78 rfl base 3 i1 (.int .i64 0) 1 8 Tryz.underlying78 hi1 hy0 hy1 hy2 rfl (by decide) _ _ _ rfl hown3 ⟨gL,0,none⟩ 1 1 [.int .i64 (Q.length:Int)] rfl rfl HNW.out (by simp [Value.oneCell']) (by omega) (by unfold maxLen;omega) (by omega) (by omega) _ rfl ?_)
     intro gk capk w5 hown5 hgrow5 hlies hlt5
     have hB5:Blk w5 gq 95 csq:=(hgrow5.block gq hBq1.lt (own_ne hown3 hBq1 (by decide))).trans hBq1
     have c5q:w5.cell? ⟨gq,P.length*5+3,none⟩=some (.slice A3 ch.length c3):=(hB5.cell _).trans ((hBq.cell _).symm.trans hcell)
     have f5q:=hB5.frozen (P.length*5+3)
     have l5q:=hB5.lt
     have hBW5:Blk w5 gp 91 #[ptr gs,.slice (some ⟨gq,0,none⟩) Q.length cap]:=(hgrow5.block gp hBW1.lt (own_ne hown3 hBW1 (by decide))).trans hBW1
     have hBu:=hr1.size
     have hgk:gk=u1.heap.size∨(Value.slice A3 ch.length c3).ownBlock=some gk:=hlies.symm.imp (fun e=>e) (fun e=>e)
     have hgkw:w.heap.size≤gk:=hgk.elim (fun e=>by rw [e];exact Nat.le_trans knW.1 hBu) (fun e=>(HCV2.out gk e).1)
     have hgkl:(Value.slice (some ⟨gX,oX,none⟩) l.length c5).ownBlock≠some gk:=hgk.elim (fun e e2=>by have:gX=gk:=Option.some.inj e2;omega) (fun e=>(HCV2.out gk e).2)
     have hkid:=(HN.out.below hr1).kid HQN.out H1.out hown3 (h4.below hr1) hown5 hgrow5 (hlies.imp id fun e=>e)
     dsimp only at hkid
     rw [HQS.out] at hkid
     have hsetv:(vss ++ vn :: vss2).set P.length [.int .u8 1,.int .i64 (pc.1:Int),.int .i64 (pc.2:Int),.slice (some ⟨gk,0,none⟩) (ch.length+1) capk,v4]=vss ++ ([.int .u8 1,.int .i64 (pc.1:Int),.int .i64 (pc.2:Int),.slice (some ⟨gk,0,none⟩) (ch.length+1) capk,v4] :: vss2):=by
      rw [List.set_append_right _ _ (by rw [HVL.out];exact Nat.le_refl _),HVL.out,Nat.sub_self];rfl
     rw [hsetv] at hkid
     have kn5:KeepN gs gp w w5:=(knW.trans (KeepN.of_below hr1)).kid hgrow5 (fun g hg=>(HCV2.out g hg).1)
     have kn6:=kn5.trans (KeepN.setN (gs:=gs) (gp:=gp) (i:=P.length*5+3) hB5 (.slice (some ⟨gk,0,none⟩) (ch.length+1) capk))
     have hw5:Below w0.heap.size w0 w5:=(hwW.trans (hr1.mono hwW.size)).grown hgrow5 (Nat.le_trans hwW.size hBu) (fun q hq=>Nat.le_trans hbase (hown3.lt q hq).1)
     have hw6:=hw5.setCell (p:=⟨gq,P.length*5+3,none⟩) (show w0.heap.size≤gq from Nat.le_trans hbase hbg) (.slice (some ⟨gk,0,none⟩) (ch.length+1) capk)
     have hX1:=hXW.below hr1
     have hX5:OwnX w5 W4.heap.size (.slice (some ⟨gX,oX,none⟩) l.length c5) l:=own_but hX1 (But.grown hgrow5) (fun g hg e=>(HCV2.out g e.symm).2 hg)
     have hX6:OwnX (w5.setCell ⟨gq,P.length*5+3,none⟩ (.slice (some ⟨gk,0,none⟩) (ch.length+1) capk)) W4.heap.size (.slice (some ⟨gX,oX,none⟩) l.length c5) l:=ownsRow_setCell_other hX5 (fun e=>own_ne hX5 hB5 (by decide) e.symm) _
     have hS1:=hSW.below hr1
     have hS5g:Blk w5 gs 85 #[ptr q,vL,.int .i64 (ndt:Int)]:=(hgrow5.block gs hS1.1.lt (own_ne hown3 hS1.1 (by decide))).trans hS1.1
     have hgsq:gs≠gq:=fun e=>by subst e;exact hS5g.ne_ hB5 (by decide) rfl
     have hgpq:gp≠gq:=fun e=>by subst e;exact hBW5.ne_ hB5 (by decide) rfl
     have hS6:IsSr (w5.setCell ⟨gq,P.length*5+3,none⟩ (.slice (some ⟨gk,0,none⟩) (ch.length+1) capk)) gs baseL vL q C Ns L (ndt:Nat):=⟨hS5g.far (p:=⟨gq,P.length*5+3,none⟩) (by simpa using hgsq) _,(hS1.2.grownT hown3 (by decide) (by decide) hgrow5).setT hB5 (by decide) (by decide) _⟩
     have hBW6:=hBW5.far (p:=⟨gq,P.length*5+3,none⟩) (by simpa using hgpq) (.slice (some ⟨gk,0,none⟩) (ch.length+1) capk)
     have hO6:=((hOW.below hr1).grown hown3 (by decide) (by decide) hgrow5).setT (i:=P.length*5+3) hB5 (by decide) (by decide) (.slice (some ⟨gk,0,none⟩) (ch.length+1) capk)
     have hsz5:=hgrow5.size
     refine m_keep ⟨hBW5.cell 1,c5q⟩ ?_
     (refine m_q 20 (v:=?_) (by kernel_rfl) rfl rfl (fun W hW=>?_) ?_;rotate_left;(go_simp;first | done | with_reducible rfl);simp only [pt1,pt3,pt4,pt5]);(refine m_q 21 (v:=?_) (by kernel_rfl) rfl rfl (fun W hW=>?_) ?_;rotate_left;(go_simp;first | done | with_reducible rfl);simp only [pt1,pt3,pt4,pt5])
     refine m_s1 22 (by kernel_rfl) rfl ?_
     go_wp2_with fail
     refine m_clear (by kernel_rfl) ?_
     refine m_end (by kernel_rfl) ?_
     obtain ⟨W7,hW7⟩:∃ V,V=w5.setCell ⟨gq,P.length*5+3,none⟩ (.slice (some ⟨gk,0,none⟩) (ch.length+1) capk):=⟨_,rfl⟩
     have hsW7:W6.heap.size≤W7.heap.size:=by rw [hW7];simp only [World.setCell,Array.size_modify];exact Nat.le_trans hszW (Nat.le_trans hBu hsz5)
     rw [← hW7] at hkid kn6 hw6 hX6 hS6 hBW6 hO6 ⊢
     have HKID:=Lib.hid hkid
     clear hW7 hkid kn5 hw5 hX1 hX5 hS1 hS5g hBW5 hB5 c5q f5q l5q hown5 hgrow5 hlies hlt5 hown3 hL HNW hBq1 hBW1 hsz1 hr hr1 hb1 hBq hcell hbg hcap h3 h4 hsetv hBW hSW hOW hXW knW hwW hszW p0 p1 hsz5 hBu dX hgX hgsq hgpq hgk
     have p0:=hBW6.cell 0
     have s1':=hS6.1.cell 1
     obtain ⟨AL,cL,rfl⟩:=hS6.2.val
     obtain ⟨gr,off,A1,c1,A2,c2,rfl,hgr,d0,d1,s1,s2⟩:=(hS6.2.isK (Nat.le_trans hL (by decide))).at HS.out
     obtain ⟨X,hX0⟩:∃ X,X=havN C Ns s:=⟨_,rfl⟩
     rw [← hX0] at d0 s1
     have hpos:0 < Os.length:=by
      refine Nat.pos_of_ne_zero fun e=>HNE.out ?_
      rw [List.eq_nil_of_length_eq_zero e];rfl
     have HWI:=hideC (without_cov base' (.slice A Os.length c) C Ns Os s X A1 c1 A2 c2 W7 hO6 hpos HU.out.1 hl hX0 s1 s2 (hT0.below hw6))
     clear hX0 s1 s2 hpos
     have hwb:wrap64 (bi-1)=bi-1:=by rw [HBI.out];exact IntWalk.wrap64_in _ ⟨by omega,by omega⟩
     go_wp2_with fail
     with_reducible refine HWI.out.mono ?_
     rintro e W8 ⟨v8,rfl,hO8,hb8⟩
     have hS8:=hS6.below hb8
     have hBW8:=hBW6.below hb8 hBW6.lt
     have hN8:=HKID.out.below hb8
     have hX8:=hX6.below hb8
     have hO68:=hO6.below hb8
     have kn8:=kn6.trans (KeepN.of_below hb8)
     have hw8:=hw6.trans (hb8.mono hw6.size)
     have hsz8:=Nat.le_trans hsW7 hb8.size
     have hP8:(P ++ ((⟨1,(pc.1:Int),(pc.2:Int),ch ++ [((P.length+1+K.length:Nat):Int)],[]⟩:Nd) :: K)).length=P.length+1+K.length:=by rw [List.length_append,List.length_cons];omega
     have hIC:=HIH.out (bi-1) ndt _ _ _ (lessO C Ns Os s) _ v8 W8 (by rw [HBI.out];omega) (Nat.le_of_succ_le hb) (by rw [hP8];exact HQ1.out) HQ2.out hw8 (Nat.le_trans hbw kn8.1) hS8 hBW8 hN8 hO8 (under_less HU.out s) HCKS.out
     have HIC:=hideC hIC
     obtain ⟨A8,c8,rfl⟩:=hO8.val
     clear hS6 hBW6 hX6 hO6 kn6 hw6 hsW7 hIC HWI d0 d1 s1' p0 HKID hb8 hN8
     go_wp2_with fail
     with_reducible refine HIC.out.mono ?_
     rintro e W9 ⟨rfl,Q2,vssn,v9,nd9,hN9,hch9,hB9,hS9,hnd9,hGQ9,hQ9,kn9,hw9⟩
     rw [hP8] at hGQ9
     rw [List.append_assoc,List.cons_append,List.append_assoc,List.cons_append] at hN9
     have hX9:=hX8.kn kn9 hS8.1 hBW8
     have hO9:=hO68.kn kn9 hS8.1 hBW8
     have kn99:=kn8.trans kn9
     have hs9:=Nat.le_trans hsz8 kn9.1
     have hgX8:gX < W8.heap.size:=by
      obtain ⟨cs,hB⟩:=own_kind hX8 gX rfl
      exact hB.lt
     have hcell:=cellsOf_less C Ns Os s
     have hkq2:=HKQ.out.snoc (k:=k) (Q:=Q2) (by show GQ C Ns L b (P.length+1+K.length) (lessL C Ns (cellsOf Os) (L.getD k 0)) Q2;rw [HGD.out,← hcell];exact hGQ9)
     rw [← HTK.out] at hkq2
     have HKQ2:=Lib.hid hkq2;have HCH9:=Lib.hid hch9;have HK8:=Lib.hid kn8.1
     have HND9:=Lib.hid (HQ3.out nd9 hnd9);have HQ92:=Lib.hid (show (K ++ Q2).length≤(t+1)*TB by rw [List.length_append];exact HQ4.out _ hQ9)
     clear hkq2 hch9 hGQ9 hnd9 hQ9 hcell
     go_wp2_with fail
     exact ⟨(t+1,v9,K ++ Q2,ch ++ [((P.length+1+K.length:Nat):Int)],_,vss2 ++ vssn,nd9),rfl,⟨by first | rfl | trivial,hlt,hN9,fun vs hvs=>(by
      rcases List.mem_cons.1 hvs with rfl | hvs
      ·intro g hg
       obtain rfl:gk=g:=by simpa [chG,Value.ownBlock] using hg
       exact ⟨hgkw,hgkl⟩
      ·rcases List.mem_append.1 hvs with hvs | hvs
       ·exact HCH.out vs (.tail _ hvs)
       ·intro g hg
        have h8:=HCH9.out vs hvs g hg
        exact ⟨Nat.le_trans HK8.out h8,fun e=>by have:gX=g:=Option.some.inj e;omega⟩),hX9,hB9,hS9,hO9,kn99,hs9,hw9,HND9.out,HQ92.out,HKQ2.out⟩,by show l.length-(t+1) < l.length-t;omega⟩
    ·obtain rfl:t=l.length:=by omega
     rw [List.take_length] at hkq
     have hend:=grow_end hl8 hn2 hKl
     have HKQ:=Lib.hid hkq;have HEND:=Lib.hid hend;have HCH:=Lib.hid hch
     clear hkq hend hn2 hKl hlt hch
     go_wp2_with fail
     go_end0
     exact ⟨rfl,_,_,_,ndt,hN,(fun vs hvs g hg=>(HCH.out vs hvs g hg).1),hBW,hSW,HEND.out.1,⟨cells,HCG.out,.inr ⟨HLT.out,.inr ⟨HGN.out,pc,K,ch,HPC.out,by rw [← HLE.out];exact HKQ.out,rfl⟩⟩⟩,HEND.out.2,knW,hwW⟩
end Mix2
end Go.Proofs.YtafpmkdlciioaaaGreatDoor
